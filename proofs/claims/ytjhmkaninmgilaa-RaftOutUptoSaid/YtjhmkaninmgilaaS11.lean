/- Part 11 of the proof of RaftOut; no condition. -/
import Derived.Test.YtjhmkaninmgilaaS08
import Derived.Test.YtjhmkaninmgilaaS05
import Derived.Test.YtjhmkaninmgilaaS10
import Derived.Test.YtjhmkaninmgilaaS09
set_option linter.defProp false
set_option linter.unusedVariables false
set_option linter.unusedSimpArgs false
set_option maxHeartbeats 4000000
open Go.IntKind (i64)
namespace Go.Proofs.Ytjhmkaninmgilaa
open Go Go.RowKit Go.dI Go.Proofs
def c81:bj Try.prog 81 s81 (pre 81) (cz 81):=by
 refine zF (vm (Φ:=cz) (Pre:=pre)) Try.func81 (v:=XH) ?_;intro K h G;obtain⟨_,_,rfl,F,_,_,rfl,E,rfl⟩:=h;obtain⟨a,rfl,J,w⟩:=uZ F;obtain⟨b,rfl,H,u⟩:=uZ E;have A:cz 81 [.list (a.map (D.int .i64)),.list (b.map (D.int .i64))] = .bool (decide (a=b)):=by simp[cz,fa]
 simp[XH,fi,eh,dY,cH,dZ,dy,fh,fm,fj,fZ,den,U.den,B.den,fD,aU,cV,eu,ep,er,fE,bT,cQ,ab,aP,br,ak,pre,A];refine⟨fun h=> ?_,fun h=> ?_⟩
 ·intro e;exact h (by rw[e])
 refine kZ.intro (fun j=> ∃n:Nat,j=[.bool false,.int .i64 n] ∧n<=a.length∧a.take n=b.take n) (fun j=>a.length-(I (.list j) 1).toNat) ⟨0,rfl,aC _,by simp⟩ ?_;intro j m C;obtain⟨n,rfl,t,d⟩:=C;clear m;rcases c:a[n]? with _|x
 ·have z:=su c;have f: ¬((n:Int)<a.length):=by omega
  have e:n=a.length:=by omega
  subst e;rw[dG,eB (by omega)]at d;simp[bT,d]
 ·have f:=so c;have i:(n:Int)<a.length:=by omega
  have r:=bU c;have o:IntKind.wrap .i64 ((n:Int)+1)=(n:Int)+1:=wrap64 (by omega) (by omega);obtain⟨y,k⟩: ∃y,b[n]? =some y:=⟨_,aQ (by omega)⟩;have s:a.take (n+1)=a.take n++[x] :=by rw[cO,c,eQ]
  have p:b.take (n+1)=b.take n++[y] :=by rw[cO,k,eQ]
  have g:(n:Int)<b.length:=by omega
  simp[bT,c,k,i,g,o,Nat.not_le.2 f];refine⟨fun q e=> ?_,fun l=>⟨⟨n+1,by simp,f,by rw[s,p,d,l]⟩,?_⟩⟩
  ·rw[e,k]at c;injection c with c;exact q c.symm
  ·show a.length-((n:Int)+1).toNat<a.length-(n:Int).toNat;omega
def SD:jg Try.prog pre cz [(81,s81)] :=aO c81 vm
def c62:bj Try.prog 62 s62 (pre 62) (cz 62):=by refine zF SD Try.func62 (v:=XT) ?_;intro q h p;obtain⟨_,_,rfl,k,_,_,rfl,j,rfl⟩:=h;obtain⟨m,o,rfl,f,b,i,d⟩:=vd k;obtain⟨l,n,rfl,e,a,g,c⟩:=vd j;simp[XT,fi,eh,dY,cH,dZ,dy,fh,fm,fj,fZ,den,U.den,B.den,fD,aU,cV,eu,ep,er,fE,bT,cQ,ab,aP,br,ak,pre,ae4,abx]
def SZ:jg Try.prog pre cz [(62,s62),(81,s81)] :=aO c62 SD
def c31:bj Try.prog 31 s31 (pre 31) (cz 31):=by refine zF SZ Try.func31 (v:=adF) ?_;intro d h c;obtain⟨x,_,rfl,b,y,_,rfl,a,rfl⟩:=h;refine zH D.Y D.bool false (y:=L5 x y) zK
def abL:jg Try.prog pre cz [(31,s31),(62,s62),(81,s81)] :=aO c31 SZ
def c8:bj Try.prog 8 s8 (pre 8) (cz 8):=by refine zF abL Try.func8 (v:=vc8) ?_;intro j h c;obtain⟨_,_,rfl,⟨a,rfl,i⟩,_,_,rfl,⟨b,rfl,g⟩,rfl⟩:=h;replace c:b≠0:=c;have d:cz 8 [.int .i64 a,.int .i64 b] = .int .i64 (gP a b):=rfl;simp[vc8,fi,eh,dY,cH,dZ,dy,fh,fm,fj,fZ,den,U.den,B.den,fD,aU,cV,eu,ep,er,fE,bT,cQ,pre,d,gP,c];exact⟨fun f e=>by omega,fun f e=>by omega⟩
attribute [local irreducible] TL
def Bi(x:D):D:=.agg (x.A.drop 2)
def kV(l:Taf)(n:Int):Taf:=l++List.replicate (n+1-l.length).toNat pT
def tK(x:D)(g:GS):GS:=
 let t:=kV g.told (cD 0 x).q;let y:=t.getD (cD 0 x).q.toNat .top
 {g with told:=t.set (cD 0 x).q.toNat x,bad:=g.bad||((cD 0 y).q !=0&&((cD 1 y).q !=(cD 1 x).q|| !L5 (Bi x) (Bi y)))}
def Iw{l:Taf}{n:Int}(h:(l.length:Int)<=n):kV (l++[pT]) n=kV l n:=by unfold kV;rw[dN,ah,aZ];congr 1;rw[show(n+1-(l.length:Int)).toNat=(n+1-((l.length+1:Nat):Int)).toNat+1 by omega,List.replicate_succ];rfl
def Ix{l:Taf}{n:Int}(h:n<(l.length:Int)):kV l n=l:=by unfold kV;rw[show(n+1-(l.length:Int)).toNat=0 by omega];simp
def zeroV:Ty->Tan
 |.int k=>.int k 0
 |.bool=>.bool false
 |.list _=>.slice none 0 0
 |_=>.pointer none
def ny:Tac:=dV.cells.map zeroV
def IE:Try.prog.built 78 [] =some ny.toArray:=by kernel_rfl
def Fa{w:Tam}{S:bz}: ∀(j:Nat) u c,ny[j]? =some u->pT.cells[j]? =some c->ca w S u c:=by
 intro j u c e h
 have k: ∀(l:List (Tan×D)),(∀p∈l,ca w S p.1 p.2)-> ∀(j:Nat) (u:Tan) (c:D),(l.map (·.1))[j]? =some u->(l.map (·.2))[j]? =some c->ca w S u c:=by intro l o j u c e h;rw[ab,cU]at e h;obtain⟨p,d,rfl⟩:=e;obtain⟨q,f,rfl⟩:=h;rw[d]at f;injection f with f;subst f;exact o p (bU d)
 refine k (ny.zip pT.cells) ?_ j u c (by rw[show(ny.zip pT.cells).map (·.1)=ny from rfl];exact e) (by rw[show(ny.zip pT.cells).map (·.2)=pT.cells from rfl];exact h)
 have m: ∀p∈ny.zip pT.cells,p=(Value.int .i64 0,D.int .i64 0)∨p=(.bool false,.bool false)∨p=(.slice none 0 0,.list []):=by have:ny.zip pT.cells=[(.int .i64 0,.int .i64 0),(.int .i64 0,.int .i64 0),(.int .i64 0,.int .i64 0),(.int .i64 0,.int .i64 0),(.int .i64 0,.int .i64 0),(.int .i64 0,.int .i64 0),(.int .i64 0,.int .i64 0),(.int .i64 0,.int .i64 0),(.int .i64 0,.int .i64 0),(.slice none 0 0,.list []),(.int .i64 0,.int .i64 0),(.bool false,.bool false),(.int .i64 0,.int .i64 0),(.int .i64 0,.int .i64 0),(.int .i64 0,.int .i64 0),(.bool false,.bool false),(.bool false,.bool false),(.int .i64 0,.int .i64 0),(.int .i64 0,.int .i64 0),(.int .i64 0,.int .i64 0),(.slice none 0 0,.list []),(.int .i64 0,.int .i64 0),(.int .i64 0,.int .i64 0),(.int .i64 0,.int .i64 0),(.slice none 0 0,.list []),(.slice none 0 0,.list []),(.bool false,.bool false),(.slice none 0 0,.list []),(.slice none 0 0,.list [])] :=rfl;rw[this];intro p d;simp only[aD,cu,or_false]at d;rcases d with rfl|rfl|rfl|rfl|rfl|rfl|rfl|rfl|rfl|rfl|rfl|rfl|rfl|rfl|rfl|rfl|rfl|rfl|rfl|rfl|rfl|rfl|rfl|rfl|rfl|rfl|rfl|rfl|rfl<;>first|exact .inl rfl|exact .inr (.inl rfl)|exact .inr (.inr rfl)
 intro p d;rcases m p d with rfl|rfl|rfl
 ·exact .int _ _
 ·exact .bool _
 ·exact .nil _ _
def Fb:Has dV pT:=by
 have d: ∀(c:Tal),(∀t∈c,t= .int .i64∨t= .bool∨ ∃u,t= .list u)->dn (.V c) (c.map fun t=>match t with| .int k=>.int k 0| .bool=>.bool false| .list _=>.list [] |_=>.top):=by
  intro c
  induction c with
  |nil=>intro _;exact dg.2 rfl
  |cons t c ih=>
   intro h;refine ag.2 ⟨_,_,rfl,?_,ih fun t e=>h t (aH _ e)⟩;rcases h t (by simp) with rfl|rfl|⟨u,rfl⟩
   ·exact⟨0,rfl,by decide⟩
   ·exact⟨_,rfl⟩
   ·exact⟨[],rfl,gw u,fun _ h=>by cases h⟩
 refine dQ.2 ⟨_,rfl,d ([.int .i64,.int .i64] ++Bj) ?_⟩;intro t e
 have: ∀t∈([.int .i64,.int .i64] ++Bj:Tal),(match t with| .int .i64=>true| .bool=>true| .list _=>true|_=>false)=true:=by rw[<-bY];rfl
 have h:=this t e;cases t with
 |int k=>cases k<;>first|exact .inl rfl|(exact absurd h (by decide))
 |bool=>exact .inr (.inl rfl)
 |list u=>exact .inr (.inr ⟨u,rfl⟩)
 |_=>simp at h
def pH{f:Nat}{ps:Tal}{Pre:Taf->Prop}{Φ:Taf->D}{w:Tam}{S:bz}{ow:Ow}{vs:Tac}{dd:Taf}{c:Bool}(H:bj Try.prog f ⟨ps,[(false,[(.bool,none)])],none⟩ Pre Φ)(p:Wf w S ow)(E:vs.length=dd.length)(q: ∀(i:Nat) v d,vs[i]? =some v->dd[i]? =some d->ca w S v d)(A:dn (.V ps) dd)(r:Pre dd)(t:Φ dd= .bool c):Calls Try.prog f vs.toArray w fun e F=>e= .returned (.bool c)∧bD ax ax w S ow F S ow∧Wf F S ow:=by
 refine(H.calls rfl w S vs dd p.s E q A r).mono ?_;rintro e y ⟨v,S',τ,rfl,hb,_,_,_,kR,_⟩
 have B:bD ax ax w S ow y S ow∧Wf y S ow:=⟨⟨hb.size,hb.os,hb.tape,hb.output,fun b _ m _ _=>hb.block b m,fun b m _ _=>hb.block b m,fun _ _ h=>h,fun b o C=>bh (hb.block b (p.s b o C)),fun _ _ h _=>h,fun _ _ h=>.inl h,fun _ _ h=>h,fun _ _ h=>.inl h⟩,
  ⟨fun b o C=>av (p.s b o C) hb.size,fun b l E=>av (p.o b l E) hb.size,p.d⟩⟩
 rw[t]at kR;rcases kR with⟨c',u,hq⟩|⟨u,_⟩
 ·injection u with u;subst u;unfold gl at hq;simp only[ai,if_false]at hq;obtain⟨x,z,k⟩:=hq;injection z with z;subst z;have G:ca y S' v (.bool c):=k.1;rw[G.gS];exact⟨rfl,B⟩
 ·exact absurd rfl u
def jZ{w0 w d:Tam}{S0 S e:bz}{ko ow jY:Ow}{X:Tai}(c:Wf w0 S0 ko)(f:Wf w S ow)(h:bD LG ax w0 S0 ko w S ow)(k:bD LG X w S ow d e jY)(l: ∀b,X b->w0.heap.size<=b):bD LG ax w0 S0 ko d e jY:=
 (h.tr c f k (fun b h=>.inr (l b h))).mono (fun _ h=>h.elim id id) (fun _ h=>h)
section
variable{w0 w:Tam}{S0 S:bz}{ko ow:Ow}{b b6 b9 i:Nat}{g:GS}{R:GR}{Q:HP}{a:Act}{xs:Tac}{j:Nat}{n:Int}
noncomputable def zT:Code:=.block 2 (.loop (.seq (.seq (.region 9 MI true) (.cond (.tmp 57) .skip (.exit 2))) (.block 3 (.region 10 GU false))))
def Kj(hQ:QP Q)(y:GM w S ow b (R.cells g.bad) R g)(lx:fG w S ow b9 78 xs)(hx:xs[0]? =some (.int .i64 n))(h0:0<=n)(hn:n<=300000000000)(Y:g.told.length<=300000000001)(k:Kn 109 a [(9,.pointer (some ⟨b9,0,none⟩)),(8,.int .i64 j),(6,.pointer (some ⟨b6,0,none⟩)),(0,az b),(1,.int .i64 i)])(t: ∀a W o v,Kn 109 a [(9,.pointer (some ⟨b9,0,none⟩)),(8,.int .i64 j),(6,.pointer (some ⟨b6,0,none⟩)),(0,az b),(1,.int .i64 i)] ->bD LG ax w S ow W S o->GM W S o b ({R with told:=v}.cells g.bad) {R with told:=v} {g with told:=kV g.told n}->(kV g.told n).length<=300000000001->Q .normal a W):zT.wp Try.prog Q a w:=by
 unfold zT
 refine wp_block (wp_loop_ghost (fun mm a W=> ∃(l:Taf) (v:Tan) (e:Ow),mm=(n+1-(l.length:Int)).toNat∧Kn 109 a [(9,.pointer (some ⟨b9,0,none⟩)),(8,.int .i64 j),(6,.pointer (some ⟨b6,0,none⟩)),(0,az b),(1,.int .i64 i)] ∧
  bD LG ax w S ow W S e∧GM W S e b ({R with told:=v}.cells g.bad) {R with told:=v} {g with told:=l}∧kV l n=kV g.told n∧l.length<=300000000001) (n+1-(g.told.length:Int)).toNat
  ⟨g.told,R.told,ow,rfl,k,bD.refl _ _ _ _ _,y,rfl,Y⟩ ?_)
 clear k;rintro mm a W ⟨l,v,e,rfl,k,DZ,gm1,hfl,hll⟩;have O:=lx.J DZ id;refine wp_seq (wp_seq (jj (n0:=8) ax mix (by exact hQ) aaw (fun _=>by kernel_rfl) ?_));intro L e2;have f:=gm1.O e2;have C:=O.O e2;have B:=DZ.W y.wf gm1.wf e2;have s0:=SX.refl ax L;obtain⟨A,cap,hv⟩:=f.told.slice;have X:v= .slice A l.length cap:=hv
 repeat (first|refine sm k fun a k=> ?_|refine ld k (C.cell id hx) fun a k=> ?_|refine ld k (f.cell id rfl) fun a k=> ?_)
 rw[show({R with told:=v}:GR).told=v from rfl,X]at k
 repeat (first|refine sm k fun a k=> ?_|refine ld k (C.cell id hx) fun a k=> ?_|refine ld k (f.cell id rfl) fun a k=> ?_)
 refine cm (c:=decide ((l.length:Int)<=n)) k rfl rfl rfl fun a k=> ?_;refine ar (aV k rfl ?_);have k:=k.sb (l:=[(9,.pointer (some ⟨b9,0,none⟩)),(8,.int .i64 j),(6,.pointer (some ⟨b6,0,none⟩)),(0,az b),(1,.int .i64 i)]);by_cases hc:(l.length:Int)<=n
 ·rw[if_pos (by simpa using hc)];refine wp_skip (wp_block (rg (fun J=>e J=some 12) hQ VO ?_));intro K e3;have m:=f.O e3;have N:=B.W y.wf f.wf e3;have s0:=SX.refl (fun J=>e J=some 12) K;have U: ¬e b=some 12:=by rw[m.obj.ow];decide
  repeat (first|refine sm k fun a k=> ?_|refine ld k (m.cell U rfl) fun a k=> ?_)
  refine my (ps:=[]) (vs:=ny) k (by assumption) rfl (by decide) rfl IE fun a k=> ?_;refine mO (kk:=29) (T:=78) k (by decide) rfl (by decide) rfl (by kernel_rfl) rfl (fun _=>SX.alloc _ _ _) fun a k=> ?_;obtain⟨F,r⟩:=bD.alloc m.wf (.cells (Value.agg ny.toArray).cells 78);have I:=m.J F r;refine nr k (by decide) rfl (by decide) fun ty a1 af=> ?_;obtain⟨M,w',G,o,p,s,H⟩:=I.told.Gj (P:=Try.prog) (tt:=28) (by kernel_rfl) rfl r ty K.heap.size (d:=pT) Fb (us:=ny) rfl (heap_alloc_new K _) (fun q u c h1 h2=>Fa q u c h1 h2) (th (by show l.length+1<=_;omega));have s1:SX (fun J=>e J=some 12) K w':=(SX.alloc _ _ _).trans (SX.iu (fun _ h=>h) p);refine⟨M,w',iq (k.op rfl) (k.op rfl) G,fun _=>s1,fun a k=> ?_⟩;have x:=I.EJ p s H;obtain⟨Av,cv,E⟩:=H.slice
  repeat refine sm k fun a k=> ?_
  refine jE (cur:={R with told:=v}.cells g.bad) k (by decide) rfl (by kernel_rfl) rfl rfl (by rw[E];rfl) x.obj.heap (by show 5<11;omega) (by rw[E];rfl) (fun h=>absurd rfl h) fun a k=> ?_;refine ar ?_;obtain⟨z,V,Z⟩:=x.obj.set s (us:=({R with told:=v}.cells g.bad).set 5 M);have a0:=x.setObj z V Z;have sA:=N.Z y.wf m.wf F nE;have sB:=sA.eY y.wf r p (.inl (by decide));have sC:=sB.eY y.wf s z (.inl (by decide));refine⟨_,?_,l++[pT],M,o,rfl,k.sb,sC,a0,(Iw hc).trans hfl,by rw[ah,aZ];omega⟩;rw[ah,aZ];omega
 ·rw[if_neg (by simpa using hc)];refine wp_exit ?_;have hd:=Ix (l:=l) (n:=n) (by omega);rw[hd]at hfl;show Q .normal a L;refine t a L e v k B ?_ ?_
  ·rw[<-hfl];exact f
  ·rw[<-hfl];exact hll
end
end Go.Proofs.Ytjhmkaninmgilaa
namespace Go.Proofs.Ytjhmkaninmgilaa
open Go Go.RowKit Go.dI Go.Proofs
def Mc{P:Tap}{ops:Tad}{Q:HP}{S:Tae}{n n0 i d j t:Nat}{A:Bool}{a:Act}{w:Tam}{m:Tab}{L r:List OK}{op:Op}(k:Kn n a m)(s:S w)(F:(L[j]?).bind (·.1)=some t)(D:lk m t=some undef)(z:d<n)(h: ∀B,Kn n B ((d,undef)::m)->TL P ops Q S n0 L r (i+1) B w):TL P ops Q S n0 L ((some d,op,some (j,A))::r) i a w:=by
 intro f E;obtain⟨⟨o,e,u⟩,c⟩:=r8 f E;obtain⟨I,p,C,l,J,H⟩:=o;simp only[O9,ae]at u;obtain⟨rfl,rfl,rfl⟩:=u
 have q:(ops[j]?).bind (·.dst)=some t:=by
  rw[<-F,<-f];unfold bC;rw[ab];cases e:ops[j]? with
  |none=>simp[e]
  |some o=>simp[e,O9]
 have v:Region.wanted ⟨some d,p,C,l,J,some (j,A)⟩ (yielded ops a.tmps)=false:=by unfold Region.wanted;have G:=k.2.2 t _ D;simp only[yielded,q,ch,G];rfl
 show ml P ops Q S n0 (r.length+1) i a w;unfold ml;rw[e];simp only;by_cases y:i<n0
 ·rw[if_pos y];exact⟨s,undef,.inr ⟨v,rfl⟩,h _ (k.put d undef z) f c⟩
 ·rw[if_neg y];exact(YieldsIf.wpOp (S:=S) e (.inr ⟨v,rfl⟩) s ⟨fun _=>s,h _ (k.put d undef z) f c⟩)
attribute [local irreducible] TL
def yC{w:Tam}{S:bz}{x:D}{us:Tac}(h:Has dV x)(J:us.length=29)(p: ∀(q:Nat) u c,us[q]? =some u->x.cells[q]? =some c->ca w S u c):
  ca w S (.agg (us.drop 2).toArray) (Bi x)∧Has uR (Bi x)∧us[0]? =some (.int .i64 (cD 0 x).q)∧us[1]? =some (.int .i64 (cD 1 x).q)∧ ∀u∈us,u.oneCell'=true:=by
 have H:=h;obtain⟨l,rfl,k⟩:=dQ.1 h;have m:l.length=29:=by rw[fU k,Ty.dq];rfl
 obtain⟨G,f⟩: ∃u,us[0]? =some u:=⟨_,aQ (by omega)⟩;obtain⟨F,e⟩: ∃u,us[1]? =some u:=⟨_,aQ (by omega)⟩;obtain⟨W,X,U,N,t⟩:=ag.1 k;obtain⟨V,r,T,M,s⟩:=ag.1 t;subst T;subst U;obtain⟨C,rfl,_⟩:=N;obtain⟨B,rfl,_⟩:=M;have P:=(p 0 G _ f rfl).cn;have O:=(p 1 F _ e rfl).cn;subst P O;refine⟨.agg _ _ (by rw[aX,J];show 29-2=r.length;simp only[bu]at m;omega) ?_,dQ.2 ⟨_,rfl,s⟩,f,e,?_⟩
 ·intro q u c o L;rw[aE]at o
  have A:(D.agg (.int .i64 C:: .int .i64 B::r)).cells[2+q]? =some c:=by show(D.int .i64 C:: .int .i64 B::r)[2+q]? =some c;rw[show 2+q=q+1+1 by omega];exact L
  exact p _ u c o A
 ·intro u o;obtain⟨q,E⟩:=aw o;have I:q<us.length:=(aG.1 E).1;obtain⟨K,v⟩:=cd H;have d:q<dV.cells.length:=by rw[jI];omega
  obtain⟨c,z,y⟩:=v q (dV.cells[q]'d) (aQ d);exact(p q u c E z).hZ y (bY.1 (show dV.cells.all Ty.scalar=true from rfl) _ (aF d))
def Lb{l:Taf}{n:Int}(h:0<=n):n.toNat<(kV l n).length:=by unfold kV;rw[ah,List.length_replicate];omega
section
variable{w0 w:Tam}{S0 S:bz}{ko ow:Ow}{b b6 b9 i:Nat}{g:GS}{R:GR}{Q:HP}{a:Act}{vo xs:Tac}{j:Nat}{n:Int}{A6:Tao Addr}{c6:Nat}{cs:Taf}{x:D}
noncomputable def Dd:Code:=.seq (.region 8 MK false) (.seq zT (.seq (.region 11 GQ true) (.seq (.region 12 GP false) (.seq (.seq (.region 13 GO false) (.cond (.tmp 94) (.region 14 CN false) .skip)) (.region 15 zg true)))))
def take_one(hQ:QP Q)(E:GM w S ow b (R.cells g.bad) R g)(lo:fG w S ow b6 75 vo)(h8:vo[6]? =some (.slice A6 cs.length c6))(i1:ca w S (.slice A6 cs.length c6) (.list cs))(i2:Has (.list dV) (.list cs))(hj:cs[j]? =some x)(h0:0<=(cD 0 x).q)(hn:(cD 0 x).q<=300000000000)(i0:g.told.length<=300000000001)(k:Kn 109 a [(8,.int .i64 j),(6,.pointer (some ⟨b6,0,none⟩)),(0,az b),(1,.int .i64 i)])(d1: ∀a W d4 v,Kn 109 a [(8,.int .i64 j),(6,.pointer (some ⟨b6,0,none⟩)),(0,az b),(1,.int .i64 i)] ->bD LG ax w S ow W S d4->GM W S d4 b ({R with told:=v}.cells (tK x g).bad) {R with told:=v} (tK x g)->(tK x g).told.length<=300000000001->Q .normal a W):Dd.wp Try.prog Q a w:=by
 have a9:=mh i2 x (bU hj);have j0:j<cs.length:=(aG.1 hj).1;generalize f3:(cD 0 x).q=n at h0 hn;unfold Dd;refine wp_seq (rg ax hQ aax ?_);intro w1 e1;have a0:=E.O e1;have a6:=lo.O e1;have b8:=(bD.refl LG ax w S ow).W E.wf E.wf e1;have s0:=SX.refl ax w1;obtain⟨bx,ox,cx,B,e3,g2,z,f7,U,j1,f6⟩:=yq (i1.J (bD.O e1 ax ax S ow)) hj a9;have g1:=a0.wf.s _ _ g2;obtain⟨i3,i4,a7,h7,V⟩:=yC a9 z U
 repeat (first|refine sm k fun a k=> ?_|refine ld k (a6.cell id h8) fun a k=> ?_)
 rw[e3]at k;refine px (el:=78) (sz:=29) k (by assumption) rfl (by decide) rfl rfl (by kernel_rfl) (by kernel_rfl) (by omega) (by omega) fun a k=> ?_;rw[bW]at k;refine lN (vs:=B) k rfl z (fun w' t q v o=>eF g1 (fun h=>h) (f7 q v o) w' t) fun a k=> ?_;refine iV (nn:=29) k (by decide) rfl (by decide) (by kernel_rfl) (fun zs _=>SX.alloc _ _ _) fun zs c4 a k=> ?_;refine jU (vs:=B) (cur:=zs.toArray) k (by decide) rfl (by rw[z];kernel_rfl) rfl rfl rfl (heap_alloc_new w1 _) (by rw[bH];omega) V (fun h=>absurd rfl h) fun a k=> ?_;refine ar ?_;rw[fill_eq c4 z];obtain⟨K,e2,L⟩:=jf (T:=78) (zs:=zs) (us:=B) a0.wf;have Z:=a0.J K e2;have h9:w.heap.size<=w1.heap.size:=b8.size;have a5:=a6.J K (fun e=>by have:=a6.lt;rw[show b6=w1.heap.size from e]at this;omega);have sA:=b8.Z E.wf a0.wf K (fun bb hb=>by rw[show bb=_ from hb];exact h9);have H: ∀(q:Nat) u c,B[q]? =some u->x.cells[q]? =some c->ca _ S u c:=fun q u c p A=>(U q u c p A).J K;generalize j2:w1.heap.size=b9 at k L h9 sA Z a5 H⊢;generalize i6:(w1.alloc _).setRow b9 _=w2 at L sA Z a5 H⊢;have k:=k.sb (l:=[(9,.pointer (some ⟨b9,0,none⟩)),(8,.int .i64 j),(6,.pointer (some ⟨b6,0,none⟩)),(0,az b),(1,.int .i64 i)]);clear K e2 i6 i3 e3 g2 f7 f6 g1 U s0 b8 a6 a0 e1;rw[f3]at a7;refine wp_seq (Kj (by exact hQ) Z L a7 h0 hn i0 k ?_);intro a w3 f v3 k J b2 e5;have d6:=L.J J id;have d8:=a5.J J id;have sB:=jZ E.wf Z.wf sA J nE;have b4: ∀(q:Nat) u c,B[q]? =some u->x.cells[q]? =some c->ca w3 S u c:=fun q u c p A=>(H q u c p A).J J;have a8:=Lb (l:=g.told) h0;have hN:((n.toNat:Nat):Int)=n:=Int.toNat_of_nonneg h0;obtain⟨y,hy⟩: ∃y,(kV g.told n)[n.toNat]? =some y:=⟨_,aQ a8⟩;have h4:(kV g.told n).getD n.toNat .top=y:=by rw[aj,hy,br]
 have f4:Has dV y:=b2.told.all y (bU hy);clear H L Z a5 sA J;refine wp_seq (jj (n0:=8) ax mix (by exact hQ) VN (fun _=>by kernel_rfl) ?_);intro w4 e4;have I:=b2.O e4;have a3:=d6.O e4;have c2:=d8.O e4;have sC:=sB.W E.wf b2.wf e4;have s0:=SX.refl ax w4;obtain⟨bt,g5,uy,b0,d2,f1,m,N,c9⟩:=I.told.elem hy;rw[jI]at m N;obtain⟨f9,g0,h6,h5,d0⟩:=yC f4 m c9
 repeat (first|refine sm k fun a k=> ?_|refine ld k (a3.cell id a7) fun a k=> ?_|refine ld k (I.cell id rfl) fun a k=> ?_)
 rw[<-hN]at k;rw[b0]at k;refine uN (el:=78) (sz:=29) k rfl rfl a8 fun a k=> ?_;refine lN (vs:=uy) k rfl m (fun w' t q v o=>eF d2 (fun h=>h) (N q v o) w' t) fun a k=> ?_;refine iV (nn:=29) k (by decide) rfl (by decide) (by kernel_rfl) (fun zs _=>SX.alloc _ _ _) fun zs c4 a k=> ?_;refine jU (vs:=uy) (cur:=zs.toArray) k (by decide) rfl (by rw[m];kernel_rfl) rfl rfl rfl (heap_alloc_new w4 _) (by rw[bH];omega) d0 (fun h=>absurd rfl h) fun a k=> ?_;refine ar ?_;rw[fill_eq c4 m];obtain⟨C,e0,a1⟩:=jf (T:=78) (zs:=zs) (us:=uy) I.wf;have Y:=I.J C e0;have g3:w.heap.size<=w4.heap.size:=sC.size;have a4:=c2.J C (fun e=>by have:=c2.lt;rw[show b6=w4.heap.size from e]at this;omega);have a2:=a3.J C (fun e=>by have:=a3.lt;rw[show b9=w4.heap.size from e]at this;omega);have sD:=sC.Z E.wf I.wf C (fun bb hb=>by rw[show bb=_ from hb];exact g3);have G: ∀(q:Nat) u c,B[q]? =some u->x.cells[q]? =some c->ca _ S u c:=fun q u c p A=>((b4 q u c p A).J (bD.O e4 ax ax S f)).J C;have F: ∀(q:Nat) u c,uy[q]? =some u->y.cells[q]? =some c->ca _ S u c:=fun q u c p A=>(c9 q u c p A).J C;generalize i8:w4.heap.size=d3 at k a1 g3 sD Y a4 a2 G F⊢;generalize i5:(w4.alloc _).setRow d3 _=w5 at a1 sD Y a4 a2 G F⊢;have k:=k.sb (l:=[(10,.pointer (some ⟨d3,0,none⟩)),(9,.pointer (some ⟨b9,0,none⟩)),(8,.int .i64 j),(6,.pointer (some ⟨b6,0,none⟩)),(0,az b),(1,.int .i64 i)]);clear C e0 i5 b0 d2 f1 N c9 f9 s0 sC c2 a3 I e4 b4 sB d8 d6 b2;refine wp_seq (rg ax hQ VM ?_);intro w6 e6;have b1:=Y.O e6;have c1:=a2.O e6;have d7:=a4.O e6;have c0:=a1.O e6;have sE:=sD.W E.wf Y.wf e6;have s0:=SX.refl ax w6;have P: ∀(q:Nat) u c,B[q]? =some u->x.cells[q]? =some c->ca w6 S u c:=fun q u c p A=>(G q u c p A).J (bD.O e6 ax ax S f);have b3: ∀(q:Nat) u c,uy[q]? =some u->y.cells[q]? =some c->ca w6 S u c:=fun q u c p A=>(F q u c p A).J (bD.O e6 ax ax S f)
 repeat refine sm k fun a k=> ?_
 refine lN (vs:=B.drop 2) k rfl (by rw[aX,z]) (fun w' t q v o=>by rw[aE]at o;rw[ao];exact c1.cell id o w' t) fun a k=> ?_
 repeat refine sm k fun a k=> ?_
 refine lN (vs:=uy.drop 2) k rfl (by rw[aX,m]) (fun w' t q v o=>by rw[aE]at o;rw[ao];exact c0.cell id o w' t) fun a k=> ?_
 refine gH (vs:=[.agg (B.drop 2).toArray,.agg (uy.drop 2).toArray]) k (by decide) rfl (by decide) c31.enter rfl (pH (dd:=[Bi x,Bi y]) (c:=L5 (Bi x) (Bi y)) c31 b1.wf rfl (fun q v d o hd=>by
  match q,o,hd with
  |0,o,hd=>injection o with o;injection hd with hd;subst o hd;exact(yC a9 z P).1
  |1,o,hd=>injection o with o;injection hd with hd;subst o hd;exact(yC f4 m b3).1) (ag.2 ⟨_,_,rfl,i4,ag.2 ⟨_,_,rfl,g0,dg.2 rfl⟩⟩) trivial rfl) ?_
 rintro e w7 ⟨rfl,F5,Xe⟩;refine⟨_,rfl,fun _=>F5.tu _,fun a k=> ?_⟩;have s1:=F5.tu ax
 repeat refine sm k fun a k=> ?_
 refine ar ?_;have g4:=b1.J F5 Xe;have h3:=c1.J F5 id;have i9:=d7.J F5 id;have g8:=c0.J F5 id;have sF:=sE.Z E.wf b1.wf F5 nE;have e7: ∀(q:Nat) u c,B[q]? =some u->x.cells[q]? =some c->ca w7 S u c:=fun q u c p A=>(P q u c p A).J F5;generalize c7:L5 (Bi x) (Bi y)=same at k;have k:=k.sb (l:=[(11,.bool same),(10,.pointer (some ⟨d3,0,none⟩)),(9,.pointer (some ⟨b9,0,none⟩)),(8,.int .i64 j),(6,.pointer (some ⟨b6,0,none⟩)),(0,az b),(1,.int .i64 i)]);clear F5 Xe s1 s0 sE d7 c1 c0 b1 e6 P b3 G F sD a4 a2 a1 Y
 have M: ∀(a:Act) (W:Tam) (c:Bool),GM W S f b ({R with told:=v3}.cells c) {R with told:=v3} {g with told:=kV g.told n,bad:=c}->fG W S f b9 78 B->(∀(q:Nat) u c,B[q]? =some u->x.cells[q]? =some c->ca W S u c)->bD LG ax w S ow W S f->
   c=(g.bad||((cD 0 y).q !=0&&((cD 1 y).q !=(cD 1 x).q|| !same)))->Kn 109 a [(9,.pointer (some ⟨b9,0,none⟩)),(8,.int .i64 j),(6,.pointer (some ⟨b6,0,none⟩)),(0,az b),(1,.int .i64 i)] ->(Code.region 15 zg true).wp Try.prog Q a W:=by
  intro a W c E lx U st hc k;refine jj (n0:=7) ax mix (by exact hQ) VJ (fun _=>by kernel_rfl) ?_;intro w8 e8;have r:=E.O e8;have D:=lx.O e8;have g7:=st.Z ‹GM w S ow b (R.cells g.bad) R g›.wf E.wf (bD.O e8 ax ax S f) nE;have s0:=SX.refl ax w8;obtain⟨bt,g5,i7,b0,f8,b5,d2,f1,b7,d9,f2⟩:=r.told.set (i:=n.toNat) (d:=x) (us:=B) r.wf a8 a9 (by rw[jI];exact z) (fun q u c p A=>(U q u c p A).J (bD.O e8 ax ax S f));rw[jI]at b5 b7 d9 f2
  repeat (first|refine sm k fun a k=> ?_|refine ld k (r.cell id rfl) fun a k=> ?_)
  refine ld k (D.cell id a7) fun a k=> ?_;refine lN (vs:=B) k rfl z (fun w' t q v o=>by rw[ao];exact D.cell id o w' t) fun a k=> ?_;rw[<-hN]at k;rw[b0]at k;refine uN (el:=78) (sz:=29) k rfl rfl a8 fun a k=> ?_;refine jU (vs:=B) (cur:=i7) k (by decide) rfl (by rw[z];kernel_rfl) rfl rfl rfl f8 b5 V (fun h=>absurd rfl h) fun a k=> ?_;refine ar ?_;have X:=r.EJ b7 d9 f2
  have f5:tK x g={g with told:=(kV g.told n).set n.toNat x,bad:=c}:=by unfold tK;simp only;rw[f3,h4,c7,hc]
  refine d1 _ _ f v3 (k.sb) (g7.eY ‹GM w S ow b (R.cells g.bad) R g›.wf r.wf b7 (.inl (by decide))) ?_ ?_
  ·rw[f5];exact X
  ·rw[f5];show((kV g.told n).set n.toNat x).length<=_;rw[aM];exact e5
 refine wp_seq (wp_seq (rg ax hQ VL ?_));intro w8 e8;have r:=g4.O e8;have D:=h3.O e8;have d5:=g8.O e8;have sG:=sF.W E.wf g4.wf e8;have O: ∀(q:Nat) u c,B[q]? =some u->x.cells[q]? =some c->ca w8 S u c:=fun q u c p A=>(e7 q u c p A).J (bD.O e8 ax ax S f);have s0:=SX.refl ax w8
 repeat (first|refine sm k fun a k=> ?_|refine ld k (d5.cell id h6) fun a k=> ?_)
 have mark: ∀(a:Act),Kn 109 a [(9,.pointer (some ⟨b9,0,none⟩)),(8,.int .i64 j),(6,.pointer (some ⟨b6,0,none⟩)),(0,az b),(1,.int .i64 i)] ->(g.bad||((cD 0 y).q !=0&&((cD 1 y).q !=(cD 1 x).q|| !same)))=true->(Code.region 14 CN false).wp Try.prog (Exit.then (Code.wp Try.prog (.region 15 zg true) Q) Q) a w8:=by
  intro a k hb;refine rg ax hQ VK ?_;intro w9 e9;have X:=r.O e9;have g9:=D.O e9;have g6:=sG.W E.wf r.wf e9;have s0:=SX.refl ax w9
  repeat refine sm k fun a k=> ?_
  refine jE (cur:={R with told:=v3}.cells g.bad) k (by decide) rfl (by kernel_rfl) rfl rfl rfl X.obj.heap (by show 10<11;omega) rfl (fun h=>absurd rfl h) fun a k=> ?_;obtain⟨p,A⟩:=X.yF true;exact ar (M _ _ true A (g9.J p id) (fun q u c z1 z2=>((O q u c z1 z2).J (bD.O e9 ax ax S f)).J p) (g6.eY E.wf X.wf p (.inl (by decide))) hb.symm (k.sb))
 by_cases hz:(cD 0 y).q=0
 ·refine cm (c:=false) k rfl rfl (by rw[hz];rfl) fun a k=> ?_
  repeat refine sm k fun a k=> ?_
  refine Mc k (by assumption) rfl rfl (by decide) fun a k=> ?_;refine Mc k (by assumption) rfl rfl (by decide) fun a k=> ?_
  repeat refine sm k fun a k=> ?_
  refine pk k rfl rfl fun a k=> ?_;refine ar (aV k rfl (wp_skip ?_));exact M _ _ g.bad r D O sG (by rw[hz];cases g.bad<;>rfl) (k.sb)
 have c5:((cD 0 y).q !=0)=true:=by simpa using hz
 refine cm (c:=true) k rfl rfl (congrArg some c5) fun a k=> ?_
 repeat (first|refine sm k fun a k=> ?_|refine ld k (D.cell id h7) fun a k=> ?_|refine ld k (d5.cell id h5) fun a k=> ?_)
 by_cases hq:((cD 1 y).q !=(cD 1 x).q)=true
 ·refine cm (c:=true) k rfl rfl (congrArg some hq) fun a k=> ?_
  repeat refine sm k fun a k=> ?_
  refine pk k rfl rfl fun a k=> ?_;refine pk k rfl rfl fun a k=> ?_;refine ar (aV k rfl (mark a (k.sb) ?_));rw[c5,hq];cases g.bad<;>rfl
 have f0:((cD 1 y).q !=(cD 1 x).q)=false:=by simpa using hq
 refine cm (c:=false) k rfl rfl (congrArg some f0) fun a k=> ?_
 repeat refine sm k fun a k=> ?_
 refine pV k (by assumption) rfl (by decide) rfl fun a k=> ?_;refine pk k rfl rfl fun a k=> ?_;refine pk k rfl rfl fun a k=> ?_;refine ar (aV k rfl ?_);cases same with
 |true=>
  refine wp_skip (M _ _ g.bad r D O sG (by rw[f0];cases g.bad<;>simp) (k.sb))
 |false=>
  refine mark a (k.sb) ?_;rw[c5];cases g.bad<;>simp
end
def rb(o:D)(lost:Bool)(g:GS):GS:=if g.eE.length<400∧lost=false then{g with eE:=g.eE++(cD 5 o).A} else g
def jq(cs:Taf)(g:GS):GS:=cs.foldl (fun g x=>tK x g) g
def u9(i:Nat)(o:D)(lost:Bool)(g:GS):GS:=mo i (jq (cD 6 o).A (rb o lost (if(cD 0 o).Y then oa i o g else g)))
structure LO(g g':GS):Prop where
 eX:g'.eX=g.eX
 df:g'.df=g.df
 bc:g'.bc=g.bc
 bM:g'.bM=g.bM
 saved:g'.saved.length=g.saved.length
def LO.trans{g g' g'':GS}(h:LO g g')(k:LO g' g''):LO g g'':=⟨k.eX.trans h.eX,k.df.trans h.df,k.bc.trans h.bc,k.bM.trans h.bM,k.saved.trans h.saved⟩
def LO.Vb{g g':GS}(h:LO g g')(k:tZ g):tZ g':=by obtain⟨c,l,d,f,e⟩:=h;exact⟨by rw[c];exact k.n5,by rw[c,l];exact k.df,by rw[c,d];exact k.bc,by rw[c,e];exact k.saved,by rw[f];exact k.lead,by rw[d];exact k.vl⟩
def Fk(i:Nat)(o:D)(g:GS):LO g (oa i o g):=⟨rfl,rfl,rfl,rfl,by unfold oa;simp⟩
def QY(o:D)(l:Bool)(g:GS):LO g (rb o l g):=by unfold rb;split<;>exact⟨rfl,rfl,rfl,rfl,rfl⟩
def O5(x:D)(g:GS):LO g (tK x g):=⟨rfl,rfl,rfl,rfl,rfl⟩
def xf: ∀(l:Taf) (g:GS),LO g (jq l g)
 | [],g=>⟨rfl,rfl,rfl,rfl,rfl⟩
 |x::r,g=>(O5 x g).trans (xf r _)
def FI{cs:Taf}{j:Nat}{x:D}(h:cs[j]? =some x)(g:GS):jq (cs.take (j+1)) g=tK x (jq (cs.take j) g):=by
 have c:cs.take (j+1)=cs.take j++[x] :=by rw[cO,h];rfl
 unfold jq;rw[c,List.foldl_append];rfl
def KP:hH.bytes<=1000:=by decide+kernel
def pG{n:Nat}(h:n<=100000000000):mK hH n:=by refine⟨by simp only[maxLen];omega,?_⟩;have:n*hH.bytes<=100000000000*1000:=Nat.mul_le_mul h KP;omega
section
variable{w0 w:Tam}{S0 S:bz}{ko ow:Ow}{b b6 b9 i:Nat}{g g':GS}{R:GR}{Q:HP}{a:Act}{vo xs:Tac}{j:Nat}{n:Int}{A6:Tao Addr}{c6:Nat}{cs:Taf}{x:D}
noncomputable def vw:Code:=.seq (.seq (.region 5 MO false) (.block 0 (.loop (.seq (.seq (.region 6 MN false) (.cond (.tmp 42) .skip (.exit 0))) (.seq (.block 1 Dd) (.region 7 ML false)))))) (.region 16 CM false)
def EG(w:Tam)(S:bz)(ow:Ow)(b:Nat)(g':GS):HP:=bodyPost Try.prog Try.f14 (qK w S ow b g')
def BP(F:QP Q)(C: ∀a w,EG w0 S0 ko b g' .normal a w->Q .normal a w)(u:Wf w0 S0 ko)(st:bD LG ax w0 S0 ko w S ow)(y:GM w S ow b (R.cells g.bad) R g)(U:R.la=R.lb)(N:R.va=R.vv)(hl:tZ g)(hi:i<g.eX.length)(T:Ok (bX g i) 0)(lo:fG w S ow b6 75 vo)(A:vo[6]? =some (.slice A6 cs.length c6))(P:ca w S (.slice A6 cs.length c6) (.list cs))(E:Has (.list dV) (.list cs))(Y: ∀x∈cs,0<=(cD 0 x).q∧(cD 0 x).q<=300000000000)(O:g.told.length<=300000000001)(hg:g'=mo i (jq cs g))(k:Kn 109 a [(6,.pointer (some ⟨b6,0,none⟩)),(0,az b),(1,.int .i64 i)]):vw.wp Try.prog Q a w:=by
 have a1:cs.length<=maxLen:=by obtain⟨l',Z,h2,_⟩:=bL.1 E;injection Z with Z;subst Z;exact h2.1
 have a0:maxLen<=9223372036854775807:=by decide
 unfold vw;refine wp_seq (wp_seq (rg ax F aaA ?_));intro w1 e1;have p:=y.O e1;have G:=SX.refl ax w1
 repeat refine sm k fun a k=> ?_
 refine ar ?_;have d:=(bD.refl LG ax w S ow).W y.wf y.wf e1
 refine wp_block (wp_loop_ghost (fun mm a W=> ∃(j:Nat) (v:Tan) (q:Ow),mm=cs.length-j∧j<=cs.length∧Kn 109 a [(8,.int .i64 j),(6,.pointer (some ⟨b6,0,none⟩)),(0,az b),(1,.int .i64 i)] ∧bD LG ax w S ow W S q∧
  GM W S q b ({R with told:=v}.cells (jq (cs.take j) g).bad) {R with told:=v} (jq (cs.take j) g)∧(jq (cs.take j) g).told.length<=300000000001) (cs.length-0)
  ⟨0,R.told,ow,rfl,aC _,k.sb,d,p,O⟩ ?_)
 clear k p d G e1 w1;rintro mm a W ⟨j,v,q,rfl,hjl,k,d,p,htj⟩;have J:=lo.J d id;refine wp_seq (wp_seq (rg ax F aaz ?_));intro w2 e2;have o:=p.O e2;have z:=J.O e2;have t:=d.W y.wf p.wf e2;have G:=SX.refl ax w2
 repeat (first|refine sm k fun a k=> ?_|refine ld k (z.cell id A) fun a k=> ?_)
 refine cm (c:=decide ((j:Int)<(cs.length:Int))) k rfl rfl rfl fun a k=> ?_;refine ar (aV k rfl ?_);have k:=k.sb (l:=[(8,.int .i64 j),(6,.pointer (some ⟨b6,0,none⟩)),(0,az b),(1,.int .i64 i)]);by_cases D:(j:Int)<(cs.length:Int)
 ·rw[if_pos (by simpa using D)];refine wp_skip ?_;obtain⟨x,M⟩: ∃x,cs[j]? =some x:=⟨_,aQ (by omega)⟩;obtain⟨L,K⟩:=Y x (bU M);have ht:=FI M g;refine wp_seq (wp_block (take_one (by exact F) o z A (P.J t) E M L K htj k ?_));intro a H I v3 k r m B;refine rg ax F aay ?_;intro w4 e4;have G:=SX.refl ax w4
  repeat refine sm k fun a k=> ?_
  refine ik (s:=((j+1:Nat):Int)) k (by assumption) rfl (by decide) rfl rfl (wrap64 (by omega) (by omega)) fun a k=> ?_
  repeat refine sm k fun a k=> ?_
  refine ar ⟨cs.length-(j+1),by omega,j+1,v3,I,rfl,by omega,k.sb,(jZ y.wf o.wf t r nE).W y.wf m.wf e4,?_,?_⟩
  ·rw[ht];exact m.O e4
  ·rw[ht];exact B
 ·rw[if_neg (by simpa using D)];refine wp_exit ?_;have V:j=cs.length:=by omega
  subst V;rw[dG]at o;show(Code.region 16 CM false).wp Try.prog Q a w2;refine rg ax F VI ?_;intro H e3;have m:=o.O e3;have r:=(jZ u y.wf st t nE).W u o.wf e3;have G:=SX.refl ax H
  repeat refine sm k fun a k=> ?_
  have f:=xf cs g;have X:kg H S q b (jq cs g):=⟨_,m,U,N⟩;refine gH (vs:=[az b,.int .i64 i]) k (by decide) rfl (by decide) JG rfl (As X (f.Vb hl) (by rw[f.eX];exact hi) (by unfold bX;rw[f.eX];exact T)) ?_;rintro e w4 ⟨S',bR,rfl,qQ,hg4⟩;refine⟨_,rfl,fun h=>absurd rfl h,fun a k=> ?_⟩;refine ar (C _ _ (lP ZR k ⟨S',bR,rfl,jZ u m.wf r qQ nE,by rw[hg];exact hg4⟩).2)
noncomputable def Jw:Code:=.seq (.seq (.region 3 MQ false) (.cond (.tmp 27) (.region 4 MP true) .skip)) vw
def EF{A5:Tao Addr}{c5:Nat}{ms:Taf}{o:D}{lost:Bool}(hQ:QP Q)(s: ∀a w,EG w0 S0 ko b g' .normal a w->Q .normal a w)(f:Wf w0 S0 ko)(st:bD LG ax w0 S0 ko w S ow)(gr:kg w S ow b g)(v:tZ g)(hi:i<g.eX.length)(N:Ok (bX g i) 0)(lo:fG w S ow b6 75 vo)(H:vo[6]? =some (.slice A6 cs.length c6))(M:ca w S (.slice A6 cs.length c6) (.list cs))(V:Has (.list dV) (.list cs))(a9:vo[5]? =some (.slice A5 ms.length c5))(b0:ca w S (.slice A5 ms.length c5) (.list ms))(U:Has (.list hH) (.list ms))(c1:ms.length<=5000000000)(b1:(cD 5 o).A=ms)(W: ∀x∈cs,0<=(cD 0 x).q∧(cD 0 x).q<=300000000000)(K:g.told.length<=300000000001)(hg:g'=mo i (jq cs (rb o lost g)))(k:Kn 109 a [(3,.bool lost),(6,.pointer (some ⟨b6,0,none⟩)),(0,az b),(1,.int .i64 i)]):Jw.wp Try.prog Q a w:=by
 obtain⟨R,gm,T,I⟩:=gr;unfold Jw;refine wp_seq (wp_seq (rg ax hQ aaC ?_));intro w1 z;have q:=gm.O z;have G:=lo.O z;have E:=st.W f gm.wf z;have s0:=SX.refl ax w1
 have go: ∀(a:Act),rb o lost g=g->Kn 109 a [(6,.pointer (some ⟨b6,0,none⟩)),(0,az b),(1,.int .i64 i)] ->vw.wp Try.prog Q a w1:=by intro a he k;rw[he]at hg;exact BP hQ s f E q T I v hi N G H (M.J (bD.O z ax ax S ow)) V W K hg k
 obtain⟨A,c2,hv⟩:=q.eE.slice
 repeat (first|refine sm k fun a k=> ?_|refine ld k (q.cell id rfl) fun a k=> ?_)
 rw[hv]at k
 repeat refine sm k fun a k=> ?_
 by_cases X:decide ((g.eE.length:Int)<400)=true
 ·refine cm (c:=true) k rfl rfl (congrArg some X) fun a k=> ?_
  repeat refine sm k fun a k=> ?_
  refine pV k (by assumption) rfl (by decide) rfl fun a k=> ?_;refine pk k rfl rfl fun a k=> ?_;refine ar (aV k rfl ?_);cases lost with
  |true=>
   refine wp_skip (go a (by unfold rb;rw[if_neg (by simp)]) (k.sb))
  |false=>
   have k:=k.sb (l:=[(6,.pointer (some ⟨b6,0,none⟩)),(0,az b),(1,.int .i64 i)]);refine jj (n0:=7) (fun Z=>ow Z=some 11) mix (by exact hQ) aaB (fun _=>by kernel_rfl) ?_;intro w2 Y;have m:=q.O Y;have t:=G.O Y;have a0:=E.W f q.wf Y;have s0:=SX.refl (fun Z=>ow Z=some 11) w2;have a5: ¬ow b=some 11:=by rw[m.obj.ow];decide
   have a7: ¬ow b6=some 11:=by rw[t.ow];intro e;cases e
   repeat (first|refine sm k fun a k=> ?_|refine ld k (t.cell a7 a9) fun a k=> ?_|refine ld k (m.cell a5 rfl) fun a k=> ?_)
   refine nr k (by decide) rfl (by decide) fun ty b8 af=> ?_;obtain⟨A',c',F,a3,hA,b4,b5,b3⟩:=((b0.J (bD.O z ax ax S ow)).J (bD.O Y ax ax S ow)).source (fun d hd=>(cd (mh U d hd)).1);injection a3 with a6 _ a4;subst a6 a4;obtain⟨v',w',L,c0,p,u,O⟩:=m.eE.mc (P:=Try.prog) (tt:=56) (ys:=ms) (by kernel_rfl) rfl m.wf ty A5 c5 F hA b4 b5 (mh U) b3 (pG (by have:=of_decide_eq_true X;omega));have s1:SX (fun Z=>ow Z=some 11) w2 w':=SX.iu (fun _ h=>h) p;refine⟨v',w',iq (k.op rfl) (k.op rfl) L,fun _=>s1,fun a k=> ?_⟩;have y:=m.oh p u O;have a2:=t.J p id;have C:=a0.eY f m.wf p (.inl (by decide));obtain⟨Av,cv,J⟩:=O.slice
   repeat refine sm k fun a k=> ?_
   refine jE (cur:=R.cells g.bad) k (by decide) rfl (by kernel_rfl) rfl rfl (by rw[J];rfl) y.obj.heap (by show 4<11;omega) (by rw[J];rfl) (fun h=>absurd rfl h) fun a k=> ?_;refine ar ?_;obtain⟨r,a8,b2⟩:=y.obj.set u (us:=(R.cells g.bad).set 4 v');have b7:=y.setObj r a8 b2;have a1:=a2.J r id;have B:=C.eY f u r (.inl (by decide));have he:rb o false g={g with eE:=g.eE++ms}:=by unfold rb;rw[if_pos ⟨by have:=of_decide_eq_true X;omega,rfl⟩,b1]
   rw[he]at hg;exact BP (R:={R with eE:=v'}) (g:={g with eE:=g.eE++ms}) hQ s f B b7 T I ⟨v.n5,v.df,v.bc,v.saved,v.lead,v.vl⟩ hi N a1 H ((((M.J (bD.O z ax ax S ow)).J (bD.O Y ax ax S ow)).J p).J r) V W K hg (k.sb)
 ·refine cm (c:=false) k rfl rfl (congrArg some (cw.2 X)) fun a k=> ?_
  repeat refine sm k fun a k=> ?_
  refine pk k rfl rfl fun a k=> ?_;refine ar (aV k rfl (wp_skip ?_));exact go a (by unfold rb;rw[if_neg (by rintro⟨h1,_⟩;exact X (decide_eq_true (by omega)))]) (k.sb)
end
def HV{w:Tam}{S:bz}{ow:Ow}{b i:Nat}{g:GS}{vo:Tan}{o:D}{lost:Bool}(h:kg w S ow b g)(hn:nq ow)(hl:tZ g)(hi:i<g.eX.length)(O:Ok (bX g i) 0)(ho:ca w S vo o)(a3:Has yJ o)(b4:(cD 7 (g.saved.getD i .top)).A.length+(cD 3 o).A.length<=300000000000)(b5:(cD 5 o).A.length<=5000000000)(b8: ∀x∈(cD 6 o).A,0<=(cD 0 x).q∧(cD 0 x).q<=300000000000)(a4:g.told.length<=300000000001):
  Calls Try.prog 14 [az b,.int .i64 i,vo,.bool lost].toArray w (qK w S ow b (u9 i o lost g)):=by
 obtain⟨co,Z,rfl,rfl,a9,a6,c,s,B⟩:=L7 ho a3 rfl
 obtain⟨E,p,m,c3,f,C,c6,d,rfl⟩: ∃E p m c3 f C c6 d,co=[E,p,m,c3,f,C,c6,d] :=by
  have W:co.length=8:=a9
  match co,W with
  | [E,p,m,c3,f,C,c6,d],_=>exact⟨E,p,m,c3,f,C,c6,d,rfl⟩
 obtain⟨d0,d1,d2,d3,d4,d5,d6,d7,rfl⟩: ∃E p m c3 f C c6 d,Z=[E,p,m,c3,f,C,c6,d] :=by
  have V:Z.length=8:=a6
  match Z,V with
  | [E,p,m,c3,f,C,c6,d],_=>exact⟨E,p,m,c3,f,C,c6,d,rfl⟩
 obtain⟨x0,L,b7⟩:=cI s 0 .bool (by rw[Ty.dq];rfl);injection L with L;subst L;obtain⟨sv,rfl⟩:=b7;obtain rfl:=(c 0 _ _ rfl rfl).gS;obtain⟨x5,K,U⟩:=cI s 5 (.list hH) (by rw[Ty.dq];rfl);injection K with K;subst K;obtain⟨x6,J,T⟩:=cI s 6 (.list dV) (by rw[Ty.dq];rfl);injection J with J;subst J;have t:d5.A.length<=5000000000:=b5;have u: ∀x∈d6.A,0<=(cD 0 x).q∧(cD 0 x).q<=300000000000:=b8;obtain⟨a8,A5,G,d8⟩:=sq (c 5 _ _ rfl rfl) U;obtain⟨a7,A6,F,c9⟩:=sq (c 6 _ _ rfl rfl) T;subst d8 c9;have N:=c 5 _ _ rfl rfl;have M:=c 6 _ _ rfl rfl;generalize e2:d5.A=r at a8 N c B t ho;generalize d9:d6.A=cs at a7 M c B u ho;subst a8 a7;have e0:Wf w S ow:=by obtain⟨R,A,_⟩:=h;exact A.wf
 refine kv Try.func14 NG WR aeJ (by show 4<=109;omega) ?_;intro a k;have hQ:=ju (P:=Try.prog) (fn:=Try.f14) (R:=qK w S ow b (u9 i (D.agg [.bool sv,d1,d2,d3,d4,.list r,.list cs,d7]) lost g));refine wp_seq (rg ax hQ aaF ?_);intro w1 e1;refine rq (us:=[.bool sv,p,m,c3,f,.slice A5 r.length G,.slice A6 cs.length F,d]) k (by decide) rfl (by decide) rfl rfl (fun h=>absurd rfl h) fun a k=> ?_;refine ar ?_;obtain⟨R0,A,a5,a2⟩:=h;have y:=A.O e1;have sA:bD LG ax w S ow w1 S ow:=bD.O e1 LG ax S ow;obtain⟨z,a1⟩:=bD.alloc y.wf (.cells [.bool sv,p,m,c3,f,.slice A5 r.length G,.slice A6 cs.length F,d].toArray 75);have I:=fG.new y.wf 75 [.bool sv,p,m,c3,f,.slice A5 r.length G,.slice A6 cs.length F,d];have Y:=y.J z a1;have sB:=sA.Z A.wf y.wf z nE;have e6:w1.heap.size=w.heap.size:=by rw[e1.heap]
 generalize e5:w1.heap.size=b6 at k I;generalize w1.alloc _=w2 at I Y sB z a1⊢;clear z sA y e1;have k:=k.sb (l:=[(3,.bool lost),(6,.pointer (some ⟨b6,0,none⟩)),(0,az b),(1,.int .i64 i)]);refine wp_seq (wp_seq (rg ax hQ aaE ?_));intro w3 e3;have X:=Y.O e3;have H:=I.O e3;have sC:=sB.W A.wf Y.wf e3;have s0:=SX.refl ax w3
 repeat (first|refine sm k fun a k=> ?_|refine ld k (H.cell id rfl) fun a k=> ?_)
 refine ar (aV k rfl ?_);have k:=k.sb (l:=[(3,.bool lost),(6,.pointer (some ⟨b6,0,none⟩)),(0,az b),(1,.int .i64 i)]);cases sv with
 |false=>
  refine wp_skip (EF (cs:=cs) (ms:=r) (o:=D.agg [.bool false,d1,d2,d3,d4,.list r,.list cs,d7]) (lost:=lost) (g:=g) (b6:=b6) (i:=i) (vo:=[.bool false,p,m,c3,f,.slice A5 r.length G,.slice A6 cs.length F,d]) hQ (fun a w h=>h) A.wf sC ⟨R0,X,a5,a2⟩ hl hi O H rfl (M.J sC) T rfl (N.J sC) U t rfl u a4 rfl (k.sb))
 |true=>
  refine rg ax hQ aaD ?_;intro w4 e4;have b1:=X.O e4;have a0:=H.O e4;have sD:=sC.W A.wf X.wf e4;have s0:=SX.refl ax w4
  repeat refine sm k fun a k=> ?_
  refine lN (vs:=[.bool true,p,m,c3,f,.slice A5 r.length G,.slice A6 cs.length F,d]) k rfl rfl (fun w' b3 q v hv=>by rw[ao];exact a0.cell id hv w' b3) fun a k=> ?_;refine gH (vs:=[az b,.int .i64 i,.agg [.bool true,p,m,c3,f,.slice A5 r.length G,.slice A6 cs.length F,d].toArray]) k (by decide) rfl (by decide) QG rfl (H2 ⟨R0,b1,a5,a2⟩ hn (by rw[hl.saved];exact hi) (ho.J sD) a3 hi O b4) ?_;rintro e w5 ⟨S5,JT,rfl,qT,LM⟩;refine⟨_,rfl,fun h=>absurd rfl h,fun a k=> ?_⟩;refine ar ?_;have sE:=jZ A.wf b1.wf sD qT nE;have b2:=a0.J qT id;have b0:=Fk i (D.agg [.bool true,d1,d2,d3,d4,.list r,.list cs,d7]) g;exact EF (cs:=cs) (ms:=r) (o:=D.agg [.bool true,d1,d2,d3,d4,.list r,.list cs,d7]) (lost:=lost) (g:=oa i (D.agg [.bool true,d1,d2,d3,d4,.list r,.list cs,d7]) g) (b6:=b6) (i:=i) (vo:=[.bool true,p,m,c3,f,.slice A5 r.length G,.slice A6 cs.length F,d]) hQ (fun a w h=>h) A.wf sE LM (b0.Vb hl) hi O b2 rfl (M.J sE) T rfl (N.J sE) U t rfl u a4 rfl (k.sb)
def qY:Ob:=⟨[true],[jd],[jd],false⟩
section
variable{w w':Tam}{S S':bz}{ow bR:Ow}{l b:Nat}{s:RS}
def OD{i t:Int}(B:Wf w S ow)(hi:jo .i64 i)(U:jo .i64 t)(h:okB i t=true∧(i=0↔t=0))(W:1000<=l):
  Calls Try.prog 22 #[.int .i64 i,.int .i64 t] w fun e w'=> ∃b S' bR,e= .returned (.pointer (some ⟨b,0,none⟩))∧bD (iE l) ax w S ow w' S' bR∧Wf w' S' bR∧ke w' S' bR l qY b [[.int .i64 i,.int .i64 t,.list []]] ∧w.heap.size<=b:=by
 have r:cz 22 [.int .i64 i,.int .i64 t] = .eS [.eS [],oT i t []] :=by show jP i t=_;rw[jP,if_pos h]
 refine(cnw.y9 _ rfl rfl w S (fun _=>0) (fun _=>.nilIface) [.int .i64 i,.int .i64 t] [.int .i64 i,.int .i64 t] [] ⟨B.s,⟨.int _ _,.int _ _,trivial⟩,rfl,fun o Q cs f=>by simp at f,fun i j hi=>by simp at hi,fun j k b m=>by simp[Ob.jz]at m,fun j o b m=>by simp[Ob.jz]at m,fun y=>by simp at y⟩ (ag.2 ⟨_,_,rfl,⟨i,rfl,hi⟩,ag.2 ⟨_,_,rfl,⟨t,rfl,U⟩,dg.2 rfl⟩⟩) ?_).mono ?_
 ·refine⟨trivial,?_⟩;show((cz 22 [.int .i64 i,.int .i64 t]).A.getD 0 .top).gk=false;rw[r];rfl
 rintro e w1 ⟨v,S',τ',βn,rfl,f⟩;obtain⟨d0,n,hd,E,p,u⟩:=f.res;have F:Ob.new ⟨[false,false],[],[jd],true⟩=true:=rfl;rw[F]at p;simp only[if_true]at p;obtain⟨R,I⟩:=p;have g:cz 22 [.int .i64 i,.int .i64 t] = .eS (d0::n.map .agg):=hd;rw[r]at g;injection g with g;injection g with _ g;have D:n.length=1:=E
 obtain⟨A,rfl⟩: ∃A,n=[A] :=by
  match n,D with
  | [A],_=>exact⟨A,rfl⟩
 have L:A=[.int .i64 i,.int .i64 t,.list []] :=by injection g with g _;injection g with g;exact g.symm
 subst L;have x:=u 0 jd _ rfl rfl;have N:ka ⟨[false,false],[],[jd],true⟩ (fun _=>0) βn 0=βn:=rfl;rw[N]at x
 have q: ∀k,¬tR (⟨[false,false],[],[jd],true⟩:Ob) (fun _=>0) (fun _=>Value.nilIface) k:=by
  rintro k (⟨o,f,_⟩|⟨j,m,_⟩)
  ·simp at f
  ·simp[Ob.jz]at m
 have G: ∀k,tR qY (fun _=>βn) τ' k->w.heap.size<=k:=by
  rintro k (⟨o,f,rfl⟩|⟨j,m,a⟩)
  ·exact I
  ·rcases f.gh j k (by unfold kF;exact m) a with c|c
   ·exact c
   ·exact absurd c (q k)
 have C:=f.below.size
 classical
 refine⟨βn,S',fun k=>if tR qY (fun _=>βn) τ' k then some l else ow k,by rw[R],⟨C,f.below.os,f.below.tape,f.below.output,fun k l' a hl _=>f.below.block k a (q k),fun k a _ _=>f.below.block k a (q k),f.jw,f.keep,?_,?_,?_,?_⟩,⟨f.lt,?_,?_⟩,⟨fun _=>βn,τ',rfl,⟨f.lt,⟨rfl,trivial⟩,rfl,?_,?_,?_,?_,?_⟩,fun k a=>if_pos a⟩,I⟩
 ·intro k l' a _;show(if tR qY (fun _=>βn) τ' k then some l else ow k)=some l';rw[if_neg (fun H=>by have:=G k H;have:=B.o k l' a;omega)];exact a
 ·intro k o K;rcases f.new k o K with c|c|c
  ·exact .inl c
  ·exact .inr (.inl c)
  ·exact absurd c (q k)
 ·intro k a V;show(if tR qY (fun _=>βn) τ' k then some l else ow k)=none;rw[if_neg (fun H=>by have:=G k H;omega)];exact V
 ·intro k l' a;replace a:(if tR qY (fun _=>βn) τ' k then some l else ow k)=some l':=a;split at a
  ·injection a with a;exact .inr a.symm
  ·exact .inl a
 ·intro k l' a;replace a:(if tR qY (fun _=>βn) τ' k then some l else ow k)=some l':=a;split at a
  ·rename_i H;obtain⟨z,T,Z,O,h4,h5,_⟩:=x;rcases H with⟨o,f,rfl⟩|⟨j,m,IN⟩
   ·exact(aL.1 Z).1
   ·have M:j=0:=by have:qY.jz=[0] :=rfl;rw[this]at m;simpa using m
    subst M;have hc:=h5 2 _ (z[2]'(by rw[O];decide)) (.list []) rfl (aQ _) rfl;obtain⟨_,hO⟩:=hc;obtain⟨xs,l2,_,a2,_⟩:=hO.own;exact(a2.lt k IN).2
  ·exact av (B.o k l' a) C
 ·intro k o l' K a;replace a:(if tR qY (fun _=>βn) τ' k then some l else ow k)=some l':=a;split at a
  ·injection a with a;omega
  ·rcases f.new k o K with c|c|c
   ·exact B.d k o l' c a
   ·have:=B.o k l' a;omega
   ·exact absurd c (q k)
 ·intro o Q cs c J
  match o,c,J with
  |0,c,J=>
   injection c with c;injection J with J;subst c J;exact x
 ·intro i j hi m _;have Y:i<1:=hi;have X:j<1:=m;omega
 ·intro j k P m a c O;exact f.own j k P m a c O
 ·intro j o P m E c;exact f.eK j 0 P m (by decide) c
 ·intro y;exact absurd y (by decide)
def Ik{cells:Taf}(h:ke w S ow l qY b [cells])(k:bz)(B: ∀b o,S b o->k b o)(p: ∀b o,ow b=some l->k b o):ca w k (.pointer (some ⟨b,0,none⟩)) (.ptr cells)∧Has Gd (.ptr cells):=by
 obtain⟨m,G,A,c,a⟩:=h;obtain⟨t,I,F,q,E,C,H⟩:=c.cB 0 jd cells rfl rfl;have f:ow (m 0)=some l:=a _ (.inl ⟨0,by decide,rfl⟩);refine⟨?_,iF.2 ⟨_,rfl,(tf (c.cB 0 jd cells rfl rfl)).2⟩⟩;rw[<-A];refine .ptr (m 0) t cells (by rw[q,E]) (fun i _=>p _ i f) (fun i v e=>jm F e) ?_;intro i v d e z;have y:i<jd.length:=by rw[<-q];exact(aG.1 e).1
 have n:jd[i]? =some (jd[i]'y):=aQ _;refine uD (C i _ v d n e z) B ?_;intro j T x r g u;exact p r u (a r (.inr ⟨j,cZ.2 ⟨jd,by simp[qY],bE.2 ⟨_,bU n,by rw[x];rfl⟩⟩,g⟩))
def Qt{bl:Nat}{g:Tac}{T:Tba}(h:ke w S ow l qY bl [cL s])(U:Wf w S ow)(C:fG w S ow b T g)(a6:1000<=l)(Z:g.length=51)(a1:g[13]? =some (.pointer (some ⟨bl,0,none⟩)))(hd: ∀(i:Nat) r v d,lD[i]? =some r->g[i]? =some v->(cR s)[i]? =some d->(r.2=none->ca w S v d∧Has r.1 d)∧(∀H,r.2=some H->v= .slice none 0 0∧d= .list [])):
  ∃bR,(∀k,bR k=if k=b then some l else ow k)∧Wf w S bR∧ke w S bR l (dC 0) b [cR s,cL s] :=by
 obtain⟨β,X,R,M,L⟩:=h;obtain⟨v1,T1,b1,b2,b3,b4,b5⟩:=M.cB 0 jd (cL s) rfl rfl;rw[R]at b1 b5;have D:ow bl=some l:=by rw[<-R];exact L _ (.inl ⟨0,by decide,rfl⟩)
 have J:b≠bl:=fun e=>by rw[e]at C;rw[C.ow]at D;cases D
 have a5:(dC 0).jz=[1,2,3,4,5,6,0] :=rfl;have N:qY.jz=[0] :=rfl;let x:Taj:=fun j=>if j=0 then X 0 else .slice none 0 0
 let n:Nat->Nat:=fun o=>if o=0 then b else bl
 have p: ∀j b',(x j).ownBlock=some b'->j=0∧(X 0).ownBlock=some b':=by
  intro j b' O;by_cases y:j=0
  ·subst y;exact⟨rfl,O⟩
  ·have:x j= .slice none 0 0:=if_neg y;rw[this]at O;cases O
 have B: ∀b',(X 0).ownBlock=some b'->ow b'=some l:=fun b' O=>L b' (.inr ⟨0,by rw[N];simp,O⟩)
 have K: ∀k,tR (dC 0) n x k->k=b∨ow k=some l:=by
  rintro k (⟨o,f,rfl⟩|⟨j,y,m⟩)
  ·by_cases A:o=0
   ·exact .inl (if_pos A)
   ·exact .inr (by rw[show n o=bl from if_neg A];exact D)
  ·exact .inr (B k (p j k m).2)
 refine⟨fun k=>if k=b then some l else ow k,fun _=>rfl,⟨U.s,?_,?_⟩,⟨n,x,rfl,⟨U.s,⟨rfl,trivial⟩,rfl,?_,?_,?_,?_,?_⟩,?_⟩⟩
 ·intro k l' m;replace m:(if k=b then some l else ow k)=some l':=m;split at m
  ·rename_i e;rw[e];exact C.lt
  ·exact U.o k l' m
 ·intro k o l' hs m;replace m:(if k=b then some l else ow k)=some l':=m;split at m
  ·injection m with m;omega
  ·exact U.d k o l' hs m
 ·intro o rc cs f u
  match o,f,u with
  |0,f,u=>
   injection f with f;injection u with u;subst f u;refine⟨g,T,C.heap,Z,rfl,?_,C.s⟩;intro i r v d F hv E;obtain⟨q,z⟩:=hd i r v d F hv E;obtain⟨t,Y⟩:=r;cases Y with
   |none=>exact q rfl
   |some H=>
    obtain⟨j,TT⟩:=H;obtain⟨rfl,rfl⟩:=z _ rfl
    have y:j≠0:=by
     intro e;subst e;have a:(lD.all fun r=>match r.2 with|some (j,_)=>j !=0&&decide (0<r.1.cells.length)|none=>true)=true:=by decide+kernel
     have:=bY.1 a _ (bU F);simp at this
    have a0:0<t.cells.length:=by
     have a:(lD.all fun r=>match r.2 with|some (j,_)=>j !=0&&decide (0<r.1.cells.length)|none=>true)=true:=by decide+kernel
     have:=bY.1 a _ (bU F);simp only[aS,bk]at this;exact this.2
    have I:x j= .slice none 0 0:=if_neg y;refine⟨I.symm,?_⟩;rw[I];exact⟨⟨[],rfl,gw t,fun _ h=>by cases h⟩,a0,[],[],rfl,fb _ _ _ _,fun b R=>(by cases R),fun i d j v c h=>(by simp at h)⟩
  |1,f,u=>
   injection f with f;injection u with u;subst f u;refine⟨v1,T1,b1,b2,b3,?_,b5⟩;intro i r v d F hv E;have q:=b4 i r v d F hv E;obtain⟨t,Y⟩:=r;cases Y with
   |none=>exact q
   |some H=>
    obtain⟨j,TT⟩:=H
    have y:j=0:=by
     have a:(jd.all fun r=>match r.2 with|some (j,_)=>j==0|none=>true)=true:=by decide
     have:=bY.1 a _ (bU F);simpa using this
    subst y;exact q
 ·intro i j hi y V;have a3:i<2:=hi;have a2:j<2:=y
  have G: ∀o,o<2->(o=0∧n o=b)∨(o=1∧n o=bl):=by
   intro o f;by_cases A:o=0
   ·exact .inl ⟨A,if_pos A⟩
   ·exact .inr ⟨by omega,if_neg A⟩
  rcases G i a3 with⟨q,z⟩|⟨q,z⟩<;>rcases G j a2 with⟨W,h4⟩|⟨W,h4⟩
  ·omega
  ·rw[z,h4]at V;exact absurd V J
  ·rw[z,h4]at V;exact absurd V.symm J
  ·omega
 ·intro j k b' y m q z;rw[(p j b' q).1,(p k b' z).1]
 ·intro j o b' y f q;have z:=(p j b' q).2;have W:=B b' z;by_cases A:o=0
  ·rw[show n o=b from if_pos A];intro e;rw[e,C.ow]at W;cases W
  ·rw[show n o=bl from if_neg A,<-R];exact M.eK 0 0 b' (by rw[N];simp) (by decide) z
 ·intro _ o c rc f u
  match o,f with
  |0,f=>
   injection f with f;subst f
   have Q:c=13:=by
    have a4:=(aG.1 u).1;have P:c<51:=a4;have a:((List.range 51).all fun j=>j==13|| !(lD[j]? ==some IL))=true:=by decide+kernel
    have:=bY.1 a c (db.2 P);rw[u]at this;simp only[beq_self_eq_true,Bool.not_true,Bool.or_false,beq_iff_eq]at this;exact this
   subst Q;exact jm C.heap a1
  |1,f=>
   injection f with f;subst f;have a:(jd.all fun r=> !(r==IL))=true:=by decide
   have:=bY.1 a _ (bU u);simp at this
 ·intro k m;show(if k=b then some l else ow k)=some l;rcases K k m with q|q
  ·rw[if_pos q]
  ·split
   ·rfl
   ·exact q
end
def U0(id:Int)(fv fl:Taf)(term vote:Int)(le:Taf):RS:={dK with fC:=.gI,id:=id,fv:=fv,fl:=fl,term:=term,vote:=vote,le:=le}
section
variable{w w':Tam}{S S':bz}{ow bR:Ow}{l b:Nat}{s:RS}
def JR{τ:Taj}{v:Tan}{d:D}{cs:List bB}(k:(cs.all fun r=>match r.2 with|some (j,_)=> !(Bc j)|none=>true)=true)(h:gU w 0 S τ [(true,cs)] v d):
  ∃(us:Tac) (ds:Taf),v= .agg us.toArray∧d= .agg ds∧us.length=cs.length∧ds.length=cs.length∧ ∀(i:Nat) r u y,cs[i]? =some r->us[i]? =some u->ds[i]? =some y->ca w S u y∧Has (Ec r) y:=by
 rcases h with⟨c,e,hq⟩|⟨e,_⟩
 ·injection e with e;subst e;unfold gl at hq;rw[if_pos rfl]at hq;obtain⟨us,ds,rfl,rfl,f,m,a⟩:=hq;refine⟨us,ds,rfl,rfl,f,m,fun i r u y n z x=> ?_⟩;have p:=a i r u y n z x;have o:=bY.1 k r (bU n);obtain⟨t,q⟩:=r;cases q with
  |none=>exact p
  |some jT=>
   obtain⟨j,T⟩:=jT;simp only[ff]at o;obtain⟨rfl,g⟩:=p;rw[o]at g;exact⟨g.rep,g.has⟩
 ·exact absurd rfl e
def K0{i t:Int}{le:Taf}(h:ke w S ow l qY b [[.int .i64 i,.int .i64 t,.list le]])(k:Wf w S ow)(z:eV i t le=true):
  Calls Try.prog 25 #[.pointer (some ⟨b,0,none⟩)] w fun e w'=>e= .returned (.tuple [.int .i64 (gf i t le).1,.int .i64 (gf i t le).2].toArray)∧bD ax ax w S ow w' S ow∧Wf w' S ow:=by
 obtain⟨y,B⟩:=Ik h (fun b o=>S b o∨ow b=some l) (fun _ _ h=>.inl h) (fun _ _ h=>.inr h);refine(c25.calls rfl w (fun b o=>S b o∨ow b=some l) [.pointer (some ⟨b,0,none⟩)] [.ptr [.int .i64 i,.int .i64 t,.list le]] (fun b o p=>p.elim (k.s b o) (k.o b l)) rfl ?_ (ag.2 ⟨_,_,rfl,B,dg.2 rfl⟩) z).mono ?_
 ·intro i v d n a
  match i,n,a with
  |0,n,a=>injection n with n;injection a with a;subst n a;exact y
 ·rintro e x ⟨v,S',τ,rfl,hb,_,_,_,kR,_⟩
  have u:bD ax ax w S ow x S ow∧Wf x S ow:=⟨⟨hb.size,hb.os,hb.tape,hb.output,fun b _ j _ _=>hb.block b j,fun b j _ _=>hb.block b j,fun _ _ h=>h,fun b o p=>bh (hb.block b (k.s b o p)),fun _ _ h _=>h,fun _ _ h=>.inl h,fun _ _ h=>h,fun _ _ h=>.inl h⟩,
   ⟨fun b o p=>av (k.s b o p) hb.size,fun b l A=>av (k.o b l A) hb.size,k.d⟩⟩
  refine⟨?_,u⟩;rcases kR with⟨c,hc,hq⟩|⟨hc,vs,ds,rfl,a,hvl,hdl,yS⟩
  ·cases hc
  ·have e:cz 25 [.ptr [.int .i64 i,.int .i64 t,.list le]] = .eS [.int .i64 (gf i t le).1,.int .i64 (gf i t le).2] :=rfl;rw[e]at a;injection a with a;subst a;have m:vs.length=2:=hvl
   match vs,m with
   | [v0,v1],_=>
    have r:=yS 0 _ _ _ rfl rfl rfl;have q:=yS 1 _ _ _ rfl rfl rfl;unfold gl at r q;simp only[ai,if_false]at r q;obtain⟨G,g,r⟩:=r;obtain⟨F,f,q⟩:=q;injection g with g;injection f with f;subst g f;have E:=r.1.cn;have C:=q.1.cn;subst E C;rfl
def FU{i t pi pt:Int}{le es:Taf}{x:Tan}(h:ke w S ow l qY b [[.int .i64 i,.int .i64 t,.list le]])(B:Wf w S ow)(z:1000<=l)(y:dn (.V [I6,I6,.list dV,I6,I6,.list dV]) [.int .i64 pi,.int .i64 pt,.list es,.int .i64 i,.int .i64 t,.list le])(C:ca w S x (.list es))(E:eV i t le=true)(o:le.length<4294967296)(F:es.length<4294967296):
  Calls Try.prog 23 [.pointer (some ⟨b,0,none⟩),.int .i64 pi,.int .i64 pt,x].toArray w fun e w'=> ∃S' bR,e= .returned (.tuple [.int .i64 (iS i t le pi pt es).1,.bool (jB i t le pi pt es)].toArray)∧bD (iE l) ax w S ow w' S' bR∧Wf w' S' bR∧ke w' S' bR l qY b [[.int .i64 i,.int .i64 t,.list (iS i t le pi pt es).2]] :=by
 refine(ke.call (ob:=⟨[true,false,false,false],[jd],[jd],false⟩) (ob0:=qY) (n:=3) (vs:=[.int .i64 pi,.int .i64 pt,x]) (dd:=[.int .i64 pi,.int .i64 pt,.list es]) c23 rfl rfl rfl rfl rfl rfl (by decide) (.inr rfl) rfl z h B rfl rfl (fun q v d g f=>by
  match q,g,f with
  |0,g,f=>injection g with g;injection f with f;subst g f;exact .int _ _
  |1,g,f=>injection g with g;injection f with f;subst g f;exact .int _ _
  |2,g,f=>injection g with g;injection f with f;subst g f;exact C) y ⟨E,o,F⟩).mono ?_
 rintro e L ⟨v,S',bR,τ,I,outs,rfl,aeO,Po,st,hw1,Pp,kR⟩;have e:cz 23 [.int .i64 pi,.int .i64 pt,.list es,.int .i64 i,.int .i64 t,.list le] = .eS [.eS [.int .i64 (iS i t le pi pt es).1,.bool (jB i t le pi pt es)],.agg [.int .i64 i,.int .i64 t,.list (iS i t le pi pt es).2]] :=rfl;have a:cz 23 [.int .i64 pi,.int .i64 pt,.list es,.int .i64 i,.int .i64 t,.list le] = .eS (I::outs.map .agg):=aeO;rw[e]at a;injection a with a;injection a with A j;subst A;have r:outs.length=1:=Po
 match outs,r with
 | [o1],_=>
  injection j with j;injection j with j;subst j;refine⟨S',bR,?_,st,hw1,Pp⟩;rcases kR with⟨c,hc,hq⟩|⟨hc,vs,ds,rfl,f,hvl,hdl,yS⟩
  ·cases hc
  ·injection f with f;subst f;have p:vs.length=2:=hvl
   match vs,p with
   | [v0,v1],_=>
    have u:=yS 0 _ _ _ rfl rfl rfl;have o:=yS 1 _ _ _ rfl rfl rfl;unfold gl at u o;simp only[ai,if_false]at u o;obtain⟨K,m,u⟩:=u;obtain⟨J,k,o⟩:=o;injection m with m;injection k with k;subst m k;have H:=u.1.cn;have G:=o.1.gS;subst H G;rfl
end
def Wz:bC (fI NV [0,1,3,4,5,6,7,9,10,11,2,8,12,13,14])=[oM 96 0,
 oL 97 31 4,
 oF 99 65 5 0,
 oL 100 61 99,
 oM 101 8,
 oF 102 65 5 1,
 oL 103 63 102,
 oF 105 65 5 1,
 oF 106 63 105 0,
 oL 107 3 106,
 oC 98 26 #[(.tmp 97)] #[31],
 oC 104 27 #[(.tmp 103)] #[63],
 (some 108,.build 108 #[(1,.tmp 96),(2,.tmp 98),(3,.tmp 100),(4,.tmp 101),(5,.tmp 104),(6,.tmp 107)],none),
 (some 109,.box 108 (.tmp 108),none),
 oA 6 109] :=by kernel_rfl
def rh(id:Int)(fv fl:Taf)(term vote li lt:Int)(sv sl sd le:Taf):RS:={dK with fC:=.gI,id:=id,fv:=fv,fl:=fl,term:=term,vote:=vote,jO:=li,ig:=lt,sv:=sv,sl:=sl,aY:=sd,bF:=li,li:=li,lt:=lt,le:=le}
section
variable{w w':Tam}{S S':bz}{ow bR:Ow}{l b:Nat}{s:RS}
def ov{i lo hi:Int}(f:Wf w S ow)(k:jo .i64 i)(j:jo .i64 lo)(g:jo .i64 hi)(h:na i lo hi=true):Calls Try.prog 20 [.int .i64 i,.int .i64 lo,.int .i64 hi].toArray w fun e w'=>e= .returned (.bool true)∧bD ax ax w S ow w' S ow∧Wf w' S ow:=
 pH (dd:=[.int .i64 i,.int .i64 lo,.int .i64 hi]) Uc f rfl (fun q v d a c=>by
  match q,a,c with
  |0,a,c=>injection a with a;injection c with c;subst a c;exact .int _ _
  |1,a,c=>injection a with a;injection c with c;subst a c;exact .int _ _
  |2,a,c=>injection a with a;injection c with c;subst a c;exact .int _ _) (ag.2 ⟨_,_,rfl,⟨_,rfl,k⟩,ag.2 ⟨_,_,rfl,⟨_,rfl,j⟩,ag.2 ⟨_,_,rfl,⟨_,rfl,g⟩,dg.2 rfl⟩⟩⟩) trivial (congrArg D.bool h)
def U8{a b c d e f g h:D}(x:Has iI (.agg [a,b,c,d,e,f,g,h])):Has (.list dV) h:=by obtain⟨l,j,k⟩:=dQ.1 x;injection j with j;subst j;obtain⟨y,i,m⟩:=cI k 7 (.list dV) (by rw[Ty.dq];rfl);injection i with i;subst i;exact m
def _root_.Go.dI.ca.yM{vs:Tac}{ds:Taf}(h:ca w S (.agg vs.toArray) (.agg ds))(i:Nat){u:Tan}{y:D}(d:vs[i]? =some u)(c:ds[i]? =some y):ca w S u y:=by
 obtain⟨Pf,a,_,e⟩:=h.yB;injection a with a;have:vs=Pf:=by simpa using congrArg Array.toList a
 subst this;exact e i _ _ d c
def L9(p:bB->Tan->D->Prop):List bB->Tac->Taf->Prop
 |r::rs,v::vs,d::ds=>p r v d∧L9 p rs vs ds
 | [],[],[] =>True
 |_,_,_=>False
def Fj{p:bB->Tan->D->Prop}: ∀{f:List bB} {vs:Tac} {ds:Taf},L9 p f vs ds-> ∀(i:Nat) r v d,f[i]? =some r->vs[i]? =some v->ds[i]? =some d->p r v d
 |r::f,v::vs,d::ds,h,0,_,_,_,e,c,a=>by injection e with e;injection c with c;injection a with a;subst e c a;exact h.1
 |r::f,v::vs,d::ds,h,i+1,_,_,_,e,c,a=>Fj h.2 i _ _ _ e c a
 | [],_,_,_,_,_,_,_,e,_,_=>by simp at e
 |_::_,[],_,_,_,_,_,_,_,c,_=>by simp at c
 |_::_,_::_,[],_,_,_,_,_,_,_,a=>by simp at a
def Ly{p:bB->Tan->D->Prop}{r:bB}{v:Tan}{d:D}{a:List bB}{vs:Tac}{ds:Taf}(e:p r v d)(c:L9 p a vs ds):L9 p (r::a) (v::vs) (d::ds):=⟨e,c⟩
def xu(w:Tam)(S:bz)(r:bB)(v:Tan)(d:D):Prop:=(r.2=none->ca w S v d∧Has r.1 d)∧ ∀a,r.2=some a->v= .slice none 0 0∧d= .list []
def sy{n:Int}(h:jo .i64 n):xu w S (I6,none) (.int .i64 n) (.int .i64 n):=⟨fun _=>⟨.int _ _,n,rfl,h⟩,fun _ h=>by cases h⟩
def QT{c:Bool}:xu w S (.bool,none) (.bool c) (.bool c):=⟨fun _=>⟨.bool _,c,rfl⟩,fun _ h=>by cases h⟩
def vp{t:Ty}{v:Tan}{d:D}(h:ca w S v d∧Has t d):xu w S (t,none) v d:=⟨fun _=>h,fun _ h=>by cases h⟩
def QR{t:Ty}{a:Nat×Tba}:xu w S (t,some a) (.slice none 0 0) (.list []):=⟨fun h=>(by cases h),fun _ _=>⟨rfl,rfl⟩⟩
def QO{t:Ty}:xu w S (.list t,none) (.slice none 0 0) (.list []):=⟨fun _=>⟨.nil _ _,[],rfl,gw _,fun _ h=>by cases h⟩,fun _ h=>by cases h⟩
def QQ{ts:Tal}:xu w S (.ptr (.V ts),none) (.pointer none) .gI:=⟨fun _=>⟨.gI,.inl rfl⟩,fun _ h=>by cases h⟩
def QS{b:Nat}:xu w S (.box .nil,none) (.pointer (some ⟨b,0,none⟩)) (.ptr []):=⟨fun _=>⟨.ptr b [] [] rfl (fun _ h=>by cases h) (fun _ _ h=>by simp at h) (fun _ _ _ h=>by simp at h),[],rfl,dg.2 rfl⟩,fun _ h=>by cases h⟩
def kK{ds:Taf}(x:Has iI (.agg ds))(i:Nat)(t:Ty)(f:(yT++ks++[.list dV])[i]? =some t){d:D}(h:ds[i]? =some d):Has t d:=by obtain⟨l,c,e⟩:=dQ.1 x;injection c with c;subst c;obtain⟨y,a,g⟩:=cI e i t (by rw[Ty.dq];exact f);rw[h]at a;injection a with a;subst a;exact g
def PO{a b c d e f g h:D}(x:Has iI (.agg [a,b,c,d,e,f,g,h])):Has Rp (.agg [c,d,e,f,g]):=
 dQ.2 ⟨_,rfl,ag.2 ⟨_,_,rfl,kK x 2 I6 rfl rfl,ag.2 ⟨_,_,rfl,kK x 3 I6 rfl rfl,ag.2 ⟨_,_,rfl,kK x 4 (.list I6) rfl rfl,ag.2 ⟨_,_,rfl,kK x 5 (.list I6) rfl rfl,ag.2 ⟨_,_,rfl,kK x 6 (.list (.int .u8)) rfl rfl,dg.2 rfl⟩⟩⟩⟩⟩⟩
def BB(id term vote li lt:Int)(bl:Nat)(e k1 d c a:Tan):Tac:=[.bool false,.int .i64 0,.int .i64 0,.slice none 0 0,.pointer none,.slice none 0 0,.slice none 0 0,.slice none 0 0,.int .i64 id,e,k1,.int .i64 term,.int .i64 vote,.pointer (some ⟨bl,0,none⟩),.int .i64 li,.int .i64 lt,d,c,a,.int .i64 li,.int .i64 0,.int .i64 0,.int .i64 0,.int .i64 0,.slice none 0 0] ++List.replicate 18 (.int .i64 0)++[.int .i64 0,.slice none 0 0,.int .i64 0,.int .i64 0,.int .i64 0,.int .i64 0,.int .i64 0,.slice none 0 0]
def FB{id term vote li lt:Int}{bl:Nat}{j k1 i h g:Tan}{fv fl sv sl sd le:Taf}(p:jo .i64 id)(o:jo .i64 term)(n:jo .i64 vote)(m:jo .i64 li)(k:jo .i64 lt)(f:ca w S j (.list fv)∧Has (.list I6) (.list fv))(e:ca w S k1 (.list fl)∧Has (.list I6) (.list fl))(d:ca w S i (.list sv)∧Has (.list I6) (.list sv))(c:ca w S h (.list sl)∧Has (.list I6) (.list sl))(a:ca w S g (.list sd)∧Has (.list (.int .u8)) (.list sd)):
  L9 (xu w S) lD (BB id term vote li lt bl j k1 i h g) (cR (rh id fv fl term vote li lt sv sl sd le)):=by
 have z:jo .i64 0:=by decide
 iterate 51 refine Ly (by first|exact QT|exact sy z|exact QR|exact QQ|exact QS|exact sy p|exact sy o|exact sy n|exact sy m|exact sy k|exact vp f|exact vp e|exact vp d|exact vp c|exact vp a|exact QO) ?_
 trivial
def Qr{Q:HP}{a:Act}{J bl K:Nat}{term vote li lt id:Int}{sv sl sd es:Taf}{s4 s5 s6 s7:Tan}(O:QP Q)(z:Wf w S ow)(M:fG w S ow J 65 [.int .i64 term,.int .i64 vote,.int .i64 li,.int .i64 lt,s4,s5,s6,s7])(G:ca w S (.agg [.int .i64 term,.int .i64 vote,.int .i64 li,.int .i64 lt,s4,s5,s6,s7].toArray) (.agg [.int .i64 term,.int .i64 vote,.int .i64 li,.int .i64 lt,.list sv,.list sl,.list sd,.list es]))(r:Has iI (.agg [.int .i64 term,.int .i64 vote,.int .i64 li,.int .i64 lt,.list sv,.list sl,.list sd,.list es]))(F:0<li->fB (.agg [.list sv,.list sl])=true∧1<=sd.length∧sd.length<=1048576)(k:Kn 110 a [(8,.pointer (some ⟨bl,0,none⟩)),(7,.bool true),(6,.pointer none),(5,.pointer (some ⟨J,0,none⟩)),(4,.pointer (some ⟨K,0,none⟩)),(0,.int .i64 id)])(g: ∀a W,Kn 110 a [(64,.bool false),(8,.pointer (some ⟨bl,0,none⟩)),(6,.pointer none),(5,.pointer (some ⟨J,0,none⟩)),(4,.pointer (some ⟨K,0,none⟩)),(0,.int .i64 id)] ->bD ax ax w S ow W S ow->Wf W S ow->Q .normal a W):(Code.region 3 MW false).wp Try.prog Q a w:=by
 refine rg ax O aaU ?_;intro C B;have p:Wf C S ow:=⟨fun b o G=>by rw[B.heap];exact z.s b o G,fun b l N=>by rw[B.heap];exact z.o b l N,z.d⟩;have h:=M.O B;have n:bD ax ax w S ow C S ow:=bD.O B ax ax S ow;have V:=SX.refl ax C
 repeat refine sm k fun a k=> ?_
 refine pV k (by assumption) rfl (by decide) rfl fun a k=> ?_
 repeat refine sm k fun a k=> ?_
 refine Gs k (by assumption) rfl (by decide) rfl rfl (by kernel_rfl) fun a k=> ?_;refine pk k rfl rfl fun a k=> ?_
 repeat (first|refine sm k fun a k=> ?_|refine ld k (h.cell (fun h=>h) rfl) fun a k=> ?_)
 by_cases I:li>0
 ·obtain⟨L,Y,X⟩:=F I;have t:=G.J n;obtain⟨_,R,q6,P⟩:=sq (t.yM 6 rfl rfl) (kK r 6 (.list (.int .u8)) rfl rfl);have H:s6= .slice R sd.length q6:=P;subst H;refine cm (c:=true) k rfl rfl (HM I) fun a k=> ?_
  repeat refine sm k fun a k=> ?_
  refine lN (vs:=[s4,s5]) k rfl rfl (fun w' x q v f=>by
   match q,f with
   |0,f=>injection f with f;subst f;exact h.cell (fun h=>h) (j:=4) rfl w' x
   |1,f=>injection f with f;subst f;exact h.cell (fun h=>h) (j:=5) rfl w' x) fun a k=> ?_
  refine gH (vs:=[.agg [s4,s5].toArray]) k (by decide) rfl (by decide) Xj.enter rfl (pH (dd:=[.agg [.list sv,.list sl]]) (c:=true) Xj p rfl (fun q v d f A=>by
   match q,f,A with
   |0,f,A=>
    injection f with f;injection A with A;subst f A
    exact .agg _ _ rfl (fun q u y m i=>by
     match q,m,i with
     |0,m,i=>injection m with m;injection i with i;subst m i;exact t.yM 4 rfl rfl
     |1,m,i=>injection m with m;injection i with i;subst m i;exact t.yM 5 rfl rfl)) (ag.2 ⟨_,_,rfl,dQ.2 ⟨_,rfl,ag.2 ⟨_,_,rfl,kK r 4 (.list I6) rfl rfl,ag.2 ⟨_,_,rfl,kK r 5 (.list I6) rfl rfl,dg.2 rfl⟩⟩⟩,dg.2 rfl⟩) trivial (congrArg D.bool L)) ?_
  rintro e U ⟨rfl,TS,Xt⟩;have sc:=TS.tu ax;refine⟨_,rfl,fun _=>sc,fun a k=> ?_⟩;refine pV k (by assumption) rfl (by decide) rfl fun a k=> ?_
  repeat (first|refine sm k fun a k=> ?_|refine ld k (h.cell (fun h=>h) rfl) fun a k=> ?_)
  refine gH (vs:=[.int .i64 (sd.length:Int),.int .i64 1,.int .i64 1048576]) k (by decide) rfl (by decide) Uc.enter rfl (ov Xt (iC (by omega) (by omega)) (by decide) (by decide) (by simp only[na,aS,bk];omega)) ?_;rintro e T ⟨rfl,Q1,Q7⟩;have E:=sc.trans (Q1.tu ax);refine⟨_,rfl,fun _=>E,fun a k=> ?_⟩;refine pV k (by assumption) rfl (by decide) rfl fun a k=> ?_;refine pk k rfl rfl fun a k=> ?_;refine pk k rfl rfl fun a k=> ?_;refine pk k rfl rfl fun a k=> ?_;exact ar (g _ _ (k.sb) ((n.Z z p TS nE).Z z Xt Q1 nE) Q7)
 ·refine cm (c:=false) k rfl rfl (zl I) fun a k=> ?_
  repeat refine sm k fun a k=> ?_
  iterate 6 refine Mc k (by assumption) rfl rfl (by decide) fun a k=> ?_
  repeat refine sm k fun a k=> ?_
  refine pk k rfl rfl fun a k=> ?_;refine pk k rfl rfl fun a k=> ?_;exact ar (g _ _ (k.sb) n p)
def Au{id term vote li lt:Int}{fv fl sv sl sd es:Taf}{c0 c1 s4 s5 s6 s7:Tan}(m:Wf w S ow)(e6:1000<=l)(k4:na id 1 5=true)(c6:jo .i64 id)(hc:ca w S (.agg [c0,c1].toArray) (.agg [.list fv,.list fl]))(g9:Has mL (.agg [.list fv,.list fl]))(hm:fB (.agg [.list fv,.list fl])=true)(n:ca w S (.agg [.int .i64 term,.int .i64 vote,.int .i64 li,.int .i64 lt,s4,s5,s6,s7].toArray) (.agg [.int .i64 term,.int .i64 vote,.int .i64 li,.int .i64 lt,.list sv,.list sl,.list sd,.list es]))(N:Has iI (.agg [.int .i64 term,.int .i64 vote,.int .i64 li,.int .i64 lt,.list sv,.list sl,.list sd,.list es]))(ht:na term 0 MX=true)(f:na vote 0 MX=true)(i9:jB li lt [] li lt es=true)(j6:eI es=true)(j9:eM lt (iS li lt [] li lt es).2<=term)(k5:es.length<4294967296)(c4:eV li lt (iS li lt [] li lt es).2=true)(c5:okB li lt=true∧(li=0↔lt=0))(b1:jo .i64 li)(E:jo .i64 lt)(j7:0<li->fB (.agg [.list sv,.list sl])=true∧1<=sd.length∧sd.length<=1048576):
  Calls Try.prog 11 [.int .i64 id,.agg [c0,c1].toArray,.agg [.int .i64 term,.int .i64 vote,.int .i64 li,.int .i64 lt,s4,s5,s6,s7].toArray].toArray w fun e w'=> ∃b S' bR,e= .returned (.pointer (some ⟨b,0,none⟩))∧bD (iE l) ax w S ow w' S' bR∧Wf w' S' bR∧ke w' S' bR l (dC 0) b [cR (rh id fv fl term vote li lt sv sl sd (iS li lt [] li lt es).2),cL (rh id fv fl term vote li lt sv sl sd (iS li lt [] li lt es).2)] ∧w.heap.size<=b:=by
 have i2:jo .i64 term:=by simp only[na,aS,bk]at ht;have j8:MX=1099511627776:=rfl;exact⟨by have:i64.min= -9223372036854775808:=rfl;omega,by have:i64.max=9223372036854775807:=rfl;omega⟩
 have i1:jo .i64 vote:=by simp only[na,aS,bk]at f;have j8:MX=1099511627776:=rfl;exact⟨by have:i64.min= -9223372036854775808:=rfl;omega,by have:i64.max=9223372036854775807:=rfl;omega⟩
 have i4:jo .i64 0:=by decide
 have k3:jo .i64 1:=by decide
 have k2:jo .i64 5:=by decide
 have i3:jo .i64 1099511627776:=by decide
 obtain⟨_,A7,q7,h7⟩:=sq (n.yM 7 rfl rfl) (U8 N);have k8:s7= .slice A7 es.length q7:=h7;subst k8;refine kv Try.func11 NI WT aeL (by show 3<=110;omega) ?_;intro a k;have Z:=ju (P:=Try.prog) (fn:=Try.f11) (R:=fun e w'=> ∃b S' bR,e= .returned (.pointer (some ⟨b,0,none⟩))∧bD (iE l) ax w S ow w' S' bR∧Wf w' S' bR∧ke w' S' bR l (dC 0) b [cR (rh id fv fl term vote li lt sv sl sd (iS li lt [] li lt es).2),cL (rh id fv fl term vote li lt sv sl sd (iS li lt [] li lt es).2)] ∧w.heap.size<=b);refine wp_seq (rg ax Z aaX ?_);intro w1 e1;refine rq (us:=[c0,c1]) k (by decide) rfl (by decide) rfl rfl (fun _=>SX.alloc _ _ _) fun a k=> ?_;have sa:=SX.alloc ax w1 (.cells [c0,c1].toArray 31);refine rq (us:=[.int .i64 term,.int .i64 vote,.int .i64 li,.int .i64 lt,s4,s5,s6,.slice A7 es.length q7]) k (by decide) rfl (by decide) rfl rfl (fun _=>sa.trans (SX.alloc _ _ _)) fun a k=> ?_;have sb:=sa.trans (SX.alloc ax _ (.cells [.int .i64 term,.int .i64 vote,.int .i64 li,.int .i64 lt,s4,s5,s6,.slice A7 es.length q7].toArray 65));refine sm k fun a k=> ?_;refine ar ?_;have b0:Wf w1 S ow:=⟨fun b o n=>by rw[e1.heap];exact m.s b o n,fun b l C=>by rw[e1.heap];exact m.o b l C,m.d⟩;have sA:bD (iE l) ax w S ow w1 S ow:=bD.O e1 _ ax S ow;obtain⟨f0,a9⟩:=bD.alloc b0 (.cells [c0,c1].toArray 31);have d8:=fG.new b0 31 [c0,c1];obtain⟨d1,G⟩:=bD.alloc a9 (.cells [.int .i64 term,.int .i64 vote,.int .i64 li,.int .i64 lt,s4,s5,s6,.slice A7 es.length q7].toArray 65);have a4:=fG.new a9 65 [.int .i64 term,.int .i64 vote,.int .i64 li,.int .i64 lt,s4,s5,s6,.slice A7 es.length q7];have a5:=d8.J d1 (fun h=>h);have sC:=(sA.Z m b0 f0 nE).Z m a9 d1 nE;generalize l4:w1.heap.size=b4 at k d8 a5;generalize l3:(w1.alloc (.cells [c0,c1].toArray 31)).heap.size=b5 at k a4;generalize (w1.alloc (.cells [c0,c1].toArray 31)).alloc _=w3 at a4 a5 sC G⊢;clear f0 d1 a9 d8 sa sb sA b0 e1;have k:=k.sb (l:=[(6,.pointer none),(5,.pointer (some ⟨b5,0,none⟩)),(4,.pointer (some ⟨b4,0,none⟩)),(0,.int .i64 id)]);refine wp_seq (rg ax Z aaW ?_);intro w4 e4;have e0:Wf w4 S ow:=⟨fun b o n=>by rw[e4.heap];exact G.s b o n,fun b l C=>by rw[e4.heap];exact G.o b l C,G.d⟩;have d7:=a5.O e4;have a3:=a4.O e4;have sD:=sC.W m G e4;have J:=SX.refl ax w4
 repeat refine sm k fun a k=> ?_
 refine gH (vs:=[.int .i64 id,.int .i64 1,.int .i64 5]) k (by decide) rfl (by decide) Uc.enter rfl (ov e0 c6 k3 k2 k4) ?_;rintro e w5 ⟨rfl,qT,Q8⟩;refine⟨_,rfl,fun _=>qT.tu _,fun a k=> ?_⟩;have s5:=qT.tu ax;have sE:=sD.Z m e0 qT nE
 repeat refine sm k fun a k=> ?_
 refine lN (vs:=[c0,c1]) k rfl rfl (fun w' g q v f=>by rw[ao];exact d7.cell (fun h=>h) f w' g) fun a k=> ?_
 refine gH (vs:=[.agg [c0,c1].toArray]) k (by decide) rfl (by decide) Xj.enter rfl (pH (dd:=[.agg [.list fv,.list fl]]) (c:=true) Xj Q8 rfl (fun q v d f p=>by
  match q,f,p with
  |0,f,p=>injection f with f;injection p with p;subst f p;exact hc.J sE) (ag.2 ⟨_,_,rfl,g9,dg.2 rfl⟩) trivial (congrArg D.bool hm)) ?_
 rintro e w6 ⟨rfl,yj,JY⟩;have d4:=s5.trans (yj.tu ax);refine⟨_,rfl,fun _=>d4,fun a k=> ?_⟩;have sF:=sE.Z m Q8 yj nE;refine pk k rfl rfl fun a k=> ?_
 repeat (first|refine sm k fun a k=> ?_|refine ld k (a3.cell (fun h=>h) rfl) fun a k=> ?_)
 refine gH (vs:=[.int .i64 term,.int .i64 0,.int .i64 1099511627776]) k (by decide) rfl (by decide) Uc.enter rfl (ov JY i2 i4 i3 ht) ?_;rintro e w7 ⟨rfl,F5,Xe⟩;have d3:=d4.trans (F5.tu ax);refine⟨_,rfl,fun _=>d3,fun a k=> ?_⟩;have sG:=sF.Z m JY F5 nE;refine pk k rfl rfl fun a k=> ?_
 repeat (first|refine sm k fun a k=> ?_|refine ld k (a3.cell (fun h=>h) rfl) fun a k=> ?_)
 refine gH (vs:=[.int .i64 vote,.int .i64 0,.int .i64 1099511627776]) k (by decide) rfl (by decide) Uc.enter rfl (ov Xe i1 i4 i3 f) ?_;rintro e w8 ⟨rfl,Xn,Xu⟩;have f1:=d3.trans (Xn.tu ax);refine⟨_,rfl,fun _=>f1,fun a k=> ?_⟩;have sH:=sG.Z m Xe Xn nE;refine pk k rfl rfl fun a k=> ?_
 repeat refine sm k fun a k=> ?_
 refine ar ?_;have g5:=(((d7.J qT (fun h=>h)).J yj (fun h=>h)).J F5 (fun h=>h)).J Xn (fun h=>h);have f7:=(((a3.J qT (fun h=>h)).J yj (fun h=>h)).J F5 (fun h=>h)).J Xn (fun h=>h);have k:=k.sb (l:=[(7,.bool true),(6,.pointer none),(5,.pointer (some ⟨b5,0,none⟩)),(4,.pointer (some ⟨b4,0,none⟩)),(0,.int .i64 id)]);clear qT yj F5 Xn sC sD sE sF sG J s5 d4 d3 f1 a5 d7 a4 a3 e4 G e0 Q8 JY Xe;refine wp_seq (rg (fun T=>ow T=some l) Z aaV ?_);intro w9 e9;have d9:Wf w9 S ow:=⟨fun b o n=>by rw[e9.heap];exact Xu.s b o n,fun b l C=>by rw[e9.heap];exact Xu.o b l C,Xu.d⟩;have g4:=g5.O e9;have a2:=f7.O e9;have sI:=sH.W m Xu e9;have J:=SX.refl (fun T=>ow T=some l) w9;have a6: ¬ow b5=some l:=by rw[a2.ow];intro h;cases h
 repeat (first|refine sm k fun a k=> ?_|refine ld k (a2.cell a6 rfl) fun a k=> ?_)
 refine gH (vs:=[.int .i64 li,.int .i64 lt]) k (by decide) rfl (by decide) cnw.enter rfl (OD (l:=l) d9 b1 E c5 e6) ?_;rintro e wa ⟨bl,Sa,Q4,rfl,Xm,hwa,Zl,hbl⟩;have sa:SX (fun T=>ow T=some l) w9 wa:=SX.iu (fun _ h=>h) Xm;refine⟨_,rfl,fun _=>sa,fun a k=> ?_⟩
 repeat refine sm k fun a k=> ?_
 refine ar ?_;have g3:=g4.J Xm (fun h=>h);have d6:=a2.J Xm (fun h=>h);have sJ:=sI.eY m d9 Xm rfl;have k7:=hc.J sJ;have h4:=n.J sJ;have j5:=sI.size;have k:=k.sb (l:=[(8,.pointer (some ⟨bl,0,none⟩)),(7,.bool true),(6,.pointer none),(5,.pointer (some ⟨b5,0,none⟩)),(4,.pointer (some ⟨b4,0,none⟩)),(0,.int .i64 id)]);clear sa J Xm sI g4 a2 g5 f7 e9 d9 sH Xu;refine wp_seq (wp_seq (Qr (by exact Z) hwa d6 h4 N j7 k ?_));intro a wb k K B;have Ea:=g3.J K (fun h=>h);have f6:=d6.J K (fun h=>h);have sK:=sJ.Z m hwa K nE;have c2:=Zl.J hwa B K (fun h=>h) rfl;refine aV k rfl (wp_skip ?_);have k:=k.sb (l:=[(8,.pointer (some ⟨bl,0,none⟩)),(6,.pointer none),(5,.pointer (some ⟨b5,0,none⟩)),(4,.pointer (some ⟨b4,0,none⟩)),(0,.int .i64 id)]);have k6:=hc.J sK;have h0:=n.J sK;have i5:ca wb Sa (.slice A7 es.length q7) (.list es):=h0.yM 7 rfl rfl;clear K d6 g3 Zl hwa k7 h4;refine wp_seq (wp_seq (rg (fun T=>Q4 T=some l) Z aaT ?_));intro wc ec;have a8:Wf wc Sa Q4:=⟨fun b o n=>by rw[ec.heap];exact B.s b o n,fun b l C=>by rw[ec.heap];exact B.o b l C,B.d⟩;have loc:=Ea.O ec;have a1:=f6.O ec;have a0:bD ax ax wb Sa Q4 wc Sa Q4:=bD.O ec ax ax Sa Q4;have sL:=sK.Z m B a0 nE;have b9:=c2.J B a8 a0 (fun h=>h) rfl;have J:=SX.refl (fun T=>Q4 T=some l) wc;have a6: ¬Q4 b5=some l:=by rw[a1.ow];intro h;cases h
 repeat (first|refine sm k fun a k=> ?_|refine ld k (a1.cell a6 rfl) fun a k=> ?_)
 refine gH (vs:=[.pointer (some ⟨bl,0,none⟩),.int .i64 li,.int .i64 lt,.slice A7 es.length q7]) k (by decide) rfl (by decide) c23.enter rfl (FU (i:=li) (t:=lt) (le:=[]) (es:=es) b9 a8 e6 (ag.2 ⟨_,_,rfl,⟨_,rfl,b1⟩,ag.2 ⟨_,_,rfl,⟨_,rfl,E⟩,ag.2 ⟨_,_,rfl,U8 N,ag.2 ⟨_,_,rfl,⟨_,rfl,b1⟩,ag.2 ⟨_,_,rfl,⟨_,rfl,E⟩,ag.2 ⟨_,_,rfl,bL.2 ⟨[],rfl,gw _,fun _ h=>by cases h⟩,dg.2 rfl⟩⟩⟩⟩⟩⟩) (i5.J a0) (eH.2 ⟨jv.1 c5.1,rfl⟩) (by decide) k5) ?_;rintro e wd ⟨Sd,FW,rfl,Q1,Q7,U7⟩;have sd:SX (fun T=>Q4 T=some l) wc wd:=SX.iu (fun _ h=>h) Q1;refine⟨_,rfl,fun _=>sd,fun a k=> ?_⟩;rw[i9]at k;refine sm k fun a k=> ?_;refine pW (j:=0) k (by assumption) rfl (by decide) rfl rfl fun a k=> ?_;refine pW (j:=1) k (by assumption) rfl (by decide) rfl rfl fun a k=> ?_
 repeat refine sm k fun a k=> ?_
 refine ar ?_;have g2:=loc.J Q1 (fun h=>h);have f5:=a1.J Q1 (fun h=>h);have sM:=sL.eY m a8 Q1 rfl;have k:=k.sb (l:=[(10,.bool true),(8,.pointer (some ⟨bl,0,none⟩)),(6,.pointer none),(5,.pointer (some ⟨b5,0,none⟩)),(4,.pointer (some ⟨b4,0,none⟩)),(0,.int .i64 id)]);generalize l1:(iS li lt [] li lt es).2=le at U7 j9 c4 Z⊢;clear Q1 J sd a6 b9 a0 sL loc a1 a8 ec c2 B Ea f6 sK k6 h0 i5;refine wp_seq (rg ax Z aaS ?_);intro we ee;have M:Wf we Sd FW:=⟨fun b o n=>by rw[ee.heap];exact Q7.s b o n,fun b l C=>by rw[ee.heap];exact Q7.o b l C,Q7.d⟩;have g1:=g2.O ee;have d5:=f5.O ee;have d0:bD ax ax wd Sd FW we Sd FW:=bD.O ee ax ax Sd FW;have sN:=sM.Z m Q7 d0 nE;have b8:=U7.J Q7 M d0 (fun h=>h) rfl;have J:=SX.refl ax we
 repeat refine sm k fun a k=> ?_
 refine pV k (by assumption) rfl (by decide) rfl fun a k=> ?_
 repeat (first|refine sm k fun a k=> ?_|refine ld k (d5.cell (fun h=>h) rfl) fun a k=> ?_)
 refine gH (vs:=[.slice A7 es.length q7]) k (by decide) rfl (by decide) c24.enter rfl (pH (dd:=[.list es]) (c:=true) c24 M rfl (fun q v d f p=>by
  match q,f,p with
  |0,f,p=>injection f with f;injection p with p;subst f p;exact(n.J sN).yM 7 rfl rfl) (ag.2 ⟨_,_,rfl,U8 N,dg.2 rfl⟩) trivial (congrArg D.bool j6)) ?_
 rintro e wf ⟨rfl,W4,JX⟩;have sf:=W4.tu ax;refine⟨_,rfl,fun _=>sf,fun a k=> ?_⟩;refine pV k (by assumption) rfl (by decide) rfl fun a k=> ?_;refine pk k rfl rfl fun a k=> ?_;refine ar (aV k rfl (wp_skip ?_));have g0:=g1.J W4 (fun h=>h);have f4:=d5.J W4 (fun h=>h);have b7:=b8.J M JX W4 (fun h=>h) rfl;have sO:=sN.Z m M W4 nE;have k:=k.sb (l:=[(8,.pointer (some ⟨bl,0,none⟩)),(6,.pointer none),(5,.pointer (some ⟨b5,0,none⟩)),(4,.pointer (some ⟨b4,0,none⟩)),(0,.int .i64 id)]);clear W4 sf b8 J sN d0 g1 d5 M ee g2 f5 sM Q7 U7;refine wp_seq (wp_seq (rg ax Z aaR ?_));intro wg eg;have L:Wf wg Sd FW:=⟨fun b o n=>by rw[eg.heap];exact JX.s b o n,fun b l C=>by rw[eg.heap];exact JX.o b l C,JX.d⟩;have c9:bD ax ax wf Sd FW wg Sd FW:=bD.O eg ax ax Sd FW;have sP:=sO.Z m JX c9 nE;have O:=b7.J JX L c9 (fun h=>h) rfl;have J:=SX.refl ax wg
 repeat refine sm k fun a k=> ?_
 refine gH (vs:=[.pointer (some ⟨bl,0,none⟩)]) k (by decide) rfl (by decide) c25.enter rfl (K0 O L c4) ?_;rintro e wh ⟨rfl,W2,T3⟩;have sh:=W2.tu ax;refine⟨_,rfl,fun _=>sh,fun a k=> ?_⟩;refine sm k fun a k=> ?_;refine pW (j:=0) k (by assumption) rfl (by decide) rfl rfl fun a k=> ?_;refine pW (j:=1) k (by assumption) rfl (by decide) rfl rfl fun a k=> ?_
 repeat refine sm k fun a k=> ?_
 refine ar ?_;have f9:=(g0.O eg).J W2 (fun h=>h);have f3:=(f4.O eg).J W2 (fun h=>h);have b6:=O.J L T3 W2 (fun h=>h) rfl;have sQ:=sP.Z m L W2 nE;have k:=k.sb (l:=[(12,.int .i64 (gf li lt le).2),(8,.pointer (some ⟨bl,0,none⟩)),(6,.pointer none),(5,.pointer (some ⟨b5,0,none⟩)),(4,.pointer (some ⟨b4,0,none⟩)),(0,.int .i64 id)]);clear W2 sh O J sP c9 L eg g0 f4 sO JX b7;refine wp_seq (rg ax Z aaQ ?_);intro wi ei;have F:Wf wi Sd FW:=⟨fun b o n=>by rw[ei.heap];exact T3.s b o n,fun b l C=>by rw[ei.heap];exact T3.o b l C,T3.d⟩;have j2:=f9.O ei;have f2:=f3.O ei;have c7:bD ax ax wh Sd FW wi Sd FW:=bD.O ei ax ax Sd FW;have sR:=sQ.Z m T3 c7 nE;have h9:=b6.J T3 F c7 (fun h=>h) rfl;have J:=SX.refl ax wi
 repeat (first|refine sm k fun a k=> ?_|refine ld k (f2.cell (fun h=>h) rfl) fun a k=> ?_)
 refine cm (c:=false) k rfl rfl (zl (by show¬eM lt le>term;omega)) fun a k=> ?_;refine ar (aV k rfl (wp_skip ?_));have k:=k.sb (l:=[(8,.pointer (some ⟨bl,0,none⟩)),(5,.pointer (some ⟨b5,0,none⟩)),(4,.pointer (some ⟨b4,0,none⟩)),(0,.int .i64 id)]);clear J c7 sQ b6 f3 f9 T3 ei;refine wp_seq (Rv (n0:=10) ax mix (by exact Z) Wz (by kernel_rfl) ?_);intro wj ej;have a7:Wf wj Sd FW:=⟨fun b o n=>by rw[ej.heap];exact F.s b o n,fun b l C=>by rw[ej.heap];exact F.o b l C,F.d⟩;have j1:=j2.O ej;have A:=f2.O ej;have e8:bD ax ax wi Sd FW wj Sd FW:=bD.O ej ax ax Sd FW;have sS:=sR.Z m F e8 nE;have h8:=h9.J F a7 e8 (fun h=>h) rfl;have J:=SX.refl ax wj
 repeat refine sm k fun a k=> ?_
 refine lN (vs:=[c0,c1]) k rfl rfl (fun w' g q v f=>by rw[ao];exact j1.cell (fun h=>h) f w' g) fun a k=> ?_
 repeat refine sm k fun a k=> ?_
 refine lN (vs:=[.int .i64 term,.int .i64 vote]) k rfl rfl (fun w' g q v f=>by
  match q,f with
  |0,f=>injection f with f;subst f;exact A.cell (fun h=>h) (j:=0) rfl w' g
  |1,f=>injection f with f;subst f;exact A.cell (fun h=>h) (j:=1) rfl w' g) fun a k=> ?_
 repeat refine sm k fun a k=> ?_
 refine lN (vs:=[.int .i64 li,.int .i64 lt,s4,s5,s6]) k rfl rfl (fun w' g q v f=>by
  match q,f with
  |0,f=>injection f with f;subst f;exact A.cell (fun h=>h) (j:=2) rfl w' g
  |1,f=>injection f with f;subst f;exact A.cell (fun h=>h) (j:=3) rfl w' g
  |2,f=>injection f with f;subst f;exact A.cell (fun h=>h) (j:=4) rfl w' g
  |3,f=>injection f with f;subst f;exact A.cell (fun h=>h) (j:=5) rfl w' g
  |4,f=>injection f with f;subst f;exact A.cell (fun h=>h) (j:=6) rfl w' g) fun a k=> ?_
 repeat (first|refine sm k fun a k=> ?_|refine ld k (A.cell (fun h=>h) rfl) fun a k=> ?_)
 refine gH (vs:=[.agg [c0,c1].toArray]) k (by decide) rfl (by decide) c26.enter rfl (B0 (dd:=[.agg [.list fv,.list fl]]) c26 rfl a7 rfl (fun q v d f p=>by
  match q,f,p with
  |0,f,p=>injection f with f;injection p with p;subst f p;exact hc.J sS) (ag.2 ⟨_,_,rfl,g9,dg.2 rfl⟩) trivial) ?_
 rintro e wk ⟨vc,Sk,τk,rfl,kJ,hwk,abr⟩;obtain⟨uc,dc,rfl,b3,g8,l0,e7⟩:=JR rfl abr;have sk:=kJ.tu ax;refine⟨_,rfl,fun _=>sk,fun a k=> ?_⟩;have sT:=sS.Z m a7 kJ nE
 refine gH (vs:=[.agg [.int .i64 li,.int .i64 lt,s4,s5,s6].toArray]) k (by decide) rfl (by decide) c27.enter rfl (B0 (dd:=[.agg [.int .i64 li,.int .i64 lt,.list sv,.list sl,.list sd]]) c27 rfl hwk rfl (fun q v d f p=>by
  match q,f,p with
  |0,f,p=>
   injection f with f;injection p with p;subst f p
   exact .agg _ _ rfl (fun q u y x r=>by
    match q,x,r with
    |0,x,r=>injection x with x;injection r with r;subst x r;exact .int _ _
    |1,x,r=>injection x with x;injection r with r;subst x r;exact .int _ _
    |2,x,r=>injection x with x;injection r with r;subst x r;exact(n.J sT).yM 4 rfl rfl
    |3,x,r=>injection x with x;injection r with r;subst x r;exact(n.J sT).yM 5 rfl rfl
    |4,x,r=>injection x with x;injection r with r;subst x r;exact(n.J sT).yM 6 rfl rfl)) (ag.2 ⟨_,_,rfl,PO N,dg.2 rfl⟩) trivial) ?_
 rintro e wl ⟨vs,Sl,τl,rfl,Xl,Xs,abq⟩;obtain⟨us,ds,rfl,b2,g7,k9,H⟩:=JR rfl abq;have d2:=sk.trans (Xl.tu ax);refine⟨_,rfl,fun _=>d2,fun a k=> ?_⟩;have sU:=sT.Z m hwk Xl nE
 have i7:dc=[.list fv,.list fl] :=by have e:cz 26 [.agg [.list fv,.list fl]] = .agg [.list fv,.list fl] :=rfl;rw[e]at b3;injection b3 with b3;exact b3.symm
 have i6:ds=[.int .i64 li,.int .i64 lt,.list sv,.list sl,.list sd] :=by have e:cz 27 [.agg [.int .i64 li,.int .i64 lt,.list sv,.list sl,.list sd]] = .agg [.int .i64 li,.int .i64 lt,.list sv,.list sl,.list sd] :=rfl;rw[e]at b2;injection b2 with b2;exact b2.symm
 subst i7 i6;have e3:uc.length=2:=g8;have e2:us.length=5:=g7
 obtain⟨Y,X,j4⟩: ∃Y X,uc=[Y,X] :=by
  match uc,e3 with
  | [Y,X],_=>exact⟨Y,X,rfl⟩
 obtain⟨m0,m1,W,V,U,j3⟩: ∃m0 m1 W V U,us=[m0,m1,W,V,U] :=by
  match us,e2 with
  | [m0,m1,W,V,U],_=>exact⟨m0,m1,W,V,U,rfl⟩
 rw[j4]at k e7;rw[j3]at k H;have q0:=e7 0 _ _ _ rfl rfl rfl;have q1:=e7 1 _ _ _ rfl rfl rfl;have z0:=(H 0 _ _ _ rfl rfl rfl).1.cn;have z1:=(H 1 _ _ _ rfl rfl rfl).1.cn;have z2:=H 2 _ _ _ rfl rfl rfl;have z3:=H 3 _ _ _ rfl rfl rfl;have z4:=H 4 _ _ _ rfl rfl rfl;rw[z0,z1]at k;refine my (ps:=[(1,.int .i64 id),(2,.agg [Y,X].toArray),(3,.agg [.int .i64 term,.int .i64 vote].toArray),(4,.pointer (some ⟨bl,0,none⟩)),(5,.agg [.int .i64 li,.int .i64 lt,W,V,U].toArray),(6,.int .i64 li)]) (vs:=BB id term vote li lt bl Y X W V U) k (by assumption) rfl (by decide) rfl (by kernel_rfl) fun a k=> ?_;refine rq (us:=BB id term vote li lt bl Y X W V U) k (by decide) rfl (by decide) rfl rfl (fun _=>d2.trans (SX.alloc _ _ _)) fun a k=> ?_;have sn:=d2.trans (SX.alloc ax wl (.cells (BB id term vote li lt bl Y X W V U).toArray 108));refine sm k fun a k=> ?_;refine ar ?_;obtain⟨z,g6⟩:=bD.alloc Xs (.cells (BB id term vote li lt bl Y X W V U).toArray 108);have f8:=fG.new Xs 108 (BB id term vote li lt bl Y X W V U);have h6:=(h8.J a7 hwk kJ (fun h=>h) rfl).J hwk Xs Xl (fun h=>h) rfl;have h5:=h6.J Xs g6 z (fun h=>h) rfl;have I:=sU.Z m Xs z nE;have i8:w.heap.size<=wl.heap.size:=sU.size;generalize l2:wl.heap.size=bN at k f8 i8;have j5:=z.size;obtain⟨bR,e5,g,i0⟩:=Qt (s:=rh id fv fl term vote li lt sv sl sd le) h5 g6 f8 e6 rfl rfl (Fj (FB (bl:=bl) c6 i2 i1 b1 E ⟨(q0.1.J Xl).J z,q0.2⟩ ⟨(q1.1.J Xl).J z,q1.2⟩ ⟨z2.1.J z,z2.2⟩ ⟨z3.1.J z,z3.2⟩ ⟨z4.1.J z,z4.2⟩))
 have j0:bD (iE l) ax w S ow _ Sl bR:=⟨I.size,I.os,I.tape,I.output,I.F3,I.free,I.jw,I.cell,fun b' l' Q h2=>by
   rw[e5];have h3:=I.keep b' l' Q h2;split
   ·rename_i e;have:=m.o b' l' Q;omega
   ·exact h3,I.new,fun b' Q h2=>by
   rw[e5,if_neg (by omega)];exact I.tL b' Q h2,fun b' l' Q=>by
   rw[e5]at Q;split at Q
   ·injection Q with Q;exact .inr Q.symm
   ·exact I.iu b' l' Q⟩
 exact wp_ret (rH ZT k rfl ⟨bN,Sl,bR,rfl,j0,g,i0,i8⟩).1
def KO{id term vote:Int}{fv fl es:Taf}{c0 c1 s4 s5 s6 s7:Tan}(o:Wf w S ow)(k:1000<=l)(m:na id 1 5=true)(c:jo .i64 id)(u:ca w S (.agg [c0,c1].toArray) (.agg [.list fv,.list fl]))(g:Has mL (.agg [.list fv,.list fl]))(t:fB (.agg [.list fv,.list fl])=true)(r:ca w S (.agg [.int .i64 term,.int .i64 vote,.int .i64 0,.int .i64 0,s4,s5,s6,s7].toArray) (.agg [.int .i64 term,.int .i64 vote,.int .i64 0,.int .i64 0,.list [],.list [],.list [],.list es]))(f:Has iI (.agg [.int .i64 term,.int .i64 vote,.int .i64 0,.int .i64 0,.list [],.list [],.list [],.list es]))(q:na term 0 MX=true)(p:na vote 0 MX=true)(d:jB 0 0 [] 0 0 es=true)(i:eI es=true)(j:eM 0 (iS 0 0 [] 0 0 es).2<=term)(n:es.length<4294967296)(a:eV 0 0 (iS 0 0 [] 0 0 es).2=true):
  Calls Try.prog 11 [.int .i64 id,.agg [c0,c1].toArray,.agg [.int .i64 term,.int .i64 vote,.int .i64 0,.int .i64 0,s4,s5,s6,s7].toArray].toArray w fun e w'=> ∃b S' bR,e= .returned (.pointer (some ⟨b,0,none⟩))∧bD (iE l) ax w S ow w' S' bR∧Wf w' S' bR∧ke w' S' bR l (dC 0) b [cR (U0 id fv fl term vote (iS 0 0 [] 0 0 es).2),cL (U0 id fv fl term vote (iS 0 0 [] 0 0 es).2)] ∧w.heap.size<=b:=
 Au (li:=0) (lt:=0) (sv:=[]) (sl:=[]) (sd:=[]) o k m c u g t r f q p d i j n a ⟨by decide,by decide⟩ (by decide) (by decide) (fun h=>absurd h (by decide))
end
def Bb(n:Nat):Taf:=(List.range n).map fun i=>.int .i64 ((i+1:Nat):Int)
def OO(n:Nat):Bb (n+1)=Bb n++[.int .i64 ((n+1:Nat):Int)] :=by unfold Bb;rw[List.range_succ,ck];rfl
def JB(n:Nat):(Bb n).length=n:=by unfold Bb;simp
def ub:D:=.agg [.int .i64 0,.int .i64 0,.int .i64 0,.int .i64 0,.list [],.list [],.list [],.list []]
def F8(n i:Nat):RS:=U0 ((i+1:Nat):Int) (Bb n) [] 0 0 []
def gB(n j:Nat):GS:=⟨Bb n,[],(List.range j).map (F8 n),List.replicate j ub,[],[],[],List.replicate j (.int .i64 0),[],List.replicate j [],false⟩
def QB(n j:Nat):gB n (j+1)={gB n j with eX:=(gB n j).eX++[F8 n j],saved:=(gB n j).saved++[ub],bc:=(gB n j).bc++[[]],df:=(gB n j).df++[.int .i64 0]}:=by unfold gB;simp only[List.range_succ,ck,cE,List.map_nil,List.replicate_succ']
def iw:Tan:=.slice none 0 0
def R0(v:Tan):GR:=⟨v,iw,iw,iw,iw,iw,iw,iw,iw,iw,[],[],[],[]⟩
def Ap:Has iI ub:=
 dQ.2 ⟨_,rfl,ag.2 ⟨_,_,rfl,⟨0,rfl,by decide⟩,ag.2 ⟨_,_,rfl,⟨0,rfl,by decide⟩,ag.2 ⟨_,_,rfl,⟨0,rfl,by decide⟩,ag.2 ⟨_,_,rfl,⟨0,rfl,by decide⟩,ag.2 ⟨_,_,rfl,bL.2 ⟨[],rfl,gw _,fun _ h=>by cases h⟩,ag.2 ⟨_,_,rfl,bL.2 ⟨[],rfl,gw _,fun _ h=>by cases h⟩,ag.2 ⟨_,_,rfl,bL.2 ⟨[],rfl,gw _,fun _ h=>by cases h⟩,ag.2 ⟨_,_,rfl,bL.2 ⟨[],rfl,gw _,fun _ h=>by cases h⟩,dg.2 rfl⟩⟩⟩⟩⟩⟩⟩⟩⟩
section
variable{w w':Tam}{S S':bz}{ow bR:Ow}{b i n:Nat}{vs:Tac}{R:GR}{g:GS}{X:Tai}
def GM.F8{j:Nat}(h:GM w S ow b vs R g)(c:bD (iE (1000+j)) X w S ow w' S' bR)(k:Wf w' S' bR)(q:g.eX.length<=j)(p:g.bc.length<=5):GM w' S' bR b vs R g:=
 ⟨k,h.obj.J c ct,h.fv.J c,h.fl.J c,h.arr.J h.wf c ct,h.qF,fun i s d=>let ⟨o,f,e,m⟩:=h.eX i s d;⟨o,f,e.J h.wf k c (by have:=(aG.1 d).1;simp only[iE];omega) rfl,m⟩,h.saved.J h.wf c ct,h.eE.J h.wf c ct,h.told.J h.wf c ct,h.bM.J h.wf c ct,h.df.J h.wf c ct,h.read.J h.wf c ct,h.qP.J h.wf c ct,h.xg,fun i l d=>let ⟨v,f,e⟩:=h.oU i l d;⟨v,f,e.J h.wf c (by have:=(aG.1 d).1;simp only[iE];omega)⟩⟩
def GM.WW{bs:Nat}{s:RS}(h:GM w S ow b vs R g)(e:ke w S ow (1000+g.eX.length) (dC 0) bs [cR s,cL s]):GM w S ow b vs {R with lb:=R.lb++[bs]} {g with eX:=g.eX++[s]}:=
 ⟨h.wf,h.obj,h.fv,h.fl,h.arr,by simp[h.qF],fun i f c=>by
  simp only at c⊢;rw[dz]at c;split at c
  ·rename_i d;obtain⟨p,o,m,l⟩:=h.eX i f c;exact⟨p,by rw[dz,if_pos (by rw[h.qF];exact d)];exact o,m,l⟩
  ·have k:i=g.eX.length:=by have:=(aG.1 c).1;simp at this;omega
   subst k;simp at c;subst c;exact⟨bs,by rw[dz,if_neg (by rw[h.qF];omega),h.qF];simp,e,fF e⟩,h.saved,h.eE,h.told,h.bM,h.df,h.read,h.qP,h.xg,h.oU⟩
def GM.QZ(h:GM w S ow b vs R g)(m:g.bc.length<=5):GM w S ow b vs {R with vv:=R.vv++[iw]} {g with bc:=g.bc++[[]]}:=
 ⟨h.wf,h.obj,h.fv,h.fl,h.arr,h.qF,h.eX,h.saved,h.eE,h.told,h.bM,h.df,h.read,h.qP,by simp[h.xg],fun i l c=>by
  simp only at c⊢;rw[dz]at c;split at c
  ·rename_i d;obtain⟨v,k,f⟩:=h.oU i l c;exact⟨v,by rw[dz,if_pos (by rw[h.xg];exact d)];exact k,f⟩
  ·have e:i=g.bc.length:=by have:=(aG.1 c).1;simp at this;omega
   subst e;simp at c;subst c;exact⟨iw,by rw[dz,if_neg (by rw[h.xg];omega),h.xg];simp,dA.nil (by decide) (by omega)⟩⟩
def GM.begin{v:Tan}{xs:Taf}(c:Wf w S ow)(ob:wC w ow 0 b 59 ((R0 v).cells false))(d:ca w S v (.list xs)):GM w S ow b ((R0 v).cells false) (R0 v) ⟨xs,[],[],[],[],[],[],[],[],[],false⟩:=
 ⟨c,ob,d,.nil _ _,jX.nil (by omega),rfl,fun i s h=>by simp at h,dA.nil (by decide) (by omega),dA.nil (by decide) (by omega),dA.nil (by decide) (by omega),dA.nil (by decide) (by omega),dA.nil (by decide) (by omega),dA.nil (by decide) (by omega),jX.nil (by omega),rfl,fun i l h=>by simp at h⟩
end
def nk(w:Tam)(S:bz)(n:Nat):HP:=bodyPost Try.prog Try.f9 (fun e w'=> ∃b S' bR,e= .returned (az b)∧bD LG ax w S (fun _=>none) w' S' bR∧kg w' S' bR b (gB n n))
def FF{n:Nat}(h:n<=10):mK iI n:=by
 have c:iI.bytes<=1000:=by decide
 refine⟨by simp only[maxLen];omega,?_⟩;have:n*iI.bytes<=10*1000:=Nat.mul_le_mul h c;omega
def E7{n:Nat}(h:n<=5):Has mL (.agg [.list (Bb n),.list []]):=
 dQ.2 ⟨_,rfl,ag.2 ⟨_,_,rfl,bL.2 ⟨_,rfl,tg (by rw[JB];omega),fun x c=>by unfold Bb at c;obtain⟨i,d,rfl⟩:=bn.1 c;have:=db.1 d;exact⟨_,rfl,⟨by have:i64.min= -9223372036854775808:=rfl;omega,by have:i64.max=9223372036854775807:=rfl;omega⟩⟩⟩,ag.2 ⟨_,_,rfl,bL.2 ⟨[],rfl,gw _,fun _ h=>by cases h⟩,dg.2 rfl⟩⟩⟩
def vI{n:Nat}(d:1<=n)(c:n<=5):fB (.agg [.list (Bb n),.list []])=true:=by
 obtain rfl|rfl|rfl|rfl|rfl:n=1∨n=2∨n=3∨n=4∨n=5:=by omega
 all_goals decide
section
variable{w:Tam}{S:bz}{ow:Ow}{b j n:Nat}{R:GR}{Q:HP}{a:Act}
noncomputable def Dn:Code:=.seq (.region 13 Mp false) (.seq (.region 14 Mo true) (.seq (.region 15 Mn false) (.region 16 Mm false)))
def zV:Tac:=[.int .i64 0,.int .i64 0,.int .i64 0,.int .i64 0,iw,iw,iw,iw]
def Lw(hQ:QP Q)(gm:GM w S ow b (R.cells false) R (gB n j))(h1:R.la=R.lb)(g9:R.va=R.vv)(hj:j<n)(hn:n<=5)(k:Kn 97 a [(8,.int .i64 ((j+1:Nat):Int)),(5,az b),(0,.int .i64 n)])(d1: ∀a W S' bR R',Kn 97 a [(8,.int .i64 ((j+1:Nat):Int)),(5,az b),(0,.int .i64 n)] ->bD LG ax w S ow W S' bR->GM W S' bR b (R'.cells false) R' (gB n (j+1))->R'.la=R'.lb->R'.va=R'.vv->Q .normal a W):Dn.wp Try.prog Q a w:=by
 unfold Dn;have o:=gm.wf;have f1:(gB n j).eX.length=j:=by unfold gB;simp
 have g8:(gB n j).bc.length=j:=by unfold gB;simp
 refine wp_seq (rg (fun t=>ow t=some 10) hQ ZZ ?_);intro w1 e1;have E:=gm.O e1;have d8:=(bD.refl LG ax w S ow).W o o e1;have s0:=SX.refl (fun t=>ow t=some 10) w1;have C: ¬ow b=some 10:=by rw[E.obj.ow];decide
 repeat (first|refine sm k fun a k=> ?_|refine ld k (E.cell C rfl) fun a k=> ?_)
 refine my (ps:=[]) (vs:=zV) k (by assumption) rfl (by decide) rfl (by kernel_rfl) fun a k=> ?_;refine mO (kk:=8) (T:=65) k (by decide) rfl (by decide) rfl (by kernel_rfl) rfl (fun _=>SX.alloc _ _ _) fun a k=> ?_;obtain⟨r,z⟩:=bD.alloc E.wf (.cells (Value.agg zV.toArray).cells 65);have x:=E.J r z;refine nr k (by decide) rfl (by decide) fun ty c5 af=> ?_
 obtain⟨v',w',p,bR,D,c7,d0⟩:=x.saved.Gj (P:=Try.prog) (tt:=55) (by kernel_rfl) rfl z ty w1.heap.size (d:=ub) Ap (us:=zV) rfl (heap_alloc_new w1 _) (by
  intro q u c f m
  match q,f,m with
  |0,f,m=>injection f with f;injection m with m;subst f m;exact .int _ _
  |1,f,m=>injection f with f;injection m with m;subst f m;exact .int _ _
  |2,f,m=>injection f with f;injection m with m;subst f m;exact .int _ _
  |3,f,m=>injection f with f;injection m with m;subst f m;exact .int _ _
  |4,f,m=>injection f with f;injection m with m;subst f m;exact .nil _ _
  |5,f,m=>injection f with f;injection m with m;subst f m;exact .nil _ _
  |6,f,m=>injection f with f;injection m with m;subst f m;exact .nil _ _
  |7,f,m=>injection f with f;injection m with m;subst f m;exact .nil _ _) (FF (by unfold gB;simp;omega))
 have s1:SX (fun t=>ow t=some 10) w1 w':=(SX.alloc _ _ _).trans (SX.iu (fun _ h=>h) D);refine⟨v',w',iq (k.op rfl) (k.op rfl) p,fun _=>s1,fun a k=> ?_⟩;have b1:=x.BS D c7 d0;obtain⟨Av,cv,f0⟩:=d0.slice
 repeat refine sm k fun a k=> ?_
 refine jE (cur:=R.cells false) k (by decide) rfl (by kernel_rfl) rfl rfl (by rw[f0];rfl) b1.obj.heap (by show 3<11;omega) (by rw[f0];rfl) (fun h=>absurd rfl h) fun a k=> ?_;refine ar ?_;obtain⟨c4,a3,e2⟩:=b1.obj.set c7 (us:=(R.cells false).set (0+3) v');have U:=b1.setObj c4 a3 e2;have Z:=((d8.Z o E.wf r nE).eY o z D (.inl (by decide))).eY o c7 c4 (.inl (by decide));have k:=k.sb (l:=[(8,.int .i64 ((j+1:Nat):Int)),(5,az b),(0,.int .i64 n)]);generalize a6:({R with saved:=v'}:GR)=A at U;have b7:A.la=A.lb:=by rw[<-a6];exact h1
 have e7:A.va=A.vv:=by rw[<-a6];exact g9
 have g0:(R.cells false).set (0+3) v'=A.cells false:=by rw[<-a6];rfl
 rw[g0]at U;clear c4 D r d8 b1 x E s1 s0 e1 d0 p a6 gm e2;rw[g0]at Z a3⊢;generalize w'.setRow _ _=w4 at U Z a3⊢;refine wp_seq (jj (n0:=11) (fun t=>bR t=some (1000+j)∨bR t=some 1) mix (by exact hQ) ZY (fun _=>by kernel_rfl) ?_);intro w5 e5;have B:=U.O e5;have d7:=Z.W o a3 e5;have s0:=SX.refl (fun t=>bR t=some (1000+j)∨bR t=some 1) w5
 have C: ¬(bR b=some (1000+j)∨bR b=some 1):=by rw[B.obj.ow];rintro(h|h)<;>injection h with h<;>omega
 repeat refine sm k fun a k=> ?_
 refine ld k (B.cell C (j:=2) rfl) fun a k=> ?_
 repeat refine sm k fun a k=> ?_
 refine lN (vs:=[A.fv,A.fl]) k rfl rfl (fun w' e3 q v hv=>by
  match q,hv with
  |0,hv=>injection hv with hv;subst hv;exact B.cell C (j:=0) rfl w' e3
  |1,hv=>injection hv with hv;subst hv;exact B.cell C (j:=1) rfl w' e3) fun a k=> ?_
 refine my (ps:=[]) (vs:=zV) k (by assumption) rfl (by decide) rfl (by kernel_rfl) fun a k=> ?_;have f6:na ((j+1:Nat):Int) 1 5=true:=by simp only[na,aS,bk];omega
 have f7:jo .i64 ((j+1:Nat):Int):=⟨by have:i64.min= -9223372036854775808:=rfl;omega,by have:i64.max=9223372036854775807:=rfl;omega⟩;have d2:(iS 0 0 [] 0 0 []).2=[] :=rfl
 have M:=KO (l:=1000+j) (id:=((j+1:Nat):Int)) (term:=0) (vote:=0) (fv:=Bb n) (fl:=[]) (es:=[]) (c0:=A.fv) (c1:=A.fl) (s4:=iw) (s5:=iw) (s6:=iw) (s7:=iw) B.wf (by omega) f6 f7
  (.agg [A.fv,A.fl] _ rfl (fun q u y f hy=>by
   match q,f,hy with
   |0,f,hy=>injection f with f;injection hy with hy;subst f hy;exact B.fv
   |1,f,hy=>injection f with f;injection hy with hy;subst f hy;exact B.fl)) (E7 hn) (vI (by omega) hn)
  (.agg [.int .i64 0,.int .i64 0,.int .i64 0,.int .i64 0,iw,iw,iw,iw] _ rfl (fun q u c f m=>by
   match q,f,m with
   |0,f,m=>injection f with f;injection m with m;subst f m;exact .int _ _
   |1,f,m=>injection f with f;injection m with m;subst f m;exact .int _ _
   |2,f,m=>injection f with f;injection m with m;subst f m;exact .int _ _
   |3,f,m=>injection f with f;injection m with m;subst f m;exact .int _ _
   |4,f,m=>injection f with f;injection m with m;subst f m;exact .nil _ _
   |5,f,m=>injection f with f;injection m with m;subst f m;exact .nil _ _
   |6,f,m=>injection f with f;injection m with m;subst f m;exact .nil _ _
   |7,f,m=>injection f with f;injection m with m;subst f m;exact .nil _ _)) Ap (by decide) (by decide) (by decide) (by decide) (by rw[d2];decide) (by decide) (by rw[d2];decide)
 rw[d2]at M;refine gH (vs:=[.int .i64 ((j+1:Nat):Int),.agg [A.fv,A.fl].toArray,.agg zV.toArray]) k (by decide) rfl (by decide) Dj rfl M ?_;rintro e w6 ⟨bs,S6,ow6,rfl,yj,JY,Zm,hbs⟩;have s6:SX (fun t=>bR t=some (1000+j)∨bR t=some 1) w5 w6:=SX.iu (fun _ h=>.inl h) yj;refine⟨_,rfl,fun _=>s6,fun a k=> ?_⟩;have d4:=B.F8 yj JY (by show(gB n j).eX.length<=j;omega) (by show(gB n j).bc.length<=5;omega);have d6:=d7.eY o B.wf yj (.inr (by omega));refine mO (kk:=1) (T:=52) k (by decide) rfl (by decide) rfl (by kernel_rfl) rfl (fun _=>s6.trans (SX.alloc _ _ _)) fun a k=> ?_;obtain⟨r,z⟩:=bD.alloc JY (.cells (az bs).cells 52);have x:=d4.J r z;have b4:=Zm.J JY z r (fun h=>h) rfl;have h0:A.la.length=j:=by rw[b7];exact d4.qF.trans f1
 refine nr k (by decide) rfl (by decide) fun ty c5 af=> ?_;obtain⟨v7,w7,p,G,F,K,f3⟩:=x.arr.mc (P:=Try.prog) (tt:=54) (u:=az bs) (by kernel_rfl) z ty ⟨w6.heap.size,0,none⟩ 1 (jm (vs:=[az bs]) (heap_alloc_new w6 _) rfl) rfl (by rw[ak,h0];omega);have s7:SX (fun t=>bR t=some (1000+j)∨bR t=some 1) w5 w7:=(s6.trans (SX.alloc _ _ _)).trans (SX.iu (fun t h=>(yj.iu t 1 h).elim .inr (fun e=>by simp only[iE]at e;omega)) F);refine⟨v7,w7,iq (k.op rfl) (k.op rfl) p,fun _=>s7,fun a k=> ?_⟩;have L:jX w7 G 1 52 v7 ((A.la++[bs]).map az):=by rw[ck];exact f3
 have b0:=x.NL F K L;have b6:=b4.J z K F ct rfl;obtain⟨h8,h5,e8⟩:=L.slice
 repeat refine sm k fun a k=> ?_
 refine jE (cur:=A.cells false) k (by decide) rfl (by kernel_rfl) rfl rfl (by rw[e8];rfl) b0.obj.heap (by show 2<11;omega) (by rw[e8];rfl) (fun h=>absurd rfl h) fun a k=> ?_;refine ar ?_;obtain⟨a0,J,e0⟩:=b0.obj.set K (us:=(A.cells false).set (0+2) v7);have g2:=b0.setObj a0 J e0;have b5:=b6.J K J a0 ct rfl
 have O:=g2.WW (bs:=bs) (s:=F8 n j) (by
  have e:1000+({gB n j with saved:=(gB n j).saved++[ub]}:GS).eX.length=1000+j:=by show 1000+(gB n j).eX.length=1000+j;rw[f1]
  rw[e];exact b5)
 have Y:=((d6.Z o JY r nE).eY o z F (.inl (by decide))).eY o K a0 (.inl (by decide));have k:=k.sb (l:=[(8,.int .i64 ((j+1:Nat):Int)),(5,az b),(0,.int .i64 n)]);generalize a5:({A with l:=v7,la:=A.la++[bs],lb:=A.lb++[bs]}:GR)=R2 at O;have f5:R2.la=R2.lb:=by rw[<-a5];show A.la++[bs] =A.lb++[bs];rw[b7]
 have b2:R2.va=R2.vv:=by rw[<-a5];exact e7
 have f9:(A.cells false).set (0+2) v7=R2.cells false:=by rw[<-a5];rfl
 rw[f9]at O;clear a0 F r d6 yj d7 g2 b0 x d4 B U s6 s7 s0 e5 f3 L p a5 Zm b4 b6 b5 e0 Z M;rw[f9]at Y J⊢;generalize w7.setRow _ _=w8 at O Y J⊢;refine wp_seq (rg (fun t=>G t=some 2) hQ ZX ?_);intro w9 e9;have x:=O.O e9;have oT:=Y.W o J e9;have s0:=SX.refl (fun t=>G t=some 2) w9;have C: ¬G b=some 2:=by rw[x.obj.ow];decide
 repeat (first|refine sm k fun a k=> ?_|refine ld k (x.cell C rfl) fun a k=> ?_)
 refine mO (kk:=1) (T:=29) k (by decide) rfl (by decide) rfl (by kernel_rfl) rfl (fun _=>SX.alloc _ _ _) fun a k=> ?_;obtain⟨r,z⟩:=bD.alloc x.wf (.cells iw.cells 29);have a9:=x.J r z;have g7:R2.va.length=j:=by rw[b2];exact a9.xg.trans g8
 refine nr k (by decide) rfl (by decide) fun ty c5 af=> ?_;obtain⟨va,wa,p,a1,V,c6,c9⟩:=a9.qP.mc (P:=Try.prog) (tt:=57) (u:=iw) (by kernel_rfl) z ty ⟨w9.heap.size,0,none⟩ 1 (jm (vs:=[iw]) (heap_alloc_new w9 _) rfl) rfl (by rw[g7];omega);have s1:SX (fun t=>G t=some 2) w9 wa:=(SX.alloc _ _ _).trans (SX.iu (fun _ h=>h) V);refine⟨va,wa,iq (k.op rfl) (k.op rfl) p,fun _=>s1,fun a k=> ?_⟩;have a8:=a9.NJ V c6 c9;obtain⟨h7,h4,b3⟩:=c9.slice
 repeat refine sm k fun a k=> ?_
 refine jE (cur:=R2.cells false) k (by decide) rfl (by kernel_rfl) rfl rfl (by rw[b3];rfl) a8.obj.heap (by show 7<11;omega) (by rw[b3];rfl) (fun h=>absurd rfl h) fun a k=> ?_;refine ar ?_;obtain⟨b9,a2,d9⟩:=a8.obj.set c6 (us:=(R2.cells false).set (0+7) va);have a7:=(a8.setObj b9 a2 d9).QZ (by show(gB n j).bc.length<=5;omega);have c2:=((oT.Z o x.wf r nE).eY o z V (.inl (by decide))).eY o c6 b9 (.inl (by decide));have k:=k.sb (l:=[(8,.int .i64 ((j+1:Nat):Int)),(5,az b),(0,.int .i64 n)]);generalize a4:({R2 with bc:=va,va:=R2.va++[iw],vv:=R2.vv++[iw]}:GR)=R3 at a7;have f4:R3.la=R3.lb:=by rw[<-a4];exact f5
 have e6:R3.va=R3.vv:=by rw[<-a4];show R2.va++[iw] =R2.vv++[iw];rw[b2]
 have f8:(R2.cells false).set (0+7) va=R3.cells false:=by rw[<-a4];rfl
 rw[f8]at a7;clear b9 V r oT a8 a9 x O s1 s0 e9 c9 p a4 d9 Y;rw[f8]at c2 a2⊢;generalize wa.setRow _ _=wc at a7 c2 a2⊢;refine rg (fun t=>a1 t=some 14) hQ ZW ?_;intro wd ed;have N:=a7.O ed;have g3:=c2.W o a2 ed;have s0:=SX.refl (fun t=>a1 t=some 14) wd;have C: ¬a1 b=some 14:=by rw[N.obj.ow];decide
 repeat (first|refine sm k fun a k=> ?_|refine ld k (N.cell C rfl) fun a k=> ?_)
 refine mO (kk:=1) (T:=3) k (by decide) rfl (by decide) rfl (by kernel_rfl) rfl (fun _=>SX.alloc _ _ _) fun a k=> ?_;obtain⟨r,I⟩:=bD.alloc N.wf (.cells (Value.int .i64 0).cells 3);have g1:=N.J r I;refine nr k (by decide) rfl (by decide) fun ty c5 af=> ?_
 obtain⟨vf,wf,p,g4,b8,H,f2⟩:=g1.df.Gj (P:=Try.prog) (tt:=29) (by kernel_rfl) rfl I ty wd.heap.size (d:=.int .i64 0) ⟨0,rfl,by decide⟩ (us:=[.int .i64 0]) rfl (heap_alloc_new wd _) (by
   intro j u c f m
   match j,f,m with
   |0,f,m=>injection f with f;injection m with m;subst f m;exact .int _ _) (tg (by unfold gB;simp;omega))
 have s1:SX (fun t=>a1 t=some 14) wd wf:=(SX.alloc _ _ _).trans (SX.iu (fun _ h=>h) b8);refine⟨vf,wf,iq (k.op rfl) (k.op rfl) p,fun _=>s1,fun a k=> ?_⟩;have d3:=g1.BR b8 H f2;obtain⟨h6,h3,e4⟩:=f2.slice
 repeat refine sm k fun a k=> ?_
 refine jE (cur:=R3.cells false) k (by decide) rfl (by kernel_rfl) rfl rfl (by rw[e4];rfl) d3.obj.heap (by show 8<11;omega) (by rw[e4];rfl) (fun h=>absurd rfl h) fun a k=> ?_;refine ar ?_;obtain⟨d5,g6,g5⟩:=d3.obj.set H (us:=(R3.cells false).set (0+8) vf);have h2:=d3.setObj d5 g6 g5;refine d1 _ _ S6 g4 {R3 with df:=vf} (k.sb) (((g3.Z o N.wf r nE).eY o I b8 (.inl (by decide))).eY o H d5 (.inl (by decide))) ?_ f4 e6;rw[QB];exact h2
end
section
variable{w w0:Tam}{S S0:bz}{ow:Ow}{b n:Nat}{R:GR}{v:Tan}{Q:HP}{a:Act}
def _root_.Go.dI.Wf.O{c:Tam}(h:Wf w S ow)(e:uH w c):Wf c S ow:=⟨fun b o f=>by rw[e.heap];exact h.s b o f,fun b l g=>by rw[e.heap];exact h.o b l g,h.d⟩
noncomputable def Ve:Code:=.seq (.seq (.region 10 Ms false) (.block 4 (.loop (.seq (.seq (.region 11 Mr false) (.cond (.tmp 49) .skip (.exit 4))) (.seq (.block 5 Dn) (.region 12 Mq false)))))) (.seq (.region 17 Ml false) .ret)
def Lv(O:n<=5)(d:Wf w0 S0 (fun _=>none))(N:bD LG ax w0 S0 (fun _=>none) w S ow)(H:GM w S ow b (R.cells false) R (gB n 0))(B:R.la=R.lb)(A:R.va=R.vv)(k:Kn 97 a [(5,az b),(0,.int .i64 n)]):
  Ve.wp Try.prog (nk w0 S0 n) a w:=by
 have r:QP (nk w0 S0 n):=ju;unfold Ve;refine wp_seq (wp_seq (rg ax r Z2 ?_));intro F D;have e:=H.O D;have u:=SX.refl ax F
 repeat refine sm k fun a k=> ?_
 refine ar ?_;have f:=N.W d H.wf D
 refine wp_block (wp_loop_ghost (fun G a W=> ∃(j:Nat) (x:bz) (g:Ow) (i:GR),G=n-j∧j<=n∧Kn 97 a [(8,.int .i64 ((j+1:Nat):Int)),(5,az b),(0,.int .i64 n)] ∧bD LG ax w0 S0 (fun _=>none) W x g∧
  GM W x g b (i.cells false) i (gB n j)∧i.la=i.lb∧i.va=i.vv) (n-0)
  ⟨0,S,ow,R,rfl,aC _,k.sb,f,e,B,A⟩ ?_)
 clear k e f u D F;rintro G a W ⟨j,x,g,i,rfl,hjn,k,f,e,Zo,Zk⟩;refine wp_seq (wp_seq (rg ax r Z1 ?_));intro M K;have h:=e.O K;have m:=f.W d e.wf K;have u:=SX.refl ax M
 repeat refine sm k fun a k=> ?_
 refine cm (c:=decide (((j+1:Nat):Int)<=(n:Int))) k rfl rfl rfl fun a k=> ?_;refine ar (aV k rfl ?_);have k:=k.sb (l:=[(8,.int .i64 ((j+1:Nat):Int)),(5,az b),(0,.int .i64 n)]);by_cases p:((j+1:Nat):Int)<=(n:Int)
 ·rw[if_pos (by simpa using p)];refine wp_skip ?_;refine wp_seq (wp_block (Lw (by exact r) h Zo Zk (by omega) O k ?_));intro a E P z R3 k y t q o;refine rg ax r Z0 ?_;intro L I;have u:=SX.refl ax L
  repeat refine sm k fun a k=> ?_
  refine ik (s:=((j+1+1:Nat):Int)) k (by assumption) rfl (by decide) rfl rfl (wrap64 (by omega) (by omega)) fun a k=> ?_
  repeat refine sm k fun a k=> ?_
  refine ar ⟨n-(j+1),by omega,j+1,P,z,R3,rfl,by omega,k.sb,(jZ d h.wf m y nE).W d t.wf I,t.O I,q,o⟩
 ·rw[if_neg (by simpa using p)];refine wp_exit ?_;have C:j=n:=by omega
  subst C;refine wp_seq (rg ax r ZV ?_);intro E J;have u:=SX.refl ax E
  repeat refine sm k fun a k=> ?_
  refine ar (wp_ret (rH adQ k rfl ⟨b,x,g,rfl,m.W d h.wf J,i,h.O J,Zo,Zk⟩).1)
noncomputable def Zz:Code:=.seq (.seq (.region 6 UN false) (.block 2 (.loop (.seq (.seq (.region 7 UM false) (.cond (.tmp 32) .skip (.exit 2))) (.seq (.block 3 (.region 9 Y4 false)) (.region 8 Y5 false)))))) Ve
def Lx(z:n<=5)(d:Wf w0 S0 (fun _=>none))(x:bD LG ax w0 S0 (fun _=>none) w S ow)(q:GM w S ow b (R.cells false) R (gB n 0))(i:R.la=R.lb)(h:R.va=R.vv)(k:Kn 97 a [(5,az b),(1,.int .i64 n),(0,.int .i64 n)]):
  Zz.wp Try.prog (nk w0 S0 n) a w:=by
 have p:QP (nk w0 S0 n):=ju;unfold Zz;refine wp_seq (wp_seq (rg ax p adV ?_));intro m t;have e:=q.O t;have g:=x.W d q.wf t;have o:=SX.refl ax m
 repeat refine sm k fun a k=> ?_
 refine ik (s:=((n+1:Nat):Int)) k (by assumption) rfl (by decide) rfl rfl (wrap64 (by omega) (by omega)) fun a k=> ?_
 repeat refine sm k fun a k=> ?_
 refine ar ?_;have k:=k.sb (l:=[(7,.int .i64 ((n+1:Nat):Int)),(5,az b),(0,.int .i64 n)]);refine wp_block (wp_loop_ghost (fun y A W=>W=m∧Kn 97 A [(7,.int .i64 ((n+1:Nat):Int)),(5,az b),(0,.int .i64 n)]) 0 ⟨rfl,k⟩ ?_);clear k o;rintro y a W ⟨rfl,k⟩;refine wp_seq (wp_seq (rg ax p adU ?_));intro u r;have j:=e.O r;have f:=g.W d e.wf r;have o:=SX.refl ax u
 repeat refine sm k fun a k=> ?_
 refine cm (c:=false) k rfl rfl (congrArg some (decide_eq_false (by omega))) fun a k=> ?_;refine ar (aV k rfl (wp_exit ?_));exact Lv z d f j i h (k.sb)
end
def xO{w:Tam}{S:bz}{n:Nat}(x:Wf w S (fun _=>none))(h1:1<=n)(h5:n<=5):Calls Try.prog 9 [.int .i64 n,.int .i64 n].toArray w fun e w'=> ∃b S' p,e= .returned (az b)∧bD LG ax w S (fun _=>none) w' S' p∧kg w' S' p b (gB n n):=by
 refine kv Try.func9 Rn abO nt9 (by show 2<=97;omega) ?_;intro a k;have U:QP (nk w S n):=ju;show Code.wp Try.prog _ (nk w S n) a w;refine wp_seq (rg ax U ad2 ?_);intro w1 e1;have H:=SX.refl ax w1
 repeat refine sm k fun a k=> ?_
 refine ar ?_;have r:=x.O e1;have Z:bD LG ax w S (fun _=>none) w1 S (fun _=>none):=bD.O e1 LG ax S _;refine wp_seq (rg ax U ad0 ?_);intro E D;have m:=r.O D;have G:=Z.W x r D;have H:=SX.refl ax E;refine my (ps:=[]) (vs:=(R0 iw).cells false) k (by assumption) rfl (by decide) rfl (by kernel_rfl) fun a k=> ?_;refine rq (us:=(R0 iw).cells false) k (by decide) rfl (by decide) rfl rfl (fun _=>SX.alloc _ _ _) fun a k=> ?_;have s1:=SX.alloc ax E (.cells ((R0 iw).cells false).toArray 59)
 repeat refine sm k fun a k=> ?_
 refine ar ?_;obtain⟨y,q⟩:=bD.alloc m (.cells ((R0 iw).cells false).toArray 59);have t:=fG.new m 59 ((R0 iw).cells false);have g:=G.Z x m y nE;have c2:w.heap.size<=E.heap.size:=G.size;generalize c5:E.heap.size=b at k t c2;generalize E.alloc _=A at t y q g⊢
 have C:Wf A S (fun k=>if k=b then some 0 else none):=by
  refine⟨q.s,?_,?_⟩
  ·intro k l z;split at z
   ·rename_i e;rw[e];exact t.lt
   ·cases z
  ·intro k o l hs z;split at z
   ·rename_i e;rw[e]at hs;exact absurd hs (t.s o)
   ·cases z
 have oT:bD LG ax w S (fun _=>none) A S (fun k=>if k=b then some 0 else none):=by
  refine⟨g.size,g.os,g.tape,g.output,fun _ _ _ h _=> ?_,g.free,g.jw,g.cell,fun _ _ h=> ?_,g.new,fun k hk _=>if_neg (by omega),?_⟩
  ·cases h
  ·cases h
  ·intro k l z;split at z
   ·injection z with z;subst z;exact .inr (.inl (by omega))
   ·cases z
 have J:wC A (fun k=>if k=b then some 0 else none) 0 b 59 ((R0 iw).cells false):=⟨t.heap,if_pos rfl,by omega⟩;generalize (fun k=>if k=b then some 0 else none:Ow)=I at C oT J;have k:=k.sb (l:=[(5,az b),(1,.int .i64 n),(0,.int .i64 n)]);clear y q t g s1 H G m D Z r e1;refine wp_seq (wp_seq (rg ax U adZ ?_));intro w5 e5;have H:=SX.refl ax w5
 repeat refine sm k fun a k=> ?_
 refine ar ?_;have Y:=oT.W x C e5;have a2:=J.J (bD.O e5 ax ax S I) (fun h=>h)
 refine wp_block (wp_loop_ghost (fun mm a W=> ∃(i:Nat) (f:Ow) (v:Tan),mm=n-i∧i<=n∧Kn 97 a [(6,.int .i64 ((i+1:Nat):Int)),(5,az b),(1,.int .i64 n),(0,.int .i64 n)] ∧bD LG ax w S (fun _=>none) W S f∧Wf W S f∧
  wC W f 0 b 59 ((R0 v).cells false)∧dA W S f 20 3 I6 v (Bb i)) (n-0)
  ⟨0,I,iw,rfl,aC _,k.sb,Y,C.O e5,a2,dA.nil (by decide) (by omega)⟩ ?_)
 clear k Y a2 H e5 w5 J oT C I;rintro mm a W ⟨i,f,v,rfl,hin,k,DZ,r,ob1,ho1⟩;refine wp_seq (wp_seq (rg ax U adY ?_));intro E D;have m:=r.O D;have a0:=DZ.W x r D;have a3:=ob1.J (bD.O D ax ax S f) (fun h=>h);have a8:=ho1.J r (bD.O D ax ax S f) (fun h=>h);have H:=SX.refl ax E
 repeat refine sm k fun a k=> ?_
 refine cm (c:=decide (((i+1:Nat):Int)<=(n:Int))) k rfl rfl rfl fun a k=> ?_;refine ar (aV k rfl ?_);have k:=k.sb (l:=[(6,.int .i64 ((i+1:Nat):Int)),(5,az b),(1,.int .i64 n),(0,.int .i64 n)]);by_cases a9:((i+1:Nat):Int)<=(n:Int)
 ·rw[if_pos (by simpa using a9)];refine wp_skip ?_;refine wp_seq (wp_block (rg (fun O=>f O=some 20) U adW ?_));intro A e3;have q:=m.O e3;have y:=a0.W x m e3;have B:=a3.J (bD.O e3 ax ax S f) (fun h=>h);have b9:=a8.J m (bD.O e3 ax ax S f) (fun h=>h);have H:=SX.refl (fun O=>f O=some 20) A;have b4: ¬f b=some 20:=by rw[B.ow];decide
  have N: ∀w',SX (fun O=>f O=some 20) A w'->w'.cell? ⟨b,0,none⟩=some v:=eF B.lt b4 (jm (j:=0) B.heap rfl)
  repeat (first|refine sm k fun a k=> ?_|refine ld k (N) fun a k=> ?_)
  refine mO (kk:=1) (T:=3) k (by decide) rfl (by decide) rfl (by kernel_rfl) rfl (fun _=>SX.alloc _ _ _) fun a k=> ?_;obtain⟨M,a4⟩:=bD.alloc q (.cells (Value.int .i64 ((i+1:Nat):Int)).cells 3);have b8:=b9.J q M (fun h=>h);have b3:=B.J M id;have c1:jo .i64 ((i+1:Nat):Int):=⟨by have:i64.min= -9223372036854775808:=rfl;omega,by have:i64.max=9223372036854775807:=rfl;omega⟩;refine nr k (by decide) rfl (by decide) fun ty c4 af=> ?_
  obtain⟨v',w',a6,p,F,L,a7⟩:=b8.Gj (P:=Try.prog) (tt:=29) (by kernel_rfl) rfl a4 ty A.heap.size (d:=.int .i64 ((i+1:Nat):Int)) ⟨_,rfl,c1⟩ (us:=[.int .i64 ((i+1:Nat):Int)]) rfl (heap_alloc_new A _) (by
   intro j u c hu hc
   match j,hu,hc with
   |0,hu,hc=>injection hu with hu;injection hc with hc;subst hu hc;exact .int _ _) (tg (by rw[JB];omega))
  have s1:SX (fun O=>f O=some 20) A w':=(SX.alloc _ _ _).trans (SX.iu (fun _ h=>h) F);refine⟨v',w',iq (k.op rfl) (k.op rfl) a6,fun _=>s1,fun a k=> ?_⟩;have a1:=b3.J F ct;obtain⟨Av,cv,a5⟩:=a7.slice
  repeat refine sm k fun a k=> ?_
  refine jE (cur:=(R0 v).cells false) k (by decide) rfl (by kernel_rfl) rfl rfl (by rw[a5];rfl) a1.heap (by show 0<11;omega) (by rw[a5];rfl) (fun h=>absurd rfl h) fun a k=> ?_;refine ar ?_;obtain⟨X,K,b2⟩:=a1.set L (us:=((R0 v).cells false).set (0+0+0) v');have b7:=a7.J L X ct;have b0:=((y.Z x q M nE).eY x a4 F (.inl (by decide))).eY x L X (.inl (by decide));have k:=k.sb (l:=[(6,.int .i64 ((i+1:Nat):Int)),(5,az b),(1,.int .i64 n),(0,.int .i64 n)]);refine rg ax U adX ?_;intro w4 e4;have H:=SX.refl ax w4
  repeat refine sm k fun a k=> ?_
  refine ik (s:=((i+1+1:Nat):Int)) k (by assumption) rfl (by decide) rfl rfl (wrap64 (by omega) (by omega)) fun a k=> ?_
  repeat refine sm k fun a k=> ?_
  refine ar ⟨n-(i+1),by omega,i+1,p,v',rfl,by omega,k.sb,b0.W x K e4,K.O e4,b2.J (bD.O e4 ax ax S p) (fun h=>h),?_⟩;rw[OO];exact b7.J K (bD.O e4 ax ax S p) (fun h=>h)
 ·rw[if_neg (by simpa using a9)];refine wp_exit ?_;have c0:i=n:=by omega
  subst c0;obtain⟨S',p,V,b5,b6,_⟩:=a8.freeze m;have b1:=a3.J V ct;exact Lx h5 x (a0.eY x m V (.inl (by decide))) (GM.begin b5 b1 b6) rfl rfl (k.sb)
def Q5(s:RS)(k:Nat):Bool:=eV s.li s.lt s.le&&decide (1<=s.id)&&decide (s.id<=5)&&decide (s.le.length+k<=1073741824)&&decide (s.msgs.length+k<=4294967296)&&decide (s.dW.length+k<=4294967296)&&decide (s.bZ.length+k*1073741824<=274877906944)&&
 decide (s.bc.length+k<=4294967296)&&fB (.agg [.list s.fv,.list s.fl])&&(decide (s.li<=0)||fB (.agg [.list s.sv,.list s.sl]))&&eI s.le&&decide (0<=s.term)&&decide (s.term<=MX)&&s.reads.isEmpty
def y8{s:RS}{k:Nat}(h:Q5 s k=true):Ok s k:=by simp only[Q5,aS,bk,dt,List.isEmpty_iff]at h;obtain⟨⟨⟨⟨⟨⟨⟨⟨⟨⟨⟨⟨⟨u,t⟩,r⟩,q⟩,p⟩,o⟩,n⟩,m⟩,l⟩,j⟩,f⟩,e⟩,d⟩,c⟩:=h;exact⟨u,t,r,q,p,o,by unfold G;exact n,m,l,fun v=>j.resolve_left (by omega),f,e,d,c⟩
def NU{s:RS}{k:Nat}(h:Ok s k):Q5 s k=true:=by
 simp only[Q5,aS,bk,dt,List.isEmpty_iff];refine⟨⟨⟨⟨⟨⟨⟨⟨⟨⟨⟨⟨⟨h.may,h.xV⟩,h.xU⟩,h.qV⟩,h.nm⟩,h.ne⟩,?_⟩,h.nv⟩,h.cf⟩,?_⟩,h.cl⟩,h.tm⟩,h.tx⟩,h.rd⟩
 ·have:=h.nc;unfold G at this;exact this
 ·by_cases c:0<s.li
  ·exact .inr (h.cs c)
  ·exact .inl (by omega)
def Xo(g:GS):Bool:=decide (g.eX.length<=5)&&decide (g.df.length=g.eX.length)&&decide (g.bc.length=g.eX.length)&&decide (g.saved.length=g.eX.length)&&decide (g.bM.length<=2000000)&&g.bc.all fun l=>decide (l.length<=2000000)
def WA{g:GS}(h:Xo g=true):tZ g:=by simp only[Xo,aS,bk,bY]at h;obtain⟨⟨⟨⟨⟨k,j⟩,f⟩,e⟩,d⟩,c⟩:=h;exact⟨k,j,f,e,d,c⟩
def WB{g:GS}(h:tZ g):Xo g=true:=by simp only[Xo,aS,bk,bY];exact⟨⟨⟨⟨⟨h.n5,h.df⟩,h.bc⟩,h.saved⟩,h.lead⟩,h.vl⟩
def TW(i:Nat)(o:D)(g:GS):Bool:=Xo g&&decide (i<g.eX.length)&&Q5 (bX g i) 0&&decide ((cD 7 (g.saved.getD i .top)).A.length+(cD 3 o).A.length<=300000000000)&&decide ((cD 5 o).A.length<=5000000000)&&
 ((cD 6 o).A.all fun x=>decide (0<=(cD 0 x).q)&&decide ((cD 0 x).q<=300000000000))&&decide (g.told.length<=300000000001)
section
variable{w:Tam}{S:bz}{ow:Ow}{b i:Nat}{g:GS}{Q:HP}{a:Act}
def qg{vo:Tan}{o:D}{lost:Bool}(h:kg w S ow b g)(f:nq ow)(e:ca w S vo o)(d:Has yJ o)(c:TW i o g=true):
  Calls Try.prog 14 [az b,.int .i64 i,vo,.bool lost].toArray w (qK w S ow b (u9 i o lost g)):=by simp only[TW,aS,bk,bY]at c;obtain⟨⟨⟨⟨⟨⟨q,p⟩,n⟩,m⟩,l⟩,k⟩,j⟩:=c;exact HV h f (WA q) p (y8 n) e d m l k j
def jh(i:Nat)(s:RS)(g:GS):GS:={g with eX:=g.eX.set i s}
def Er(i:Nat)(x:Int)(g:GS):GS:=u9 i (jW x (bX g i)).1 false (jh i (jW x (bX g i)).2 g)
def GD(i:Nat)(x:Int)(g:GS):Bool:=decide (i<g.eX.length)&&decide (g.bc.length<=5)&&Q5 (bX g i) 20&&TW i (jW x (bX g i)).1 (jh i (jW x (bX g i)).2 g)
def tq(m:D):Nat:=((cD 2 m).q-1).toNat
def IM(m:D)(g:GS):Bool:=decide (1<=(cD 2 m).q)&&decide ((cD 2 m).q<=g.eX.length)
def pR(m:D)(g:GS):GS:=if IM m g then u9 (tq m) (jy m (bX g (tq m))).1 false (jh (tq m) (jy m (bX g (tq m))).2 g) else g
def yP(m:D)(g:GS):Bool:= !IM m g||(decide (g.bc.length<=5)&&decide (g.eX.length<=5)&&Q5 (bX g (tq m)) (20+(cD 12 m).A.length)&&decide ((cD 12 m).A.length<=2147483648)&&TW (tq m) (jy m (bX g (tq m))).1 (jh (tq m) (jy m (bX g (tq m))).2 g))
def PA(g:GS):GS:=g.eE.foldl (fun g m=>pR m g) {g with eE:=[]}
def tE:Taf->GS->Bool
 | [],_=>true
 |m::r,g=>yP m g&&tE r (pR m g)
def jG(hi:i<g.eX.length):g.eX[i]? =some (bX g i):=by unfold bX;rw[aj,aQ hi];rfl
def Ip{j:Int}(X:QP Q)(h:kg w S ow b g)(V:nq ow)(p:GD 0 0 g=true)(k:Kn 54 a [(2,.int .i64 j),(1,az b)])(d: ∀a W P m,Kn 54 a [(2,.int .i64 j),(1,az b)] ->bD LG ax w S ow W P m->kg W P m b (Er 0 0 g)->Q .normal a W):(Code.region 5 MV false).wp Try.prog Q a w:=by
 obtain⟨R,r,f,A⟩:=h;simp only[GD,aS,bk]at p;obtain⟨⟨⟨F,B⟩,o⟩,n⟩:=p;refine rg (fun M=>ow M=some 1000) X aaK ?_;intro T O;have c:=r.O O;have x:=(bD.refl LG ax w S ow).W r.wf r.wf O;have s0:=SX.refl (fun M=>ow M=some 1000) T;have z: ¬ow b=some 1000:=by rw[c.obj.ow];decide
 obtain⟨L,q,D,U⟩:=c.eX 0 _ (jG F);obtain⟨Z,Y,J,H,C,G⟩:=c.arr.elem (i:=0) (u:=az L) (by rw[f,ab,q];rfl);have I:(R.la.map az).length=g.eX.length:=by rw[ak,f];exact c.qF
 have y: ¬ow Z=some 1000:=by rw[C];decide
 repeat (first|refine sm k fun a k=> ?_|refine ld k (c.cell z rfl) fun a k=> ?_)
 rw[J]at k;refine Gr (el:=52) (sz:=1) (s:=0) k (by assumption) rfl (by decide) rfl rfl (by kernel_rfl) (by kernel_rfl) (by rw[I];exact F) fun a k=> ?_;refine kr (v:=az L) k (by assumption) rfl (by decide) rfl (by kernel_rfl) (by kernel_rfl) (eF H y (by rw[bG];exact G)) fun a k=> ?_;refine gH (vs:=[az L,.int .i64 0]) k (by decide) rfl (by decide) XC.enter rfl (wO D c.wf (by omega) (by decide) (y8 o)) ?_;rintro e w2 ⟨v,S2,D2,rfl,mZ,uF,Eg,Xx,T6⟩;refine⟨_,rfl,fun _=>SX.iu (fun _ h=>h) mZ,fun a k=> ?_⟩;have K:=c.ua (i:=0) mZ uF F q Eg (fF Eg) B;have t:=x.eY r.wf c.wf mZ (.inr (by omega));have E:nq D2:=V.J mZ (fun l N=>by simp only[iE]at N;subst N;exact .inr (by omega));refine gH (vs:=[az b,.int .i64 ((0:Nat):Int),v,.bool false]) k (by decide) rfl (by decide) qk rfl (qg (g:=jh 0 (jW 0 (bX g 0)).2 g) ⟨_,K,f,A⟩ E Xx T6 n) ?_;rintro e w4 ⟨S4,TV,rfl,qQ,hg4⟩;refine⟨_,rfl,fun h=>absurd rfl h,fun a k=> ?_⟩;exact ar (d _ _ S4 TV (k.sb) (jZ r.wf uF t qQ nE) hg4)
end
end Go.Proofs.Ytjhmkaninmgilaa
namespace Go.Proofs.Ytjhmkaninmgilaa
open Go Go.RowKit Go.dI Go.Proofs
variable{C M K n i:Nat}{N:Int}{s t:RS}{g:GS}
def tw(s:RS):D:=.agg [.int .i64 s.term,.int .i64 s.vote,.int .i64 s.li,.int .i64 s.lt,.list s.sv,.list s.sl,.list s.aY,.list s.le]
def cJ.base{j:Nat}(h:cJ C M s K)(hi:Idle s)(a:j<=K):cJ (G j) j s j:=
 ⟨h.may,h.xV,h.xU,by have:=h.qV;omega,by rw[hi.msgs];simp,by have:=h.ne;omega,by rw[hi.F2];simp,by have:=h.nv;omega,h.cf,h.cs,h.cl,h.tm,h.tx,h.rd⟩
def cJ.ok{j:Nat}(h:cJ C M s K)(hi:Idle s)(b:j<=K)(a:j<=256):Ok s j:=
 ⟨h.may,h.xV,h.xU,by have:=h.qV;omega,by rw[hi.msgs];simp;omega,by have:=h.ne;omega,by
  rw[hi.F2];have:=ZA a;have e:G 256=274877906944:=by unfold G;rfl
  simp only[fO];omega,by have:=h.nv;omega,h.cf,h.cs,h.cl,h.tm,h.tx,h.rd⟩
structure GI(n K:Nat)(N:Int)(g:GS):Prop where
 len:tZ g
 n1:g.eX.length=n
 cf:g.fv=Bb n∧g.fl=[]
 eX: ∀(i:Nat) s,g.eX[i]? =some s->Idle s∧cJ (G K) K s K∧Bs N s∧g.saved[i]? =some (tw s)
 eE: ∀m∈g.eE,mr N m
 nl:g.eE.length<=430
 told:(g.told.length:Int)<=N+1
 nn:0<=N
def GI.get(h:GI n K N g)(hi:i<n):Idle (bX g i)∧cJ (G K) K (bX g i) K∧Bs N (bX g i)∧g.saved[i]? =some (tw (bX g i)):=h.eX i _ (jG (by rw[h.n1];exact hi))
def GI.le{j:Nat}{f:Int}(h:GI n K N g)(o:j<=K)(e:N<=f):GI n j f g:=
 ⟨h.len,h.n1,h.cf,fun i s k=>let ⟨a,b,c,d⟩:=h.eX i s k;⟨a,b.base a o,c.mono e,d⟩,fun m l=>(h.eE m l).mono e,h.nl,fV h.told (by omega),fV h.nn e⟩
def AB{l:Taf}{n:Int}(h:n<=5000)(a:l.length<=2000000):(fK l n).length<=2000000:=by unfold fK;rw[ah,List.length_replicate];omega
structure Nt(g g':GS):Prop where
 eX:g'.eX=g.eX
 saved:g'.saved=g.saved
 eE:g'.eE=g.eE
 told:g'.told=g.told
 fv:g'.fv=g.fv
 fl:g'.fl=g.fl
def Jv(h:tZ g)(i:Nat):Nt g (mo i g)∧tZ (mo i g):=by
 unfold mo;dsimp only;split
 ·exact⟨⟨rfl,rfl,rfl,rfl,rfl,rfl⟩,⟨h.n5,h.df,h.bc,h.saved,h.lead,h.vl⟩⟩
 ·rename_i e;have d:(bX g i).term<=5000:=by omega
  have a:tZ (rv i (bX g i) {g with df:=g.df.set i (.int .i64 (bX g i).term)}):=by
   refine⟨h.n5,by show(g.df.set i _).length=_;rw[aM];exact h.df,by show(g.bc.set i _).length=_;rw[aM];exact h.bc,h.saved,h.lead,?_⟩;intro l b;rcases dS (show l∈g.bc.set i _ from b) with b|b
   ·exact h.vl l b
   ·rw[b,aM];refine AB d ?_;by_cases c:i<g.bc.length
    ·show(g.bc.getD i []).length<=_;rw[aj,aQ c];exact h.vl _ (aF c)
    ·show(g.bc.getD i []).length<=_;rw[aj,eJ (by omega)];exact aC _
  split
  ·refine⟨⟨rfl,rfl,rfl,rfl,rfl,rfl⟩,⟨a.n5,a.df,a.bc,a.saved,?_,a.vl⟩⟩;show((fK g.bM (bX g i).term).set _ _).length<=_;rw[aM];exact AB d h.lead
  ·exact⟨⟨rfl,rfl,rfl,rfl,rfl,rfl⟩,a⟩
def BO{B:Int}: ∀(cs:Taf) (g:GS),(∀x∈cs,(cD 0 x).q<=B)->(g.told.length:Int)<=B+1->((jq cs g).told.length:Int)<=B+1
 | [],g,_,h=>h
 |x::r,g,hc,h=>by refine BO r (tK x g) (fun y a=>hc y (aH _ a)) ?_;have:=hc x bw;show(((kV g.told (cD 0 x).q).set _ x).length:Int)<=B+1;rw[aM];unfold kV;rw[ah,List.length_replicate];omega
def ED: ∀(cs:Taf) (g:GS),(jq cs g).eE=g.eE∧(jq cs g).saved=g.saved∧(jq cs g).fv=g.fv∧(jq cs g).fl=g.fl
 | [],g=>⟨rfl,rfl,rfl,rfl⟩
 |x::r,g=>ED r (tK x g)
def PR(h:Inv s N t)(j:g.saved[i]? =some (tw s))(hi:i<g.eX.length):(oa i (cq t).1 (jh i (cq t).2 g)).saved=g.saved.set i (tw t):=by
 have b:bX (jh i (cq t).2 g) i=(cq t).2:=by show(g.eX.set i _).getD i dK=_;rw[aj,bI,if_pos rfl,if_pos hi];rfl
 unfold oa;dsimp only;rw[b];show g.saved.set i _=_;congr 1
 have f:(jh i (cq t).2 g).saved.getD i .top=tw s:=by show g.saved.getD i .top=_;rw[aj,j];rfl
 rw[f];have a:cD 4 (cq t).1=t.fC:=rfl;rcases h.lg with⟨l1,l2,l3,l4,l5,l6,l7⟩|⟨l1,l2,l3,l4⟩
 ·have e:wJ ((cq t).2.li+(cq t).2.le.length) (tw s) (cq t).1=s.le:=by unfold wJ;rw[a,l1];rfl
  have d:zn (tw s) (cq t).1=[.int .i64 s.li,.int .i64 s.lt,.list s.sv,.list s.sl,.list s.aY] :=by unfold zn;rw[a,l1];rfl
  unfold C8;rw[e,d];have k:(if(cD 3 (cq t).1).A=[] then s.le else mn s.le (cD 0 ((cD 3 (cq t).1).A.getD 0 .top)).q++(cD 3 (cq t).1).A)=t.le:=l7;rw[k,<-l2,<-l3,<-l4,<-l5,<-l6];rfl
 ·have d:zn (tw s) (cq t).1=[.int .i64 t.li,.int .i64 t.lt,.list t.sv,.list t.sl,.list t.aY] :=by unfold zn;rw[a,l1];rfl
  have e:wJ ((cq t).2.li+(cq t).2.le.length) (tw s) (cq t).1=t.le:=by
   unfold wJ;rw[a,l1];show nZ s.le t.li (decide (t.li+(t.le.length:Int)>t.li))=t.le;unfold nZ;by_cases c:t.le=[]
   ·rw[c];simp
   ·have l:0<t.le.length:=fR.2 c;rw[decide_eq_true (by omega:t.li+(t.le.length:Int)>t.li)];have:=l4.resolve_left c;unfold wG at this;simp only[Bool.and_true];exact this
  unfold C8;rw[e,d,if_pos (show(cD 3 (cq t).1).A=[] from l2)];rfl
def GI.PC{o:D}{s':RS}{L:Nat}(h:GI n K N g)(hi:i<n)(hN:N<=100000000)(hL:K=L+28)(hg:Good (G K) K L (N+1) (bX g i) (o,s')):TW i o (jh i s' g)=true∧GI n L (N+1) (u9 i o false (jh i s' g)):=by
 obtain⟨t,q,O,he⟩:=hg;obtain⟨ei,ek,eb,F⟩:=h.get hi;injection he with U T;subst U T;have e:i<g.eX.length:=by rw[h.n1];exact hi
 have R:bX (jh i (cq t).2 g) i=(cq t).2:=by show(g.eX.set i _).getD i dK=_;rw[aj,bI,if_pos rfl,if_pos e];rfl
 have kd:=O.done;have id:=K5 t;have b:(jh i (cq t).2 g).eX.length=g.eX.length:=aM;have l:tZ (jh i (cq t).2 g):=⟨by rw[b];exact h.len.n5,by rw[b];exact h.len.df,by rw[b];exact h.len.bc,by rw[b];exact h.len.saved,h.len.lead,h.len.vl⟩;have d:t.msgs.length<=28:=by have:=O.nm;omega
 have z: ∀x∈t.bZ,0<=(cD 0 x).q∧(cD 0 x).q<=N+1:=q.J3;constructor
 ·unfold TW;simp only[aS,bk,bY];refine⟨⟨⟨⟨⟨⟨WB l,by rw[b];exact e⟩,by rw[R];exact NU (kd.ok id (aC _) (by omega))⟩,?_⟩,?_⟩,?_⟩,?_⟩
  ·show(cD 7 (g.saved.getD i .top)).A.length+t.dW.length<=_;rw[aj,F];show(bX g i).le.length+t.dW.length<=_;have:=ek.qV;have:=O.ne;omega
  ·show t.msgs.length<=_;omega
  ·intro x P;have:=z x P;omega
  ·show g.told.length<=_;have:=h.told;omega
 ·unfold u9
  have p:(if(cD 0 (cq t).1).Y then oa i (cq t).1 (jh i (cq t).2 g) else jh i (cq t).2 g).saved=g.saved.set i (tw t):=by
   show(if t.save=true then _ else _:GS).saved=_;by_cases Q:t.save=true
   ·rw[if_pos Q];exact PR q F e
   ·rw[if_neg Q];obtain⟨J,Z,Y,X⟩:=q.ns (by simpa using Q);obtain⟨l2,l3,l4,l5,l6,I⟩:=q.left Z;rw[J]at I;have I:(bX g i).le=t.le:=I;show g.saved=_;have:tw t=tw (bX g i):=by unfold tw;rw[Y,X,l2,l3,l4,l5,l6,I]
    rw[this];refine fc fun j=> ?_;rw[bI];by_cases v:i=j
    ·subst v;rw[if_pos rfl,if_pos (aG.1 F).1,F]
    ·rw[if_neg v]
  generalize y:(if(cD 0 (cq t).1).Y then oa i (cq t).1 (jh i (cq t).2 g) else jh i (cq t).2 g)=g1 at p
  have V:LO (jh i (cq t).2 g) g1:=by
   rw[<-y];split
   ·exact Fk _ _ _
   ·exact⟨rfl,rfl,rfl,rfl,rfl⟩
  have S:g1.eE=g.eE∧g1.told=g.told∧g1.fv=g.fv∧g1.fl=g.fl:=by rw[<-y];split<;>exact⟨rfl,rfl,rfl,rfl⟩
  have k:(∀m∈(rb (cq t).1 false g1).eE,mr (N+1) m)∧(rb (cq t).1 false g1).eE.length<=430∧(rb (cq t).1 false g1).told=g.told∧(rb (cq t).1 false g1).saved=g.saved.set i (tw t)∧(rb (cq t).1 false g1).fv=g.fv∧(rb (cq t).1 false g1).fl=g.fl:=by
   obtain⟨H,b2,b3,b4⟩:=S;unfold rb;split
   ·rename_i hc;rw[H]at hc;refine⟨?_,?_,b2,p,b3,b4⟩
    ·intro m d;rcases aI.1 (show m∈g1.eE++t.msgs from d) with d|d
     ·rw[H]at d;exact(h.eE m d).mono (by omega)
     ·exact q.msg m d
    ·show(g1.eE++t.msgs).length<=430;rw[ah,H];omega
   ·exact⟨by rw[H];exact fun m d=>(h.eE m d).mono (by omega),by rw[H];exact h.nl,b2,p,b3,b4⟩
  have A:=V.trans (QY (cq t).1 false g1);generalize rb (cq t).1 false g1=E at k A;obtain⟨c1,c2,c3,c4,c5,c6⟩:=k;have r:=BO (B:=N+1) t.bZ E (fun x P=>(z x P).2) (by rw[c3];have:=h.told;omega);obtain⟨W,d2,d3,d4⟩:=ED t.bZ E;have f:=A.trans (xf t.bZ E);show GI n L (N+1) (mo i (jq t.bZ E));generalize jq t.bZ E=g3 at r W d2 d3 d4 f;obtain⟨c,u⟩:=Jv (f.Vb l) i;generalize mo i g3=g4 at c u;refine⟨u,?_,?_,?_,?_,?_,?_,by have:=h.nn;omega⟩
  ·rw[c.eX,f.eX,b];exact h.n1
  ·rw[c.fv,c.fl,d3,d4,c5,c6];exact h.cf
  ·intro j s v;rw[c.eX,f.eX]at v;rw[c.saved,d2,c4];have a:(g.eX.set i (cq t).2)[j]? =some s:=v;rw[bI]at a⊢;by_cases w:i=j
   ·subst w;rw[if_pos rfl,if_pos e]at a;injection a with a;subst a;rw[if_pos rfl,if_pos (aG.1 F).1];exact⟨id,kd.base id (bf _),q.after,rfl⟩
   ·rw[if_neg w]at a⊢;obtain⟨J,Z,Y,X⟩:=h.eX j s a;exact⟨J,Z.base J (by omega),Y.mono (by omega),X⟩
  ·rw[c.eE,W];exact c1
  ·rw[c.eE,W];exact c2
  ·rw[c.told];exact r
attribute [local irreducible] TL
def nK:hH.cells.length=46:=rfl
section
variable{w w0:Tam}{S S0:bz}{ow ko:Ow}{b i j:Nat}{g:GS}{R:GR}{Q:HP}{a:Act}
def jS{x n:Int}(p:Wf w S ow)(F:jo .i64 x)(E:jo .i64 n)(C:n≠0):Calls Try.prog 8 [.int .i64 x,.int .i64 n].toArray w fun e B=>e= .returned (.int .i64 (gP x n))∧bD ax ax w S ow B S ow∧Wf B S ow:=by
 refine(c8.calls rfl w S [.int .i64 x,.int .i64 n] [.int .i64 x,.int .i64 n] p.s rfl (fun q v d c f=>by
  match q,c,f with
  |0,c,f=>injection c with c;injection f with f;subst c f;exact .int _ _
  |1,c,f=>injection c with c;injection f with f;subst c f;exact .int _ _) (ag.2 ⟨_,_,rfl,⟨_,rfl,F⟩,ag.2 ⟨_,_,rfl,⟨_,rfl,E⟩,dg.2 rfl⟩⟩) C).mono ?_
 rintro e A ⟨v,S',τ,rfl,hb,_,_,_,kR,_⟩
 have u:bD ax ax w S ow A S ow∧Wf A S ow:=⟨⟨hb.size,hb.os,hb.tape,hb.output,fun b _ m _ _=>hb.block b m,fun b m _ _=>hb.block b m,fun _ _ h=>h,fun b o z=>bh (hb.block b (p.s b o z)),fun _ _ h _=>h,fun _ _ h=>.inl h,fun _ _ h=>h,fun _ _ h=>.inl h⟩,
  ⟨fun b o z=>av (p.s b o z) hb.size,fun b l D=>av (p.o b l D) hb.size,p.d⟩⟩
 refine⟨?_,u⟩;have e:cz 8 [.int .i64 x,.int .i64 n] = .int .i64 (gP x n):=rfl;rw[e]at kR;rcases kR with⟨c',r,hq⟩|⟨r,_⟩
 ·injection r with r;subst r;unfold gl at hq;simp only[ai,if_false]at hq;obtain⟨y,t,k⟩:=hq;injection t with t;subst t;rw[k.1.cn]
 ·exact absurd rfl r
def Jm{A:Tao Addr}{t:Nat}{ms:Taf}{m:D}(h:ca w S (.slice A ms.length t) (.list ms))(F:ms[j]? =some m)(x:Has hH m)(E: ∀z off,A=some ⟨z,off,none⟩->ow z=none):
  ∃(d:Nat) (us:Tac) (off:Nat),A=some ⟨d,off,none⟩∧ow d=none∧S d (off+j*46)∧us.length=46∧(∀(q:Nat) u,us[q]? =some u->w.cell? ⟨d,off+j*46+q,none⟩=some u)∧(∀(q:Nat) u c,us[q]? =some u->m.cells[q]? =some c->ca w S u c)∧us[2]? =some (.int .i64 (cD 2 m).q):=by
 obtain⟨d,off,y,us,C,v,k,o,f⟩:=h.Nh F x (by rw[nK];omega);rw[nK]at v k o;injection C with H _ _;subst H;refine⟨d,us,off,rfl,E d off rfl,v,k,o,f,?_⟩;obtain⟨B,p⟩: ∃u,us[2]? =some u:=⟨_,aQ (by omega)⟩;obtain⟨l,rfl,r⟩:=dQ.1 x;obtain⟨I,e,s⟩:=cI r 2 I6 (by rw[Ty.dq];rfl);obtain⟨n,rfl,J⟩:=s;have G:cD 2 (D.agg l)= .int .i64 n:=by show l.getD 2 .top=_;rw[aj,e];rfl
 rw[p,G,(f 2 B _ p e).cn];rfl
def Di{l:Nat}{T:Tba}{t:Ty}{A:Tao Addr}{n p:Nat}{xs:Taf}(h:dA w S ow l T t (.slice A n p) xs)(y:Wf w S ow):
  ∃q c,bD (iE l) ax w S ow w q c∧Wf w q c∧ca w q (.slice A n p) (.list xs)∧ ∀e k,A=some ⟨e,k,none⟩->c e=none:=by
 obtain⟨q,c,x,r,z,m⟩:=h.freeze y;refine⟨q,c,x,r,z,fun e k v=> ?_⟩;obtain⟨C,B,_⟩:=h.own
 have o:ow e=some l:=by
  rcases B.2 with⟨d,_⟩|⟨g,Gi,cur,d,_⟩
  ·rw[v]at d;cases d
  ·rw[v]at d;injection d with d _ _;injection d with d;injection d with u s;subst u s;exact h.iu e (by rw[v];rfl)
 cases hx:c e with
 |none=>rfl
 |some l'=>
  exfalso;rcases x.iu e l' hx with f|f
  ·rw[o]at f;injection f with f;subst f;exact m e hx
  ·simp only[iE]at f;subst f;exact m e hx
def Cz{P:Tap}{ops:Tad}{S:Tae}{n n0 i d:Nat}{m:Tab}{gd:Tao (Nat×Bool)}{L r:List OK}{x y:Tbb}{t t2:Tba}{kk:IntKind}{p q s:Int}(k:Kn n a m)(v:S w)(l:pL L m gd=some true)(o:d<n)(f:lH m x=some (.int kk p))(e:lH m y=some (.int kk q))(u:kk.wrap (p-q)=s)(h: ∀c,Kn n c ((d,.int kk s)::m)->TL P ops Q S n0 L r (i+1) c w):TL P ops Q S n0 L ((some d,.binOp .sub t x y t2,gd)::r) i a w:=by subst u;refine pv k v l o (fun _ _ _ B _=> ?_) h;have A:=k.op f;have z:=k.op e;unfold execOp;simp[A,z,eqGuard,binOp,Op.intArith]
noncomputable def Dk:Code:=.seq (.region 32 Hm true) (.cond (.tmp 196) (.region 33 Hl true) .skip)
def QK{A:Tao Addr}{x:Nat}{ms:Taf}{m:D}(hQ:QP Q)(h:kg w S ow b g)(hn:nq ow)(hr:ca w S (.slice A ms.length x) (.list ms))(hu: ∀N n,A=some ⟨N,n,none⟩->ow N=none)(hj:ms[j]? =some m)(hm:Has hH m)(B:yP m g=true)(k:Kn 359 a [(11,.int .i64 (j:Int)),(10,.slice A ms.length x),(0,az b)])(r: ∀a W S' U,Kn 359 a [(11,.int .i64 (j:Int)),(10,.slice A ms.length x),(0,az b)] ->bD LG ax w S ow W S' U->kg W S' U b (pR m g)->Q .normal a W):Dk.wp Try.prog Q a w:=by
 obtain⟨R,M,C,V⟩:=h;have c6:j<ms.length:=(aG.1 hj).1;unfold Dk;refine wp_seq (jj (n0:=19) ax mix (by exact hQ) Wd (fun _=>by kernel_rfl) ?_);intro w1 e1;have d:=M.O e1;have T:=(bD.refl LG ax w S ow).W M.wf M.wf e1;have s0:=SX.refl ax w1;obtain⟨bm,O,n,rfl,b7,hS,X,L,a9,z⟩:=Jm (ow:=ow) (hr.J (bD.O e1 ax ax S ow)) hj hm hu;have a0:=d.wf.s _ _ hS
 repeat refine sm k fun a k=> ?_
 refine px (el:=49) (sz:=46) k (by assumption) rfl (by decide) rfl rfl (by kernel_rfl) (by kernel_rfl) (by omega) (by omega) fun a k=> ?_;rw[bW]at k
 repeat (first|refine sm k fun a k=> ?_|refine ld k (eF a0 (fun h=>h) (L 2 _ z)) fun a k=> ?_)
 have J: ∀(a:Act),IM m g=false->Kn 359 a [(11,.int .i64 (j:Int)),(10,.slice (some ⟨bm,n,none⟩) ms.length x),(0,az b)] ->Q .normal a w1:=by
  intro a E k;have hg:pR m g=g:=by unfold pR;rw[E];rfl
  refine r _ _ S ow k T ?_;rw[hg];exact⟨R,d,C,V⟩
 obtain⟨Al,c2,b9⟩:=d.arr.slice;have a1:(R.la.map az).length=g.eX.length:=by rw[ak,C];exact d.qF
 by_cases h1:decide ((cD 2 m).q≥1)=true
 ·refine cm (c:=true) k rfl rfl (congrArg some h1) fun a k=> ?_
  repeat refine sm k fun a k=> ?_
  refine px (el:=49) (sz:=46) k (by assumption) rfl (by decide) rfl rfl (by kernel_rfl) (by kernel_rfl) (by omega) (by omega) fun a k=> ?_;rw[bW]at k
  repeat (first|refine sm k fun a k=> ?_|refine ld k (d.cell id rfl) fun a k=> ?_|refine ld k (eF a0 (fun h=>h) (L 2 _ z)) fun a k=> ?_)
  rw[b9]at k
  repeat refine sm k fun a k=> ?_
  rw[a1]at k;by_cases h2:decide ((cD 2 m).q<=(g.eX.length:Int))=true
  ·refine cm (c:=true) k rfl rfl (congrArg some h2) fun a k=> ?_;refine pk k rfl rfl fun a k=> ?_;refine ar (aV k rfl ?_);have k:=k.sb (l:=[(11,.int .i64 (j:Int)),(10,.slice (some ⟨bm,n,none⟩) ms.length x),(0,az b)]);have c9:=of_decide_eq_true h1;have c7:=of_decide_eq_true h2;have E:IM m g=true:=by unfold IM;rw[h2,show decide (1<=(cD 2 m).q)=true from h1];rfl
   have hg:pR m g=u9 (tq m) (jy m (bX g (tq m))).1 false (jh (tq m) (jy m (bX g (tq m))).2 g):=by unfold pR;rw[E];rfl
   unfold yP at B;rw[E,Bool.not_true,Bool.false_or]at B;simp only[aS,bk]at B;obtain⟨⟨⟨⟨a8,Z⟩,H⟩,b5⟩,G⟩:=B;have F:(cD 2 m).q-1=((tq m:Nat):Int):=by unfold tq;omega
   have hi:tq m<g.eX.length:=by unfold tq;omega
   have p:i64.wrap ((cD 2 m).q-1)=((tq m:Nat):Int):=by rw[F];exact wrap64 (by omega) (by omega)
   generalize c5:tq m=i at F hi p H G hg;obtain⟨bs,I,b2,c4⟩:=d.eX i _ (jG hi);refine IW (n0:=23) (fun N=>ow N=some (1000+i)) mix (by exact hQ) Wc (by kernel_rfl) ?_;intro w2 e2;have f:=d.O e2;have a4:=T.W M.wf d.wf e2;have P:=bD.O e2 ax ax S ow;have Y:=b2.J d.wf f.wf P (fun h=>h) rfl;have s1:=SX.refl (fun N=>ow N=some (1000+i)) w2;have a6: ¬ow b=some (1000+i):=by rw[f.obj.ow];intro h;injection h with h;omega
   have K: ¬ow bm=some (1000+i):=by rw[b7];intro h;cases h
   have t:=f.wf.s _ _ hS;have o: ∀(q:Nat) u,O[q]? =some u->w2.cell? ⟨bm,n+j*46+q,none⟩=some u:=fun q u h=>(bh (by rw[e2.heap])).trans (L q u h);obtain⟨bl,c1,a2,b8,b1,b6⟩:=f.arr.elem (i:=i) (u:=az bs) (by rw[C,ab,I];rfl);have a5: ¬ow bl=some (1000+i):=by rw[b1];intro h;injection h with h;omega
   repeat refine sm k fun a k=> ?_
   refine px (el:=49) (sz:=46) k (by assumption) rfl (by decide) rfl rfl (by kernel_rfl) (by kernel_rfl) (by omega) (by omega) fun a k=> ?_;rw[bW]at k
   repeat refine sm k fun a k=> ?_
   refine ld k (eF t K (o 2 _ z)) fun a k=> ?_;refine Cz (s:=((i:Nat):Int)) k (by assumption) rfl (by decide) rfl rfl p fun a k=> ?_
   repeat refine sm k fun a k=> ?_
   refine ld k (f.cell a6 (j:=2) rfl) fun a k=> ?_
   repeat refine sm k fun a k=> ?_
   refine px (el:=49) (sz:=46) k (by assumption) rfl (by decide) rfl rfl (by kernel_rfl) (by kernel_rfl) (by omega) (by omega) fun a k=> ?_;rw[bW]at k
   repeat refine sm k fun a k=> ?_
   refine ld k (eF t K (o 2 _ z)) fun a k=> ?_;refine Cz (s:=((i:Nat):Int)) k (by assumption) rfl (by decide) rfl rfl p fun a k=> ?_;rw[a2]at k;refine uN (el:=52) (sz:=1) k rfl rfl (by rw[a1];exact hi) fun a k=> ?_;refine kr (v:=az bs) k (by assumption) rfl (by decide) rfl (by kernel_rfl) (by kernel_rfl) (eF b8 a5 (by rw[bG];exact b6)) fun a k=> ?_
   repeat refine sm k fun a k=> ?_
   refine px (el:=49) (sz:=46) k (by assumption) rfl (by decide) rfl rfl (by kernel_rfl) (by kernel_rfl) (by omega) (by omega) fun a k=> ?_;rw[bW]at k;refine lN (vs:=O) k rfl X (fun w' a7 q v hv=>eF t K (o q v hv) w' a7) fun a k=> ?_
   have b0:ca w2 S (.agg O.toArray) m:=by obtain⟨lm,rfl,b4⟩:=dQ.1 hm;refine .agg O lm ?_ (fun q u y h3 h4=>(a9 q u y h3 h4).J P);have:=fU b4;rw[this,X,Ty.dq];rfl
   refine gH (vs:=[az bs,.agg O.toArray]) k (by decide) rfl (by decide) c17.enter rfl (BQ Y f.wf (by omega) hm b0 (y8 H) b5) ?_;rintro e w3 ⟨v,S3,JU,rfl,wo,FX,LZ,hr3,ht3⟩;refine⟨_,rfl,fun _=>SX.iu (fun _ h=>h) wo,fun a k=> ?_⟩;have c0:=f.ua (i:=i) wo FX hi I LZ (fF LZ) a8;have a3:=a4.eY M.wf f.wf wo (.inr (by omega));have b3:nq JU:=hn.J wo (fun l hl=>by simp only[iE]at hl;subst hl;exact .inr (by omega));refine gH (vs:=[az b,.int .i64 ((i:Nat):Int),v,.bool false]) k (by decide) rfl (by decide) qk rfl (qg (g:=jh i (jy m (bX g i)).2 g) ⟨_,c0,C,V⟩ b3 hr3 ht3 G) ?_;rintro e w5 ⟨S5,JT,rfl,qT,Z⟩;refine⟨_,rfl,fun h=>absurd rfl h,fun a k=> ?_⟩;refine ar (r _ _ S5 JT (k.sb) (jZ M.wf FX a3 qT nE) ?_);rw[hg];exact Z
  ·refine cm (c:=false) k rfl rfl (congrArg some (cw.2 h2)) fun a k=> ?_;refine pk k rfl rfl fun a k=> ?_;refine ar (aV k rfl (wp_skip (J _ (by unfold IM;rw[cw.2 h2,Bool.and_false]) (k.sb))))
 ·refine cm (c:=false) k rfl rfl (congrArg some (cw.2 h1)) fun a k=> ?_
  repeat refine sm k fun a k=> ?_
  refine pk k rfl rfl fun a k=> ?_;refine ar (aV k rfl (wp_skip (J _ (by unfold IM;rw[show decide (1<=(cD 2 m).q)=false from cw.2 h1,Bool.false_and]) (k.sb))))
end
def Ii{ms:Taf}{j:Nat}{m:D}{g:GS}(d:ms[j]? =some m)(h:tE (ms.drop j) g=true):yP m g=true∧tE (ms.drop (j+1)) (pR m g)=true:=by
 have c:j<ms.length:=(aG.1 d).1
 have e:ms.drop j=m::ms.drop (j+1):=by rw[cT c,(aG.1 d).2]
 rw[e]at h;simpa only[tE,aS]using h
def Cg{ms:Taf}{j:Nat}{m:D}(c:ms[j]? =some m)(g:GS):(ms.take (j+1)).foldl (fun g m=>pR m g) g=pR m ((ms.take j).foldl (fun g m=>pR m g) g):=by
 have:ms.take (j+1)=ms.take j++[m] :=by rw[cO,c];rfl
 rw[this,List.foldl_append];rfl
section
variable{w w0:Tam}{S S0:bz}{ow ko:Ow}{b i j:Nat}{g g':GS}{R:GR}{Q:HP}{a:Act}
noncomputable def yp:Code:=.seq (.region 27 Hr false) (.seq (.region 28 Hq false) (.seq (.region 29 Hp false) (.block 5 (.loop (.seq (.seq (.region 30 Ho false) (.cond (.tmp 175) .skip (.exit 5))) (.seq (.block 6 Dk) (.region 31 Hn false)))))))
def EI(X:QP Q)(h:kg w S ow b g)(hn:nq ow)(b7:tE g.eE {g with eE:=[]}=true)(k:Kn 359 a [(0,az b)])(N: ∀a W S' a5,Kn 359 a [(0,az b)] ->bD LG ax w S ow W S' a5->kg W S' a5 b (PA g)->Q .normal a W):yp.wp Try.prog Q a w:=by
 obtain⟨R,gm,c0,b6⟩:=h;have d:=gm.wf;have c9:g.eE.length<=maxLen:=gm.eE.len.1;have c7:maxLen<=9223372036854775807:=by decide
 have z:=gm.eE.all;unfold yp;refine wp_seq (rg ax X Wj ?_);intro w1 e1;have f:=gm.O e1;have a4:=(bD.refl LG ax w S ow).W d d e1;have H:=SX.refl ax w1;obtain⟨A,U,hv⟩:=f.eE.slice
 repeat (first|refine sm k fun a k=> ?_|refine ld k (f.cell id rfl) fun a k=> ?_)
 refine ar ?_;have k:=k.sb (l:=[(10,R.eE),(0,az b)]);rw[hv]at k;have u:=f.eE;rw[hv]at u;obtain⟨y,D2,x,L,b1,a9⟩:=Di u f.wf;have b5:=f.oh x L (dA.nil (w:=w1) (S:=y) (ow:=D2) (T:=49) (t:=hH) (l:=11) (by rw[nK];omega) (by omega));have a0:=a4.eY d f.wf x (.inl (by decide));clear u f a4 H e1;refine wp_seq (rg ax X Wi ?_);intro Z e3;have p:=b5.O e3;have a3:=a0.W d L e3;have H:=SX.refl ax Z
 repeat refine sm k fun a k=> ?_
 refine jE (cur:=R.cells g.bad) k (by decide) rfl (by kernel_rfl) rfl rfl rfl p.obj.heap (by show 4<11;omega) rfl (fun h=>absurd rfl h) fun a k=> ?_;refine ar ?_;obtain⟨v,K,a6⟩:=p.obj.set p.wf (us:=(R.cells g.bad).set (0+4) iw);have b4:=p.setObj v K a6;have F:=a3.eY d p.wf v (.inl (by decide));have M:=(b1.J (bD.O e3 ax ax y D2)).J v;have P:kg (Z.setRow b ((R.cells g.bad).set (0+4) iw).toArray) y D2 b {g with eE:=[]}:=⟨{R with eE:=iw},b4,c0,b6⟩;have c6:nq D2:=hn.J x (fun l hl=>by simp only[iE]at hl;subst hl;exact .inl (by omega));have k:=k.sb (l:=[(10,.slice A g.eE.length U),(0,az b)]);have n:Wf (Z.setRow b ((R.cells g.bad).set (0+4) iw).toArray) y D2:=K;show Code.wp Try.prog _ _ a (Z.setRow b ((R.cells g.bad).set (0+4) iw).toArray);generalize Z.setRow b ((R.cells g.bad).set (0+4) iw).toArray=w4 at P M F n⊢;clear b4 p b5 v a3 a0 K a6 H e3 x L b1;refine wp_seq (rg ax X Wh ?_);intro Y e5;have H:=SX.refl ax Y
 repeat refine sm k fun a k=> ?_
 refine ar ?_;have b3:kg Y y D2 b {g with eE:=[]}:=by obtain⟨R',e,D,h2⟩:=P;exact⟨R',e.O e5,D,h2⟩
 have a2:=F.W d n e5;have J:Wf Y y D2:=n.O e5;have b0:=M.J (bD.O e5 ax ax y D2)
 have b9: ∀V r,A=some ⟨V,r,none⟩->V<Y.heap.size∨g.eE.length=0:=by
  intro V r hA;by_cases hz:g.eE.length=0
  ·exact .inr hz
  ·left;obtain⟨m,B⟩: ∃m,g.eE[0]? =some m:=⟨_,aQ (by omega)⟩;obtain⟨bm,us,c5,o,_,hS,_⟩:=Jm (ow:=D2) b0 B (z m (bU B)) a9;rw[hA]at o;injection o with o;injection o with o _;subst o;exact(n.O e5).s _ _ hS
 refine wp_block (wp_loop_ghost (fun mm a W=> ∃(j:Nat) (E:bz) (jY:Ow),mm=g.eE.length-j∧j<=g.eE.length∧Kn 359 a [(11,.int .i64 (j:Int)),(10,.slice A g.eE.length U),(0,az b)] ∧bD LG ax w S ow W E jY∧bD LG ax Y y D2 W E jY∧
  kg W E jY b ((g.eE.take j).foldl (fun g m=>pR m g) {g with eE:=[]})∧tE (g.eE.drop j) ((g.eE.take j).foldl (fun g m=>pR m g) {g with eE:=[]})=true) (g.eE.length-0)
  ⟨0,y,D2,rfl,aC _,k.sb,a2,bD.refl _ _ _ _ _,b3,b7⟩ ?_)
 clear k H P M F b3 a2;rintro mm a W ⟨j,E,jY,rfl,hjn,k,yj,adN,hg6,aeP⟩;refine wp_seq (wp_seq (rg ax X Wg ?_));intro w7 e7;have I:Wf W E jY:=by obtain⟨_,e,_⟩:=hg6;exact e.wf
 have O:kg w7 E jY b ((g.eE.take j).foldl (fun g m=>pR m g) {g with eE:=[]}):=by obtain⟨R',e,D,h2⟩:=hg6;exact⟨R',e.O e7,D,h2⟩
 have G:=yj.W d I e7;have q:=adN.W J I e7;have H:=SX.refl ax w7
 repeat refine sm k fun a k=> ?_
 refine cm (c:=decide ((j:Int)<(g.eE.length:Int))) k rfl rfl rfl fun a k=> ?_;refine ar (aV k rfl ?_);have k:=k.sb (l:=[(11,.int .i64 (j:Int)),(10,.slice A g.eE.length U),(0,az b)]);by_cases C:(j:Int)<(g.eE.length:Int)
 ·rw[if_pos (by simpa using C)];refine wp_skip ?_;obtain⟨m,B⟩: ∃m,g.eE[j]? =some m:=⟨_,aQ (by omega)⟩;obtain⟨c4,c2⟩:=Ii B aeP;have b8:nq jY:=hn.J G (fun l hl=>hl);refine wp_seq (wp_block (QK (by exact X) O b8 (b0.J q) (fun V r hA=> ?_) B (z m (bU B)) c4 k ?_))
  ·rcases b9 V r hA with D|D
   ·exact q.tL V D (a9 V r hA)
   ·omega
  intro a w8 S8 ow8 k a1 b2;have a8:Wf w7 E jY:=I.O e7;have a7:Wf w8 S8 ow8:=by obtain⟨_,e,_⟩:=b2;exact e.wf
  refine rg ax X We ?_;intro w9 e9;have H:=SX.refl ax w9
  repeat refine sm k fun a k=> ?_
  refine ik (s:=((j+1:Nat):Int)) k (by assumption) rfl (by decide) rfl rfl (wrap64 (by omega) (by omega)) fun a k=> ?_
  repeat refine sm k fun a k=> ?_
  refine ar ⟨g.eE.length-(j+1),by omega,j+1,S8,ow8,rfl,by omega,k.sb,(jZ d a8 G a1 nE).W d a7 e9,(jZ J a8 q a1 nE).W J a7 e9,?_,?_⟩
  ·rw[Cg B];obtain⟨R',e,D,h2⟩:=b2;exact⟨R',e.O e9,D,h2⟩
  ·rw[Cg B];exact c2
 ·rw[if_neg (by simpa using C)];refine wp_exit ?_;have c1:j=g.eE.length:=by omega
  subst c1;rw[dG]at O;exact N _ _ E jY (k.sb) G O
end
section
variable{w w0:Tam}{S S0:bz}{ow ko:Ow}{b i j:Nat}{g g':GS}{R:GR}{Q:HP}{a:Act}
def kg.O{d:Tam}(h:kg w S ow b g)(e:uH w d):kg d S ow b g:=by obtain⟨l,c,k,f⟩:=h;exact⟨l,c.O e,k,f⟩
def kg.wf(h:kg w S ow b g):Wf w S ow:=by obtain⟨_,c,_⟩:=h;exact c.wf
def FP{y:Tac}(h:kg w S ow b g)(hn:nq ow)(b5:1<=g.eX.length∧g.eX.length<=5)(h0:y[0]? =some (.int .i64 6))(O:y[1]? =some (.int .i64 0))(a8:tE g.eE {g with eE:=[]}=true):
  Calls Try.prog 10 [az b,.agg y.toArray].toArray w (qK w S ow b (PA g)):=by
 refine kv Try.func10 Gw N9 Zc (by show 2<=359;omega) ?_;intro a k;have m:=ju (P:=Try.prog) (fn:=Try.f10) (R:=qK w S ow b (PA g));have d:=h.wf;refine wp_seq (rg ax m RE ?_);intro T W;refine rq (us:=y) k (by decide) rfl (by decide) rfl rfl (fun h=>absurd rfl h) fun a k=> ?_;refine ar ?_;have q:=d.O W;have C:bD LG ax w S ow T S ow:=bD.O W LG ax S ow;obtain⟨t,p⟩:=bD.alloc q (.cells y.toArray 51);have o:=fG.new q 51 y;have s:=C.Z d q t nE;have v:kg (T.alloc (.cells y.toArray 51)) S ow b g:=by obtain⟨R',x,O,h2⟩:=h.O W;exact⟨R',x.J t p,O,h2⟩
 generalize b6:T.heap.size=b3 at k o;generalize T.alloc _=w2 at v o s p⊢;have k:=k.sb (l:=[(3,.pointer (some ⟨b3,0,none⟩)),(0,az b)]);clear t C q W;refine wp_seq (jj (n0:=7) ax mix (by exact m) RD (fun _=>by kernel_rfl) ?_);intro w3 V;have u:=o.O V;obtain⟨R,f,F,a7⟩:=v.O V;have B:=s.W d p V;have n:=SX.refl ax w3;obtain⟨Al,b4,b2⟩:=f.arr.slice;have b1:(R.la.map az).length=g.eX.length:=by rw[ak,F];exact f.qF
 repeat refine sm k fun a k=> ?_
 refine ld k (u.cell id O) fun a k=> ?_
 repeat refine sm k fun a k=> ?_
 refine ld k (f.cell id (j:=2) rfl) fun a k=> ?_;rw[b2,b1]at k;refine Gq k (by assumption) rfl (by decide) rfl (by kernel_rfl) fun a k=> ?_;refine gH (vs:=[.int .i64 0,.int .i64 (g.eX.length:Int)]) k (by decide) rfl (by decide) c8.enter rfl (jS f.wf (by decide) ⟨by have:i64.min= -9223372036854775808:=rfl;omega,by have:i64.max=9223372036854775807:=rfl;omega⟩ (by omega)) ?_;rintro e w4 ⟨rfl,qQ,JZ⟩;have s4:=qQ.tu ax;refine⟨_,rfl,fun _=>s4,fun a k=> ?_⟩
 repeat refine sm k fun a k=> ?_
 refine ar ?_;have E:=u.J qQ id;have N:kg w4 S ow b g:=⟨R,f.J qQ JZ,F,a7⟩;have z:=B.Z d f.wf qQ nE;have k:=k.sb (l:=[(3,.pointer (some ⟨b3,0,none⟩)),(0,az b)]);clear qQ s4 n B f V v u o s p;refine wp_seq (rg ax m RC ?_);intro w5 U;have D:=E.O U;have r:=N.O U;have A:=z.W d JZ U;have n:=SX.refl ax w5
 repeat (first|refine sm k fun a k=> ?_|refine ld k (D.cell id h0) fun a k=> ?_)
 refine gH (vs:=[.int .i64 6,.int .i64 12]) k (by decide) rfl (by decide) c8.enter rfl (jS r.wf (by decide) (by decide) (by decide)) ?_;rintro e w6 ⟨rfl,yj,JY⟩;refine⟨_,rfl,fun h=>absurd rfl h,fun a k=> ?_⟩;refine ar ?_;have b0:kg w6 S ow b g:=by obtain⟨R',x,O,h2⟩:=r;exact⟨R',x.J yj JY,O,h2⟩
 have a2:=A.Z d r.wf yj nE;rw[show gP 6 12=6 from by decide]at k;have k:=k.sb (l:=[(32,.int .i64 6),(0,az b)]);clear yj n A r D U N E z JZ;refine wp_block (wp_seq (wp_seq (rg ax m RB ?_)));intro w7 e7;have M:=b0.O e7;have a5:=a2.W d JY e7;have n:=SX.refl ax w7;refine cm (c:=false) k rfl rfl rfl fun a k=> ?_;refine sm k fun a k=> ?_;refine ar (aV k rfl ?_);have k:=k.sb (l:=[(32,.int .i64 6),(0,az b)]);refine rg ax m RA ?_;intro w8 e8;have L:=M.O e8;have a4:=a5.W d M.wf e8;have n:=SX.refl ax w8;refine cm (c:=false) k rfl rfl rfl fun a k=> ?_;refine sm k fun a k=> ?_;refine ar (aV k rfl ?_);have k:=k.sb (l:=[(32,.int .i64 6),(0,az b)]);refine wp_seq (rg ax m Rz ?_);intro w9 e9;have K:=L.O e9;have a3:=a4.W d L.wf e9;have n:=SX.refl ax w9;refine cm (c:=false) k rfl rfl rfl fun a k=> ?_;refine sm k fun a k=> ?_;refine ar (aV k rfl ?_);have k:=k.sb (l:=[(32,.int .i64 6),(0,az b)]);refine wp_seq (wp_seq (rg ax m NR ?_));intro wa ea;have J:=K.O ea;have a1:=a3.W d K.wf ea;have n:=SX.refl ax wa;refine cm (c:=false) k rfl rfl rfl fun a k=> ?_;refine sm k fun a k=> ?_;refine ar (aV k rfl ?_);have k:=k.sb (l:=[(32,.int .i64 6),(0,az b)]);refine wp_seq (rg ax m NP ?_);intro wb eb;have I:=J.O eb;have a0:=a1.W d J.wf eb;have n:=SX.refl ax wb;refine cm (c:=false) k rfl rfl rfl fun a k=> ?_;refine sm k fun a k=> ?_;refine ar (aV k rfl ?_);have k:=k.sb (l:=[(32,.int .i64 6),(0,az b)]);refine rg ax m NO ?_;intro wc ec;have H:=I.O ec;have Z:=a0.W d I.wf ec;have n:=SX.refl ax wc;refine cm (c:=false) k rfl rfl rfl fun a k=> ?_;refine sm k fun a k=> ?_;refine ar (aV k rfl ?_);have k:=k.sb (l:=[(32,.int .i64 6),(0,az b)]);refine wp_seq (rg ax m NN ?_);intro wd ed;have G:=H.O ed;have Y:=Z.W d H.wf ed;have n:=SX.refl ax wd;refine cm (c:=true) k rfl rfl rfl fun a k=> ?_;refine sm k fun a k=> ?_;refine ar (aV k rfl ?_);refine EI (by exact m) G hn a8 (k.sb) ?_;intro a we Se a6 k X a9;exact(lP Ru k ⟨Se,a6,rfl,jZ d G.wf Y X nE,a9⟩).2
end
def gT:Nat->GS
 |0=>gB 3 3
 |n+1=>Er 0 0 (gT n)
def gD:Nat->GS
 |0=>gT 10
 |n+1=>PA (gD n)
def aby:((List.range 10).all fun n=>GD 0 0 (gT n))=true:=by decide+kernel
def abz:((List.range 4).all fun n=>tE (gD n).eE {gD n with eE:=[]}&&decide (1<=(gD n).eX.length)&&decide ((gD n).eX.length<=5))=true:=by decide+kernel
def WH:(0<(gD 4).eX.length∧Q5 (bX (gD 4) 0) 0=true)∧(bX (gD 4) 0).role=2∧(bX (gD 4) 0).bF=1∧(bX (gD 4) 0).term=1∧(gD 4).bad=false:=by decide+kernel
noncomputable def Sy:Tac:=((Try.prog.built 51 [(0,.int .i64 6)]).getD #[]).toList
section
variable{w w0:Tam}{S S0:bz}{ow ko:Ow}{b i j:Nat}{g g':GS}{R:GR}{Q:HP}{a:Act}
def nh(w:Tam)(S:bz):HP:=bodyPost Try.prog Try.f13 (fun e d=> ∃f c,e= .returned (.bool true)∧bD LG ax w S (fun _=>none) d f c)
noncomputable def U4:Code:=.seq (.region 10 GW false) (.seq (.region 11 GV false) .ret)
def KX(o:Wf w0 S0 (fun _=>none))(st:bD LG ax w0 S0 (fun _=>none) w S ow)(h:kg w S ow b (gD 4))(k:Kn 54 a [(1,az b)]):U4.wp Try.prog (nh w0 S0) a w:=by
 have hQ:QP (nh w0 S0):=ju;obtain⟨⟨M,A⟩,f,n,d,q⟩:=WH;have J:=jG M;generalize gD 4=g at h M A f n d q J;generalize bX g 0=x at A f n d J;obtain⟨R,gm,D,a0⟩:=h;rw[q]at gm;unfold U4;refine wp_seq (rg ax hQ VQ ?_);intro w1 e1;have m:=gm.O e1;have s0:=SX.refl ax w1
 repeat (first|refine sm k fun a k=> ?_|refine ld k (m.cell id rfl) fun a k=> ?_)
 obtain⟨bs,O,L,a1⟩:=m.eX 0 x J;obtain⟨bl,a4,V,P,a2,N⟩:=m.arr.elem (i:=0) (u:=az bs) (by rw[D,ab,O];rfl);have U:(R.la.map az).length=g.eX.length:=by rw[ak,D];exact m.qF
 rw[V]at k;refine Gr (el:=52) (sz:=1) (s:=0) k (by assumption) rfl (by decide) rfl rfl (by kernel_rfl) (by kernel_rfl) (by rw[U];exact M) fun a k=> ?_;refine kr (v:=az bs) k (by assumption) rfl (by decide) rfl (by kernel_rfl) (by kernel_rfl) (eF P (fun h=>h) (by rw[bG];exact N)) fun a k=> ?_;refine gH (vs:=[az bs]) k (by decide) rfl (by decide) Rf.enter rfl (kN L m.wf (y8 A)) ?_;rintro e F ⟨A1,n1,c1,A2,n2,c2,rfl,-,mZ,uF⟩;refine⟨_,rfl,fun _=>mZ.tu _,fun a k=> ?_⟩;have Z:=m.J mZ uF;have s1:=mZ.tu ax;refine iV (nn:=9) k (by decide) rfl (by decide) (by kernel_rfl) (fun E _=>s1.trans (SX.alloc _ _ _)) fun E I a k=> ?_;refine jU (vs:=yG x (.slice A1 n1 c1) (.slice A2 n2 c2)) k (by decide) rfl (by kernel_rfl) rfl rfl rfl (heap_alloc_new F _) (by show 0+9<=E.toArray.size;rw[bH];omega) (by simp[yG,Value.oneCell']) (fun h=>absurd rfl h) fun a k=> ?_;refine ar ?_;have K:(yG x (.slice A1 n1 c1) (.slice A2 n2 c2)).length=9:=rfl;rw[fill_eq I K];obtain⟨t,C,z⟩:=jf (T:=67) (zs:=E) (us:=yG x (.slice A1 n1 c1) (.slice A2 n2 c2)) uF;have p:=Z.J t C;have H:=st.W o gm.wf e1;have B:=H.Z o m.wf mZ nE;have r:=B.Z o uF t (fun bb hb=>by rw[show bb=_ from hb];exact B.size);generalize a3:F.heap.size=b4 at k z p r⊢;generalize hW:(F.alloc _).setRow b4 _=W at z p r⊢;have k:=k.sb (l:=[(4,.pointer (some ⟨b4,0,none⟩)),(1,az b)]);clear t C s0 s1;refine wp_seq (rg ax hQ VP ?_);intro w4 e4;have Y:=p.O e4;have y:=z.O e4;have G:=r.W o p.wf e4;have s0:=SX.refl ax w4;have l0:=y.cell (X:=ax) (fun h=>h) (j:=0) (v:=.int .i64 x.role) rfl;have l2:=y.cell (X:=ax) (fun h=>h) (j:=2) (v:=.int .i64 x.term) rfl;have l4:=y.cell (X:=ax) (fun h=>h) (j:=4) (v:=.int .i64 x.bF) rfl;rw[f]at l0;rw[d]at l2;rw[n]at l4
 repeat (first|refine sm k fun a k=> ?_|refine ld k (l0) fun a k=> ?_)
 refine cm (c:=true) k rfl rfl rfl fun a k=> ?_
 repeat (first|refine sm k fun a k=> ?_|refine ld k (l4) fun a k=> ?_)
 refine cm (c:=true) k rfl rfl rfl fun a k=> ?_;refine pk k rfl rfl fun a k=> ?_
 repeat (first|refine sm k fun a k=> ?_|refine ld k (l2) fun a k=> ?_)
 refine cm (c:=true) k rfl rfl rfl fun a k=> ?_;refine pk k rfl rfl fun a k=> ?_
 repeat (first|refine sm k fun a k=> ?_|refine ld k (Y.cell id rfl) fun a k=> ?_)
 refine pV k (by assumption) rfl (by decide) rfl fun a k=> ?_;refine pk k rfl rfl fun a k=> ?_
 repeat refine sm k fun a k=> ?_
 exact ar (wp_ret (rH ZS k rfl ⟨S,ow,rfl,G⟩).1)
noncomputable def Zf:Code:=.seq (.seq (.region 6 MU false) (.block 2 (.loop (.seq (.seq (.region 7 MT false) (.cond (.tmp 20) .skip (.exit 2))) (.seq (.block 3 (.region 9 MR false)) (.region 8 MS false)))))) U4
def KW(d:Wf w0 S0 (fun _=>none))(p:bD LG ax w0 S0 (fun _=>none) w S ow)(h:kg w S ow b (gT 10))(k:Kn 54 a [(1,az b)]):Zf.wp Try.prog (nh w0 S0) a w:=by
 have r:QP (nh w0 S0):=ju;unfold Zf;refine wp_seq (wp_seq (rg ax r aaJ ?_));intro C A;have q:=SX.refl ax C
 repeat refine sm k fun a k=> ?_
 refine ar ?_
 refine wp_block (wp_loop_ghost (fun D a W=> ∃(j:Nat) (B:bz) (f:Ow),D=4-j∧j<=4∧Kn 54 a [(3,.int .i64 (j:Int)),(1,az b)] ∧bD LG ax w0 S0 (fun _=>none) W B f∧kg W B f b (gD j)) (4-0)
  ⟨0,S,ow,rfl,by omega,k.sb,p.W d h.wf A,h.O A⟩ ?_)
 clear k q A C h p;rintro D a W ⟨j,B,f,rfl,hj,k,p,h⟩;refine wp_seq (wp_seq (rg ax r aaI ?_));intro L I;have z:=h.O I;have n:=p.W d h.wf I;have q:=SX.refl ax L
 repeat refine sm k fun a k=> ?_
 refine cm (c:=decide ((j:Int)<4)) k rfl rfl rfl fun a k=> ?_;refine ar (aV k rfl ?_);have k:=k.sb (l:=[(3,.int .i64 (j:Int)),(1,az b)]);by_cases o:(j:Int)<4
 ·rw[if_pos (by simpa using o)];refine wp_skip ?_;have E:=bY.1 abz j (db.2 (by omega));simp only[aS,bk]at E;obtain⟨⟨y,x⟩,v⟩:=E;refine wp_seq (wp_block (rg ax r aaG ?_));intro K H;have F:=z.O H;have m:=n.W d z.wf H;have q:=SX.refl ax K
  repeat refine sm k fun a k=> ?_
  refine my (ps:=[(0,.int .i64 6)]) (vs:=Sy) k (by assumption) rfl (by decide) rfl (by kernel_rfl) fun a k=> ?_;refine gH (vs:=[az b,.agg Sy.toArray]) k (by decide) rfl (by decide) JH rfl (FP F (fun N l M=>(m.iu N l M).elim (fun e=>by cases e) id) ⟨x,v⟩ (by kernel_rfl) (by kernel_rfl) y) ?_;rintro e O ⟨S4,TV,rfl,qQ,h4⟩;refine⟨_,rfl,fun h=>absurd rfl h,fun a k=> ?_⟩;refine ar ?_;have t:=jZ d F.wf m qQ nE;have k:=k.sb (l:=[(3,.int .i64 (j:Int)),(1,az b)]);refine rg ax r aaH ?_;intro J G;have q:=SX.refl ax J
  repeat refine sm k fun a k=> ?_
  refine ik (s:=((j+1:Nat):Int)) k (by assumption) rfl (by decide) rfl rfl (wrap64 (by omega) (by omega)) fun a k=> ?_
  repeat refine sm k fun a k=> ?_
  exact ar ⟨4-(j+1),by omega,j+1,S4,TV,rfl,by omega,k.sb,t.W d h4.wf G,h4.O G⟩
 ·rw[if_neg (by simpa using o)];refine wp_exit ?_;have u:j=4:=by omega
  subst u;exact KX d n z (k.sb)
def FE(d:Wf w0 S0 (fun _=>none)):Calls Try.prog 13 #[] w0 (fun e V=> ∃S' B,e= .returned (.bool true)∧bD LG ax w0 S0 (fun _=>none) V S' B):=by
 refine kv (vs:=[]) Try.func13 NH WS aeK (by show 0<=54;omega) ?_;intro a k;have q:QP (nh w0 S0):=ju;show Code.wp Try.prog _ (nh w0 S0) a w0;refine wp_seq (rg ax q aaP ?_);intro J G;have x:=SX.refl ax J
 repeat refine sm k fun a k=> ?_
 refine ar ?_;have p:=d.O G;have u:bD LG ax w0 S0 (fun _=>none) J S0 (fun _=>none):=bD.O G LG ax S0 _;refine wp_seq (rg (fun _=>True) q aaO ?_);intro U F;have o:=p.O F;have t:=u.W d p F;refine gH (vs:=[.int .i64 ((3:Nat):Int),.int .i64 ((3:Nat):Int)]) k (by decide) rfl (by decide) N2 rfl (xO (n:=3) o (by omega) (by omega)) ?_;rintro e w3 ⟨b,S3,JU,rfl,wo,h3⟩;have K:SX (fun _=>True) U w3:=⟨wo.size,fun _ _ h=>absurd trivial h⟩;refine⟨_,rfl,fun _=>K,fun a k=> ?_⟩
 repeat refine sm k fun a k=> ?_
 refine ar ?_;have r:=jZ d o t wo nE;have k:=k.sb (l:=[(1,az b)]);refine wp_seq (wp_seq (rg ax q aaN ?_));intro I E;have x:=SX.refl ax I
 repeat refine sm k fun a k=> ?_
 refine ar ?_
 refine wp_block (wp_loop_ghost (fun L a W=> ∃(j:Nat) (H:bz) (m:Ow),L=10-j∧j<=10∧Kn 54 a [(2,.int .i64 (j:Int)),(1,az b)] ∧bD LG ax w0 S0 (fun _=>none) W H m∧kg W H m b (gT j)) (10-0)
  ⟨0,S3,JU,rfl,by omega,k.sb,r.W d h3.wf E,h3.O E⟩ ?_)
 clear k x E I r K h3 wo t o F u p G;rintro L a W ⟨j,H,m,rfl,hj,k,st,h⟩;refine wp_seq (wp_seq (rg ax q aaM ?_));intro T O;have D:=h.O O;have f:=st.W d h.wf O;have x:=SX.refl ax T
 repeat refine sm k fun a k=> ?_
 refine cm (c:=decide ((j:Int)<10)) k rfl rfl rfl fun a k=> ?_;refine ar (aV k rfl ?_);have k:=k.sb (l:=[(2,.int .i64 (j:Int)),(1,az b)]);by_cases v:(j:Int)<10
 ·rw[if_pos (by simpa using v)];refine wp_skip ?_;have Y:=bY.1 aby j (db.2 (by omega));refine wp_seq (wp_block (Ip (by exact q) D (fun Z l X=>(f.iu Z l X).elim (fun e=>by cases e) id) Y k ?_));intro a w7 S7 A k z M;have y:=jZ d D.wf f z nE;refine rg ax q aaL ?_;intro P N;have x:=SX.refl ax P
  repeat refine sm k fun a k=> ?_
  refine ik (s:=((j+1:Nat):Int)) k (by assumption) rfl (by decide) rfl rfl (wrap64 (by omega) (by omega)) fun a k=> ?_
  repeat refine sm k fun a k=> ?_
  exact ar ⟨10-(j+1),by omega,j+1,S7,A,rfl,by omega,k.sb,y.W d M.wf N,M.O N⟩
 ·rw[if_neg (by simpa using v)];refine wp_exit ?_;have C:j=10:=by omega
  subst C;exact KW d f D (k.sb)
end
end Go.Proofs.Ytjhmkaninmgilaa
