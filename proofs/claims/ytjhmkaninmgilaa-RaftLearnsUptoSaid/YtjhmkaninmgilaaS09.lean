/- Part 9 of the proof of RaftLearns; no condition. -/
import Derived.Test.YtjhmkaninmgilaaS08
import Derived.Test.YtjhmkaninmgilaaS04
import Derived.Test.YtjhmkaninmgilaaS07
import Derived.KernelRfl
set_option linter.defProp false
set_option linter.unusedVariables false
set_option linter.unusedSimpArgs false
set_option maxHeartbeats 4000000
open Go.IntKind (i64)
namespace Go.Proofs.Ytjhmkaninmgilaa
open Go Go.RowKit Go.dF Go.Proofs
structure GS where
 fv:Taf
 fl:Taf
 ew:List RS
 saved:Taf
 net:Taf
 told:Taf
 bG:Taf
 cO:Taf
 read:Taf
 aX:List (Taf)
 bad:Bool
structure GR where
 fv:Tan
 fl:Tan
 l:Tan
 saved:Tan
 net:Tan
 told:Tan
 bG:Tan
 cO:Tan
 read:Tan
 aX:Tan
 la:Tah
 lb:Tah
 va:Tac
 vv:Tac
def aI(b:Nat):Tan:=.pointer (some ⟨b,0,none⟩)
structure GM(w:Tam)(S:bE)(ow:Ow)(b:Nat)(vs:Tac)(R:GR)(g:GS):Prop where
 wf:Wf w S ow
 obj:uG w ow 0 b 59 vs
 fv:cg w S R.fv (.list g.fv)
 fl:cg w S R.fl (.list g.fl)
 arr:kj w ow 1 52 R.l (R.la.map aI)
 rn:R.lb.length=g.ew.length
 ew:∀(i:Nat) s,g.ew[i]?=some s->∃bs,R.lb[i]?=some bs/\kr w S ow (1000+i) (dG 0) bs [cR s,cL s]/\dx (.V eZ) (encS s)
 saved:dB w S ow 10 65 iU R.saved g.saved
 net:dB w S ow 11 49 hP R.net g.net
 told:dB w S ow 12 78 dY R.told g.told
 bG:dB w S ow 13 3 I6 R.bG g.bG
 cO:dB w S ow 14 3 I6 R.cO g.cO
 read:dB w S ow 15 3 I6 R.read g.read
 oH:kj w ow 2 29 R.aX R.va
 xH:R.vv.length=g.aX.length
 pD:∀(i:Nat) l,g.aX[i]?=some l->∃v,R.vv[i]?=some v/\dB w S ow (100+i) 3 I6 v l
def GR.cells(R:GR)(bad:Bool):Tac:=[R.fv,R.fl,R.l,R.saved,R.net,R.told,R.bG,R.aX,R.cO,R.read,.bool bad]
def kv(w:Tam)(S:bE)(ow:Ow)(b:Nat)(g:GS):Prop:=∃R:GR,GM w S ow b (R.cells g.bad) R g/\R.la=R.lb/\R.va=R.vv
section
variable{w w':Tam}{S S':bE}{ow bT:Ow}{b:Nat}{vs:Tac}{R:GR}{g:GS}{L X:Tai}
def GM.J(h:GM w S ow b vs R g)(a:bD aB X w S ow w' S' bT)(f:Wf w' S' bT):GM w' S' bT b vs R g:=
 ⟨f,h.obj.J a id,h.fv.J a,h.fl.J a,h.arr.J h.wf a (fun h=>h),h.rn,fun i s c=>let ⟨k,e,d,j⟩:=h.ew i s c;⟨k,e,d.J h.wf f a (fun h=>h) rfl,j⟩,h.saved.J h.wf a (fun h=>h),h.net.J h.wf a (fun h=>h),h.told.J h.wf a (fun h=>h),h.bG.J h.wf a (fun h=>h),h.cO.J h.wf a (fun h=>h),h.read.J h.wf a (fun h=>h),h.oH.J h.wf a (fun h=>h),h.xH,fun i l c=>let ⟨v,e,d⟩:=h.pD i l c;⟨v,e,d.J h.wf a (fun h=>h)⟩⟩
def GM.loc{l:Nat}(h:GM w S ow b vs R g)(a:bD (iI l) X w S ow w' S' bT)(f:Wf w' S' bT)(m:60<=l/\l<100):GM w' S' bT b vs R g:=
 ⟨f,h.obj.J a cu,h.fv.J a,h.fl.J a,h.arr.J h.wf a cu,h.rn,fun i s c=>let ⟨k,e,d,j⟩:=h.ew i s c;⟨k,e,d.J h.wf f a cu rfl,j⟩,h.saved.J h.wf a cu,h.net.J h.wf a cu,h.told.J h.wf a cu,h.bG.J h.wf a cu,h.cO.J h.wf a cu,h.read.J h.wf a cu,h.oH.J h.wf a cu,h.xH,fun i l c=>let ⟨v,e,d⟩:=h.pD i l c;⟨v,e,d.J h.wf a cu⟩⟩
def GM.setObj{c:Tac}(h:GM w S ow b vs R g)(a:bD (iI 0) X w S ow w' S' bT)(j:Wf w' S' bT)(k:uG w' bT 0 b 59 c):GM w' S' bT b c R g:=
 ⟨j,k,h.fv.J a,h.fl.J a,h.arr.J h.wf a cu,h.rn,fun i s d=>let ⟨n,f,e,m⟩:=h.ew i s d;⟨n,f,e.J h.wf j a cu rfl,m⟩,h.saved.J h.wf a cu,h.net.J h.wf a cu,h.told.J h.wf a cu,h.bG.J h.wf a cu,h.cO.J h.wf a cu,h.read.J h.wf a cu,h.oH.J h.wf a cu,h.xH,fun i l d=>let ⟨v,f,e⟩:=h.pD i l d;⟨v,f,e.J h.wf a cu⟩⟩
def GM.Oi{v:Tan}{la:Tah}(h:GM w S ow b vs R g)(a:bD (iI 1) X w S ow w' S' bT)(f:Wf w' S' bT)(j:kj w' bT 1 52 v (la.map aI)):GM w' S' bT b vs {R with l:=v,la:=la} g:=
 ⟨f,h.obj.J a cu,h.fv.J a,h.fl.J a,j,h.rn,fun i s c=>let ⟨m,e,d,k⟩:=h.ew i s c;⟨m,e,d.J h.wf f a cu rfl,k⟩,h.saved.J h.wf a cu,h.net.J h.wf a cu,h.told.J h.wf a cu,h.bG.J h.wf a cu,h.cO.J h.wf a cu,h.read.J h.wf a cu,h.oH.J h.wf a cu,h.xH,fun i l c=>let ⟨v,e,d⟩:=h.pD i l c;⟨v,e,d.J h.wf a cu⟩⟩
def GM.Og{v:Tan}{va:Tac}(h:GM w S ow b vs R g)(a:bD (iI 2) X w S ow w' S' bT)(f:Wf w' S' bT)(j:kj w' bT 2 29 v va):GM w' S' bT b vs {R with aX:=v,va:=va} g:=
 ⟨f,h.obj.J a cu,h.fv.J a,h.fl.J a,h.arr.J h.wf a cu,h.rn,fun i s c=>let ⟨m,e,d,k⟩:=h.ew i s c;⟨m,e,d.J h.wf f a cu rfl,k⟩,h.saved.J h.wf a cu,h.net.J h.wf a cu,h.told.J h.wf a cu,h.bG.J h.wf a cu,h.cO.J h.wf a cu,h.read.J h.wf a cu,j,h.xH,fun i l c=>let ⟨v,e,d⟩:=h.pD i l c;⟨v,e,d.J h.wf a cu⟩⟩
def GM.Cl{v:Tan}{xs:Taf}(h:GM w S ow b vs R g)(a:bD (iI 10) X w S ow w' S' bT)(f:Wf w' S' bT)(j:dB w' S' bT 10 65 iU v xs):GM w' S' bT b vs {R with saved:=v} {g with saved:=xs}:=
 ⟨f,h.obj.J a cu,h.fv.J a,h.fl.J a,h.arr.J h.wf a cu,h.rn,fun i s c=>let ⟨m,e,d,k⟩:=h.ew i s c;⟨m,e,d.J h.wf f a cu rfl,k⟩,j,h.net.J h.wf a cu,h.told.J h.wf a cu,h.bG.J h.wf a cu,h.cO.J h.wf a cu,h.read.J h.wf a cu,h.oH.J h.wf a cu,h.xH,fun i l c=>let ⟨v,e,d⟩:=h.pD i l c;⟨v,e,d.J h.wf a cu⟩⟩
def GM.pb{v:Tan}{xs:Taf}(h:GM w S ow b vs R g)(a:bD (iI 11) X w S ow w' S' bT)(f:Wf w' S' bT)(j:dB w' S' bT 11 49 hP v xs):GM w' S' bT b vs {R with net:=v} {g with net:=xs}:=
 ⟨f,h.obj.J a cu,h.fv.J a,h.fl.J a,h.arr.J h.wf a cu,h.rn,fun i s c=>let ⟨m,e,d,k⟩:=h.ew i s c;⟨m,e,d.J h.wf f a cu rfl,k⟩,h.saved.J h.wf a cu,j,h.told.J h.wf a cu,h.bG.J h.wf a cu,h.cO.J h.wf a cu,h.read.J h.wf a cu,h.oH.J h.wf a cu,h.xH,fun i l c=>let ⟨v,e,d⟩:=h.pD i l c;⟨v,e,d.J h.wf a cu⟩⟩
def GM.Fw{v:Tan}{xs:Taf}(h:GM w S ow b vs R g)(a:bD (iI 12) X w S ow w' S' bT)(f:Wf w' S' bT)(j:dB w' S' bT 12 78 dY v xs):GM w' S' bT b vs {R with told:=v} {g with told:=xs}:=
 ⟨f,h.obj.J a cu,h.fv.J a,h.fl.J a,h.arr.J h.wf a cu,h.rn,fun i s c=>let ⟨m,e,d,k⟩:=h.ew i s c;⟨m,e,d.J h.wf f a cu rfl,k⟩,h.saved.J h.wf a cu,h.net.J h.wf a cu,j,h.bG.J h.wf a cu,h.cO.J h.wf a cu,h.read.J h.wf a cu,h.oH.J h.wf a cu,h.xH,fun i l c=>let ⟨v,e,d⟩:=h.pD i l c;⟨v,e,d.J h.wf a cu⟩⟩
def GM.AY{v:Tan}{xs:Taf}(h:GM w S ow b vs R g)(a:bD (iI 13) X w S ow w' S' bT)(f:Wf w' S' bT)(j:dB w' S' bT 13 3 I6 v xs):GM w' S' bT b vs {R with bG:=v} {g with bG:=xs}:=
 ⟨f,h.obj.J a cu,h.fv.J a,h.fl.J a,h.arr.J h.wf a cu,h.rn,fun i s c=>let ⟨m,e,d,k⟩:=h.ew i s c;⟨m,e,d.J h.wf f a cu rfl,k⟩,h.saved.J h.wf a cu,h.net.J h.wf a cu,h.told.J h.wf a cu,j,h.cO.J h.wf a cu,h.read.J h.wf a cu,h.oH.J h.wf a cu,h.xH,fun i l c=>let ⟨v,e,d⟩:=h.pD i l c;⟨v,e,d.J h.wf a cu⟩⟩
def GM.Ck{v:Tan}{xs:Taf}(h:GM w S ow b vs R g)(a:bD (iI 14) X w S ow w' S' bT)(f:Wf w' S' bT)(j:dB w' S' bT 14 3 I6 v xs):GM w' S' bT b vs {R with cO:=v} {g with cO:=xs}:=
 ⟨f,h.obj.J a cu,h.fv.J a,h.fl.J a,h.arr.J h.wf a cu,h.rn,fun i s c=>let ⟨m,e,d,k⟩:=h.ew i s c;⟨m,e,d.J h.wf f a cu rfl,k⟩,h.saved.J h.wf a cu,h.net.J h.wf a cu,h.told.J h.wf a cu,h.bG.J h.wf a cu,j,h.read.J h.wf a cu,h.oH.J h.wf a cu,h.xH,fun i l c=>let ⟨v,e,d⟩:=h.pD i l c;⟨v,e,d.J h.wf a cu⟩⟩
def GM.uJ{i bs:Nat}{s':RS}(h:GM w S ow b vs R g)(a:bD (iI (1000+i)) X w S ow w' S' bT)(m:Wf w' S' bT)(hi:i<g.ew.length)(o:R.lb[i]?=some bs)(n:kr w' S' bT (1000+i) (dG 0) bs [cR s',cL s'])(e:dx (.V eZ) (encS s'))(r:g.aX.length<=5):GM w' S' bT b vs R {g with ew:=g.ew.set i s'}:=
 ⟨m,h.obj.J a cu,h.fv.J a,h.fl.J a,h.arr.J h.wf a cu,by rw[aQ];exact h.rn,fun j s c=>(by
  rw[bj]at c;by_cases d:i=j
  .subst d;rw[if_pos rfl,if_pos hi]at c;injection c with c;subst c;exact⟨bs,o,n,e⟩
  rw[if_neg d]at c;obtain⟨q,k,f,p⟩:=h.ew j s c;exact⟨q,k,f.J h.wf m a cu rfl,p⟩),h.saved.J h.wf a cu,h.net.J h.wf a cu,h.told.J h.wf a cu,h.bG.J h.wf a cu,h.cO.J h.wf a cu,h.read.J h.wf a cu,h.oH.J h.wf a cu,h.xH,fun j l c=>let ⟨v,k,f⟩:=h.pD j l c;⟨v,k,f.J h.wf a (by have t:j<g.aX.length:=(aO.1 c).1;simp only[iI];omega)⟩⟩
def GM.J2{i:Nat}{v:Tan}{l:Taf}(h:GM w S ow b vs R g)(a:bD (iI (100+i)) X w S ow w' S' bT)(k:Wf w' S' bT)(hi:i<g.aX.length)(m:dB w' S' bT (100+i) 3 I6 v l)(q:i<100):GM w' S' bT b vs {R with vv:=R.vv.set i v} {g with aX:=g.aX.set i l}:=
 ⟨k,h.obj.J a cu,h.fv.J a,h.fl.J a,h.arr.J h.wf a cu,h.rn,fun i s hi=>let ⟨o,f,e,n⟩:=h.ew i s hi;⟨o,f,e.J h.wf k a cu rfl,n⟩,h.saved.J h.wf a cu,h.net.J h.wf a cu,h.told.J h.wf a cu,h.bG.J h.wf a cu,h.cO.J h.wf a cu,h.read.J h.wf a cu,h.oH.J h.wf a cu,by rw[aQ,aQ];exact h.xH,fun j x c=>(by
  rw[bj]at c;by_cases d:i=j
  .subst d;rw[if_pos rfl,if_pos hi]at c;injection c with c;subst c;exact⟨v,by rw[bj,if_pos rfl,if_pos (by rw[h.xH];exact hi)],m⟩
  rw[if_neg d]at c;obtain⟨p,f,e⟩:=h.pD j x c;exact⟨p,by rw[bj,if_neg d];exact f,e.J h.wf a cu⟩)⟩
def GM.cell(h:GM w S ow b vs R g){X:Tai}(d:¬X b){j:Nat}{v:Tan}(c:vs[j]?=some v):∀w',SX X w w'->w'.cell? ⟨b,j,none⟩=some v:=by intro w' a;rw[bn (a.2 b h.obj.lt d)];exact ja h.obj.heap c
def GM.O{a:Tam}(h:GM w S ow b vs R g)(e:vm w a):GM a S ow b vs R g:=by refine h.J (bD.O e aB aB S ow) ⟨fun b o c=>by rw[e.heap];exact h.wf.s b o c,fun b l f=>by rw[e.heap];exact h.wf.o b l f,h.wf.d⟩
end
def O8{ex:Bool}{w:Tam}{S p:bE}{T:Tba}{t:Ty}{v:Tan}{d:D}(h:uF ex w 0 S T t v d)(z:∀b o,S b o->p b o)(y:∀b,v.ownBlock=some b->∀o,p b o):cg w p v d:=by
 obtain⟨q,l,rfl,a,_,r⟩:=h.own;rcases a.2 with⟨rfl,hn⟩|⟨g,cap,cur,rfl,_,hg,rN,U1,GW,PZ⟩
 .have:l=[]:=au hn;subst this;exact .nil _ _
 by_cases f:l=[]
 .subst f;exact .nil _ _
 obtain⟨A,e,_,k⟩:=bO.1 h.has;injection e with e;subst e;refine .list g 0 cap t.cells.length q l h.sz f rN a.1 (fun i B=>y g rfl _) ?_ ?_ ?_
 .intro i u m;have:=a.cells (g:=g) rfl i u m;rw[fT,av]at this;rw[av];exact this
 .intro i d n;exact(cB (k d (bQ n))).1
 intro i d j u c n x m;exact(r i d j u c n x m).keep z (fun _ _ _=>rfl)
def vd{w:Tam}{S a:bE}{τ:Taj}{r:bF}{v:Tan}{d:D}(h:jN w 0 S τ r v d)(c:∀b o,S b o->a b o)(f:∀j T,r.2=some (j,T)->∀b,(τ j).ownBlock=some b->∀o,a b o):cg w a v d:=by
 obtain⟨t,e⟩:=r;cases e with
 |none=>exact h.1.keep c (fun _ _ _=>rfl)
 |some jT=>
  obtain⟨j,T⟩:=jT;obtain⟨rfl,g⟩:=h;exact O8 g c (f j T rfl)
def Bh{w:Tam}{S:bE}{τ:Taj}{r:bF}{v:Tan}{d:D}(h:jN w 0 S τ r v d):Has (ET r) d:=by
 obtain⟨t,a⟩:=r;cases a with
 |none=>exact h.2
 |some jT=>
  obtain⟨j,T⟩:=jT;exact h.2.has
def tL{w:Tam}{S:bE}{τ:Taj}{c:List bF}{b:Nat}{cells:Taf}(h:Ca w S τ c b cells):cells.length=c.length/\dx (.V (c.map ET)) cells:=by
 obtain⟨a,T,_,m,f,k,_⟩:=h;refine⟨f,jk (by rw[ao];exact f) ?_⟩;intro j u x d g;rw[ab,dn]at d;obtain⟨r,e,rfl⟩:=d;have i:j<a.length:=by rw[m];exact(aO.1 e).1
 exact Bh (k j r (a[j]'i) x e (aS _) g)
def AA:∀{a b:Tal} {x y:Taf},x.length=a.length->dx (.V a) x->dx (.V b) y->dx (.V (a++b)) (x++y)
 |[],b,x,y,hl,_,h2=>by have:x=[]:=au hl;subst this;exact h2
 |t::a,b,x,y,hl,h1,h2=>by obtain⟨u,r,rfl,d,c⟩:=aJ.1 h1;exact aJ.2 ⟨u,r++y,rfl,d,AA (by simpa using hl) c h2⟩
section
variable{w w':Tam}{S S':bE}{ow bT:Ow}{l b:Nat}{s:RS}
def fE(h:kr w S ow l (dG 0) b [cR s,cL s]):dx (.V eZ) (encS s):=by obtain⟨g,f,_,a,_⟩:=h;obtain⟨e,d⟩:=tL (a.cH 0 lP (cR s) rfl rfl);obtain⟨i,c⟩:=tL (a.cH 1 ji (cL s) rfl rfl);exact AA (by rw[ao];exact e) d c
def Lt(h:kr w S ow l (dG 0) b [cR s,cL s])(B:bE)(Q:∀b o,S b o->B b o)(J:∀b o,ow b=some l->B b o):cg w B (.pointer (some ⟨b,0,none⟩)) (C3 s)/\Has ue (C3 s):=by
 obtain⟨t,X,hb,g,q⟩:=h;obtain⟨C,T0,W,O,F,V,a5⟩:=g.cH 0 lP (cR s) rfl rfl;obtain⟨Y,T1,b1,R,b3,b4,b5⟩:=g.cH 1 ji (cL s) rfl rfl;have I:ow (t 0)=some l:=q _ (.inl ⟨0,by decide,rfl⟩);have H:ow (t 1)=some l:=q _ (.inl ⟨1,by decide,rfl⟩)
 have m:∀(o:Nat) (D:List bF),(dG 0).cH[o]?=some D->∀(i:Nat) (r:bF),D[i]?=some r->∀j T,r.2=some (j,T)->∀b,(X j).ownBlock=some b->∀o,B b o:=by intro o D ho i r a j T M U N Z;exact J U Z (q U (.inr ⟨j,dj.2 ⟨D,bQ ho,bH.2 ⟨r,bQ a,by rw[M];rfl⟩⟩,N⟩))
 have y:cg w B (.pointer (some ⟨t 1,0,none⟩)) (.ptr (cL s)):=by
  refine .ptr (t 1) Y (cL s) (by rw[R,b3]) (fun i _=>J _ i H) (fun i v f=>ja b1 f) ?_;intro i v d f k;have E:i<ji.length:=by rw[<-R];exact(aO.1 f).1
  have a:ji[i]?=some (ji[i]'E):=aS _;exact vd (b4 i _ v d a f k) Q (m 1 ji rfl i _ a)
 have n:C3 s=.ptr ((cR s).set 13 (.ptr (cL s))):=rfl;have z:(cR s).length=C.length:=by rw[O];exact F
 constructor
 .rw[n,<-hb];refine .ptr (t 0) C _ (by rw[aQ];exact z.symm) (fun i _=>J _ i I) (fun i v f=>ja W f) ?_;intro i v d f k;have E:i<lP.length:=by rw[<-O];exact(aO.1 f).1
  rw[bj]at k;by_cases e:13=i
  .subst e;rw[if_pos rfl,if_pos (by rw[F];exact E)]at k;injection k with k;subst k;have c:=g.link (by decide) 0 13 lP rfl rfl;rw[ja W f]at c;injection c with c;subst c;exact y
  rw[if_neg e]at k;have a:lP[i]?=some (lP[i]'E):=aS _;exact vd (V i _ v d a f k) Q (m 0 lP rfl i _ a)
 rw[n];refine ik.2 ⟨_,rfl,jk (by rw[aQ,F,ao]) ?_⟩;intro j u x P p;rw[ab,dn]at P;obtain⟨r,a,rfl⟩:=P;rw[bj]at p;by_cases e:13=j
 .subst e;rw[if_pos rfl,if_pos (by rw[F];decide)]at p;injection p with p;subst p
  have G:r=Jq:=by have:lP[13]?=some Jq:=rfl;rw[this]at a;injection a with a;exact a.symm
  subst G;rw[if_pos rfl];refine ik.2 ⟨_,rfl,?_⟩;exact(tL (g.cH 1 ji (cL s) rfl rfl)).2
 rw[if_neg e]at p;have M:j<C.length:=by rw[O];exact(aO.1 a).1
 have hc:=V j r (C[j]'M) x a (aS _) p;by_cases c:r=Jq
 .exfalso;subst c;have L:=(aO.1 a).1;have K:j<51:=L;have A:((List.range 51).all fun j=>j==13|| !(lP[j]?==some Jq))=true:=by decide+kernel
  have:=bY.1 A j (cI.2 K);rw[a]at this;simp only[beq_self_eq_true,Bool.not_true,Bool.or_false,beq_iff_eq]at this;exact e this.symm
 rw[if_neg c];exact Bh hc
def mU(h:kr w S ow l (dG 0) b [cR s,cL s])(m:Wf w S ow)(y:Ok s 0):
  Calls Try.prog 12 #[.pointer (some ⟨b,0,none⟩)] w fun e w'=>∃C G c1 B L c2,e=.returned (.agg [.int i64 s.role,.int i64 s.bG,.int i64 s.term,.int i64 s.vote,.int i64 s.bB,.int i64 (s.li+s.le.length),.int i64 s.li,.slice C G c1,.slice B L c2].toArray)/\
   G=(vo (dR s)).length/\bD aB aB w S ow w' S ow/\Wf w' S ow:=by
 obtain⟨P,T⟩:=Lt h (fun b o=>S b o\/ow b=some l) (fun _ _ h=>.inl h) (fun _ _ h=>.inr h);refine(U5.calls rfl w (fun b o=>S b o\/ow b=some l) [.pointer (some ⟨b,0,none⟩)] [C3 s] (fun b o q=>q.elim (m.s b o) (m.o b l)) rfl ?_ (aJ.2 ⟨_,_,rfl,T,dy.2 rfl⟩) y).mono ?_
 .intro i v d j f
  match i,j,f with
  |0,j,f=>injection j with j;injection f with f;subst j f;exact P
 rintro e t ⟨v,S',τ,rfl,hb,_,_,_,mE,_⟩
 have x:bD aB aB w S ow t S ow/\Wf t S ow:=⟨⟨hb.size,hb.os,hb.tape,hb.output,fun b _ k _ _=>hb.block b k,fun b k _ _=>hb.block b k,fun _ _ h=>h,fun b o q=>bn (hb.block b (m.s b o q)),fun _ _ h _=>h,fun _ _ h=>.inl h,fun _ _ h=>h,fun _ _ h=>.inl h⟩,
  ⟨fun b o q=>az (m.s b o q) hb.size,fun b l R=>az (m.o b l R) hb.size,m.d⟩⟩
 rcases mE with⟨c,r,hq⟩|⟨r,_⟩
 .injection r with r;subst r;unfold gk at hq;rw[if_pos rfl]at hq;obtain⟨F,ds,rfl,f,u,U,a⟩:=hq
  have z:ds=[D.int i64 s.role,.int i64 s.bG,.int i64 s.term,.int i64 s.vote,.int i64 s.bB,.int i64 (s.li+s.le.length),.int i64 s.li,cD 0 (dR s),cD 1 (dR s)]:=by have e:cF 12 [C3 s]=.agg [D.int i64 s.role,.int i64 s.bG,.int i64 s.term,.int i64 s.vote,.int i64 s.bB,.int i64 (s.li+s.le.length),.int i64 s.li,cD 0 (dR s),cD 1 (dR s)]:=rfl;rw[e]at f;injection f with f;exact f.symm
  subst z;have p:F.length=9:=u
  match F,p with
  | [u0,u1,u2,u3,u4,u5,u6,u7,u8],_=>
   have g0:=(a 0 _ _ _ rfl rfl rfl).1.cQ;have g1:=(a 1 _ _ _ rfl rfl rfl).1.cQ;have g2:=(a 2 _ _ _ rfl rfl rfl).1.cQ;have g3:=(a 3 _ _ _ rfl rfl rfl).1.cQ;have Z:=(a 4 _ _ _ rfl rfl rfl).1.cQ;have Y:=(a 5 _ _ _ rfl rfl rfl).1.cQ;have X:=(a 6 _ _ _ rfl rfl rfl).1.cQ;subst g0 g1 g2 g3 Z Y X;obtain⟨rfl,W⟩:=a 7 _ _ _ rfl rfl rfl;obtain⟨rfl,V⟩:=a 8 _ _ _ rfl rfl rfl;obtain⟨x7,l7,e7,K,_⟩:=W.own;obtain⟨x8,M,e8,J,_⟩:=V.own
   have j:∀{v:Tan} {n:Nat} {E:Tac},t.ownsRow 0 3 1 v n E->∃A c,v=.slice A n c:=by
    intro v n E Q;rcases Q.2 with⟨rfl,hn⟩|⟨g,cap,cur,rfl,_⟩
    .exact⟨none,0,by rw[hn]⟩
    exact⟨_,cap,rfl⟩
   obtain⟨C,I,O⟩:=j K;obtain⟨B,H,N⟩:=j J;refine⟨C,l7.length,I,B,M.length,H,by rw[O,N],?_,x⟩;have:(cD 0 (dR s)).A=l7:=by rw[e7];rfl
   unfold vo hR;rw[ao];rw[<-this];rfl
 exact absurd rfl r
def qH{τ:Taj}{v:Tan}{d:D}{ts:Tal}(h:im w 0 S τ [(true,pl ts)] v d):cg w S v d/\Has (.agg (.V ts)) d:=by
 rcases h with⟨c,k,hq⟩|⟨k,_⟩
 .injection k with k;subst k;unfold gk at hq;rw[if_pos rfl]at hq;obtain⟨m,r,rfl,rfl,a,e,f⟩:=hq
  have g:∀(i:Nat) u y,m[i]?=some u->r[i]?=some y->∃t,ts[i]?=some t/\cg w S u y/\Has t y:=by
   intro i u y n q;have o:i<ts.length:=by have:=(aO.1 n).1;rw[a]at this;simpa [pl]using this
   have B:(pl ts)[i]?=some (ts[i]'o,none):=by simp[pl,aS o]
   exact⟨ts[i]'o,aS o,f i _ u y B n q⟩
  refine⟨.agg m r (by rw[a];exact e.symm) (fun i u y n q=>(g i u y n q).choose_spec.2.1),dU.2 ⟨r,rfl,jk (by rw[e];simp[pl]) ?_⟩⟩;intro j t x A z;have C:j<m.length:=by have:=(aO.1 z).1;rw[a,<-e];exact this
  obtain⟨F,p,_,E⟩:=g j (m[j]'C) x (aS _) z;rw[A]at p;injection p with p;subst p;exact E
 exact absurd rfl k
def VF:Tal:=[.bool,I6,I6,.list dY,.ptr (.V kz),.list hP,.list dY,.list uM]
def zk:Ty:=.agg (.V VF)
def xm{x:Int}(h:kr w S ow l (dG 0) b [cR s,cL s])(p:Wf w S ow)(m:1000<=l)(o:jX i64 x)(k:Ok s 20):
  Calls Try.prog 15 #[.pointer (some ⟨b,0,none⟩),.int i64 x] w fun e w'=>∃v S' bT,e=.returned v/\bD (iI l) aB w S ow w' S' bT/\Wf w' S' bT/\kr w' S' bT l (dG 0) b [cR (jz x s).2,cL (jz x s).2]/\cg w' S' v (jz x s).1/\Has zk (jz x s).1:=by
 have j:dx (.V s15.params) ([D.int i64 x]++[cR s,cL s].flatten):=aJ.2 ⟨_,_,rfl,⟨x,rfl,o⟩,fE h⟩;refine(h.call (ob0:=dG 0) (vs:=[.int i64 x]) (n:=1) YM rfl rfl rfl rfl rfl rfl (by decide) (.inl (by decide)) rfl m p rfl rfl ?_ j k).mono ?_
 .intro i v d c g
  match i,c,g with
  |0,c,g=>injection c with c;injection g with g;subst c g;exact .int _ _
 rintro e q ⟨v,S',bT,τ,d0,outs,rfl,a,P8,P7,UW,P9,mE⟩;have e:cF 15 ([D.int i64 x]++[cR s,cL s].flatten)=.ff [(jz x s).1,.agg (cR (jz x s).2),.agg (cL (jz x s).2)]:=rfl;rw[e]at a;injection a with a;have f:outs.length=2:=P8
 match outs,f with
 | [o1,o2],_=>
  simp only[cM,List.map_nil,eI,D.agg.injEq,and_true]at a;obtain⟨rfl,rfl,rfl⟩:=a;exact⟨v,S',bT,rfl,P7,UW,P9,(qH mE).1,(qH mE).2⟩
def Cj{x:D}{u:Tan}(h:kr w S ow l (dG 0) b [cR s,cL s])(q:Wf w S ow)(o:1000<=l)(p:Has hP x)(r:cg w S u x)(m:Ok s (20+(cD 12 x).A.length))(g:(cD 12 x).A.length<=2147483648):
  Calls Try.prog 17 #[.pointer (some ⟨b,0,none⟩),u] w fun e w'=>∃v S' bT,e=.returned v/\bD (iI l) aB w S ow w' S' bT/\Wf w' S' bT/\kr w' S' bT l (dG 0) b [cR (jo x s).2,cL (jo x s).2]/\cg w' S' v (jo x s).1/\Has zk (jo x s).1:=by
 have k:dx (.V s17.params) ([x]++[cR s,cL s].flatten):=aJ.2 ⟨_,_,rfl,p,fE h⟩;refine(h.call (ob0:=dG 0) (vs:=[u]) (n:=1) c17 rfl rfl rfl rfl rfl rfl (by decide) (.inl (by decide)) rfl o q rfl rfl ?_ k ⟨m,g⟩).mono ?_
 .intro i v d c j
  match i,c,j with
  |0,c,j=>injection c with c;injection j with j;subst c j;exact r
 rintro e t ⟨v,S',bT,τ,d0,outs,rfl,a,P8,P7,UW,P9,mE⟩;have e:cF 17 ([x]++[cR s,cL s].flatten)=.ff [(jo x s).1,.agg (cR (jo x s).2),.agg (cL (jo x s).2)]:=rfl;rw[e]at a;injection a with a;have f:outs.length=2:=P8
 match outs,f with
 | [o1,o2],_=>
  simp only[cM,List.map_nil,eI,D.agg.injEq,and_true]at a;obtain⟨rfl,rfl,rfl⟩:=a;exact⟨v,S',bT,rfl,P7,UW,P9,(qH mE).1,(qH mE).2⟩
end
noncomputable section
def bh(i:Nat)(f:Func):=kN i (fS f)
abbrev oM(d x:Nat)(g:Tao (Nat×Bool):=none):OK:=(some d,.move (.tmp x),g)
abbrev oA(d x:Nat)(g:Tao (Nat×Bool):=none):OK:=(some d,.assign (.tmp x),g)
abbrev oN(d x:Nat)(g:Tao (Nat×Bool):=none):OK:=(some d,.nilCheck (.tmp x),g)
abbrev oF(d t x i:Nat)(g:Tao (Nat×Bool):=none):OK:=(some d,.fieldAddr t (.tmp x) i,g)
abbrev oL(d t x:Nat)(g:Tao (Nat×Bool):=none):OK:=(some d,.load t (.tmp x),g)
abbrev oI(d t x y:Nat)(g:Tao (Nat×Bool):=none):OK:=(some d,.indexAddr t (.tmp x) (.tmp y),g)
abbrev oC(d f:Nat)(a:Tbd Tbb)(t:Tbd Nat)(g:Tao (Nat×Bool):=none):OK:=(some d,.call {callee:=.value (.func f),args:=a,argTypes:=t},g)
abbrev oE(d x t:Nat)(g:Tao (Nat×Bool):=none):OK:=(some d,.call {callee:=.builtin .len,args:=#[.tmp x],argTypes:=#[t]},g)
abbrev oP(d x y:Nat)(b:Bool)(g:Tao (Nat×Bool):=none):OK:=(some d,.pick (.tmp x) (.tmp y) (.const (.bool b)),g)
abbrev oB(d:Nat)(o:BinOp)(t x y:Nat)(g:Tao (Nat×Bool):=none):OK:=(some d,.binOp o t (.tmp x) (.tmp y) t,g)
abbrev oS(t x y:Nat)(g:Tao (Nat×Bool):=none):OK:=(none,.store t (.tmp x) (.tmp y),g)
def SO:=bh 0 Try.f54
def SN:=bh 1 Try.f54
def SM:=bh 2 Try.f54
def SL:=bh 3 Try.f54
def abe:bJ SO=[(some 4,.assign (.const (.slice none 0 0)),none)]:=by kernel_rfl
def abd:bJ SN=[oM 5 0,
 oE 6 5 29,
 oM 7 1,
 oB 8 .leq 3 6 7]:=by kernel_rfl
def abc:bJ SM=[oM 9 0,
 (some 10,.buildSlice 29 1 #[(0,.const (.int i64 0))],none),
 (some 11,.call {callee:=.builtin .append,args:=#[(.tmp 9),(.tmp 10)],argTypes:=#[29,29]},none),
 oA 0 11]:=by kernel_rfl
def abb:bJ SL=[oM 12 0,
 oA 4 12]:=by kernel_rfl
def XQ:fS Try.f54=(.seq (.region 0 SO false) (.seq (.block 0 (.loop (.seq (.seq (.region 1 SN false) (.cond (.tmp 8) .skip (.exit 0))) (.block 1 (.region 2 SM false))))) (.seq (.region 3 SL false) .ret))):=by kernel_rfl
def N9:Try.f54.body=some (fS Try.f54):=by kernel_rfl
def afN:Try.f54.ntmps=13:=by kernel_rfl
def aaX:Try.f54.results=#[.tmp 4]:=by kernel_rfl
def Km(a:Tbd Tan)(w:Tam):(callFunc 54 a).run Try.prog w=.ok (.enter 54 a) w:=by
 unfold callFunc
 have b:Try.f54.name≠ "runtime.NumGoroutine" :=by decide+kernel
 simp[Try.func54,N9,b]
def SZ:=bh 0 Try.f19
def SY:=bh 1 Try.f19
def JO:=bh 2 Try.f19
def SW:=bh 3 Try.f19
def Nl:=bh 4 Try.f19
def Nk:=bh 5 Try.f19
def Nj:=bh 6 Try.f19
def Ni:=bh 7 Try.f19
def JN:=bh 8 Try.f19
def Nh:=bh 9 Try.f19
def Dm:=bh 10 Try.f19
def Dl:=bh 11 Try.f19
def Dk:=bh 12 Try.f19
def Dj:=bh 13 Try.f19
def zN:=bh 14 Try.f19
def aby:bJ SZ=[oM 7 0,
 oN 8 7,
 oF 9 59 8 1,
 oL 10 54 9,
 oM 11 1,
 oI 12 54 10 11,
 oL 13 52 12,
 oC 14 12 #[(.tmp 13)] #[52],
 (some 4,.alloc 67,none),
 oS 67 4 14]:=by kernel_rfl
def abx:bJ SY=[oF 15 67 4 2,
 oF 16 61 15 0,
 oL 17 3 16,
 oM 18 0,
 oN 19 18,
 oF 20 59 19 7,
 oL 21 29 20,
 oM 22 1,
 oI 23 29 21 22,
 oL 24 3 23,
 oB 25 .lss 3 17 24,
 oM 26 25,
 oF 27 67 4 2 (some (11,false)),
 oF 28 61 27 0 (some (11,false)),
 oL 29 3 28 (some (11,false)),
 (some 30,.binOp .gtr 3 (.tmp 29) (.const (.int i64 5000)) 3,some (11,false)),
 (some 31,.pick (.tmp 26) (.const (.bool true)) (.tmp 30),none)]:=by kernel_rfl
def abw:bJ JO=[oM 32 0,
 oM 33 0,
 oN 34 33,
 oF 35 59 34 9,
 oL 36 4 35,
 oM 37 36,
 oF 38 67 4 2 (some (5,false)),
 oF 39 61 38 0 (some (5,false)),
 oL 40 3 39 (some (5,false)),
 oM 41 0 (some (5,false)),
 oN 42 41 (some (5,false)),
 oF 43 59 42 7 (some (5,false)),
 oL 44 29 43 (some (5,false)),
 oM 45 1 (some (5,false)),
 oI 46 29 44 45 (some (5,false)),
 oL 47 3 46 (some (5,false)),
 oB 48 .lss 3 40 47 (some (5,false)),
 (some 49,.pick (.tmp 37) (.const (.bool true)) (.tmp 48),none),
 oN 50 32,
 oF 51 59 50 9,
 oS 4 51 49]:=by kernel_rfl
def abv:bJ SW=[oM 52 0,
 oN 53 52,
 oF 54 59 53 7,
 oL 55 29 54,
 oM 56 1,
 oF 57 67 4 2,
 oF 58 61 57 0,
 oL 59 3 58,
 oI 60 29 55 56,
 oS 3 60 59]:=by kernel_rfl
def abu:bJ Nl=[oM 61 0,
 oN 62 61,
 oF 63 59 62 6,
 oL 64 57 63,
 oM 65 1,
 oM 66 0,
 oN 67 66,
 oF 68 59 67 6,
 oL 69 57 68,
 oM 70 1,
 oI 71 57 69 70,
 oL 72 29 71,
 oF 73 67 4 2,
 oF 74 61 73 0,
 oL 75 3 74,
 oC 76 54 #[(.tmp 72),(.tmp 75)] #[29,3],
 oI 77 57 64 65,
 oS 29 77 76]:=by kernel_rfl
def abt:bJ Nk=[oM 78 0,
 oN 79 78,
 oF 80 59 79 6,
 oL 81 57 80,
 oM 82 1,
 oI 83 57 81 82,
 oL 84 29 83,
 oF 85 67 4 2,
 oF 86 61 85 0,
 oL 87 3 86,
 oI 88 29 84 87,
 oL 89 3 88,
 oA 5 89]:=by kernel_rfl
def abr:bJ Nj=[oM 90 5,
 (some 91,.binOp .neq 3 (.tmp 90) (.const (.int i64 0)) 3,none),
 oM 92 91,
 oF 93 67 4 2 (some (2,true)),
 oF 94 61 93 1 (some (2,true)),
 oL 95 3 94 (some (2,true)),
 oM 96 5 (some (2,true)),
 oB 97 .neq 3 95 96 (some (2,true)),
 oP 98 92 97 false]:=by kernel_rfl
def abq:bJ Ni=[oM 99 0,
 oN 100 99,
 oF 101 59 100 9,
 (none,.store 4 (.tmp 101) (.const (.bool true)),none)]:=by kernel_rfl
def abp:bJ JN=[oM 102 0,
 oN 103 102,
 oF 104 59 103 6,
 oL 105 57 104,
 oM 106 1,
 oI 107 57 105 106,
 oL 108 29 107,
 oF 109 67 4 2,
 oF 110 61 109 0,
 oL 111 3 110,
 oF 112 67 4 2,
 oF 113 61 112 1,
 oL 114 3 113,
 oI 115 29 108 111,
 oS 3 115 114]:=by kernel_rfl
def abo:bJ Nh=[oF 116 67 4 0,
 oL 117 3 116,
 (some 118,.binOp .eql 3 (.tmp 117) (.const (.int i64 2)) 3,none)]:=by kernel_rfl
def WJ:bJ Dm=[oM 119 0,
 oM 120 0,
 oN 121 120,
 oF 122 59 121 5,
 oL 123 29 122,
 oF 124 67 4 2,
 oF 125 61 124 0,
 oL 126 3 125,
 oC 127 54 #[(.tmp 123),(.tmp 126)] #[29,3],
 oN 128 119,
 oF 129 59 128 5,
 oS 29 129 127]:=by kernel_rfl
def WI:bJ Dl=[oM 130 0,
 oN 131 130,
 oF 132 59 131 5,
 oL 133 29 132,
 oF 134 67 4 2,
 oF 135 61 134 0,
 oL 136 3 135,
 oI 137 29 133 136,
 oL 138 3 137,
 oA 6 138]:=by kernel_rfl
def WH:bJ Dk=[oM 139 6,
 (some 140,.binOp .neq 3 (.tmp 139) (.const (.int i64 0)) 3,none),
 oM 141 140,
 oM 142 6 (some (2,true)),
 oM 143 1 (some (2,true)),
 (some 144,.binOp .add 3 (.tmp 143) (.const (.int i64 1)) 3,some (2,true)),
 oB 145 .neq 3 142 144 (some (2,true)),
 oP 146 141 145 false]:=by kernel_rfl
def WG:bJ Dj=[oM 147 0,
 oN 148 147,
 oF 149 59 148 9,
 (none,.store 4 (.tmp 149) (.const (.bool true)),none)]:=by kernel_rfl
def WE:bJ zN=[oM 150 0,
 oN 151 150,
 oF 152 59 151 5,
 oL 153 29 152,
 oF 154 67 4 2,
 oF 155 61 154 0,
 oL 156 3 155,
 oM 157 1,
 (some 158,.binOp .add 3 (.tmp 157) (.const (.int i64 1)) 3,none),
 oI 159 29 153 156,
 oS 3 159 158]:=by kernel_rfl
def XS:fS Try.f19=(.seq (.region 0 SZ false) (.seq (.seq (.region 1 SY true) (.cond (.tmp 31) (.seq (.region 2 JO true) .ret) .skip)) (.seq (.region 3 SW true) (.seq (.region 4 Nl true) (.seq (.region 5 Nk true) (.seq (.seq (.region 6 Nj false) (.cond (.tmp 98) (.region 7 Ni false) .skip)) (.seq (.region 8 JN true) (.seq (.region 9 Nh false) (.cond (.tmp 118) (.seq (.region 10 Dm true) (.seq (.region 11 Dl true) (.seq (.seq (.region 12 Dk false) (.cond (.tmp 146) (.region 13 Dj false) .skip)) (.region 14 zN true)))) .skip))))))))):=by kernel_rfl
def Oc:Try.f19.body=some (fS Try.f19):=by kernel_rfl
def afP:Try.f19.ntmps=160:=by kernel_rfl
def MW:Try.f19.results=#[]:=by kernel_rfl
def Ko(a:Tbd Tan)(w:Tam):(callFunc 19 a).run Try.prog w=.ok (.enter 19 a) w:=by
 unfold callFunc
 have b:Try.f19.name≠ "runtime.NumGoroutine" :=by decide+kernel
 simp[Try.func19,Oc,b]
def SU:=bh 0 Try.f30
def SR:=bh 1 Try.f30
def SQ:=bh 2 Try.f30
def SP:=bh 3 Try.f30
def Ng:=bh 4 Try.f30
def Nf:=bh 5 Try.f30
def Nd:=bh 6 Try.f30
def Nc:=bh 8 Try.f30
def JL:=bh 9 Try.f30
def JM:=bh 7 Try.f30
def zM:=bh 10 Try.f30
def zJ:=bh 11 Try.f30
def Hy:=bh 12 Try.f30
def Hx:=bh 13 Try.f30
def Hw:=bh 14 Try.f30
def Hv:=bh 15 Try.f30
def Hu:=bh 17 Try.f30
def Ht:=bh 18 Try.f30
def Di:=bh 16 Try.f30
def zI:=bh 19 Try.f30
def zG:=bh 20 Try.f30
def zD:=bh 21 Try.f30
def abn:bJ SU=[(some 5,.box 75 (.tmp 2),none)]:=by kernel_rfl
def abm:bJ SR=[oM 11 0,
 oN 12 11,
 oF 13 59 12 2,
 oL 14 55 13,
 oM 15 1,
 oI 16 55 14 15,
 oL 17 65 16,
 (some 6,.alloc 65,none),
 oS 65 6 17]:=by kernel_rfl
def abl:bJ SQ=[oF 18 75 5 1,
 oL 19 61 18,
 oF 20 65 6 0,
 oS 61 20 19]:=by kernel_rfl
def abk:bJ SP=[oF 21 75 5 3,
 oL 22 72 21,
 (some 23,.binOp .neq 72 (.tmp 22) (.const (.pointer none)) 72,none)]:=by kernel_rfl
def abj:bJ Ng=[(some 7,.assign (.const (.slice none 0 0)),none)]:=by kernel_rfl
def abi:bJ Nf=[(some 8,.assign (.const (.int i64 0)),none)]:=by kernel_rfl
def abh:bJ Nd=[oM 24 8,
 oF 25 65 6 2,
 oL 26 28 25,
 oE 27 26 28,
 oB 28 .lss 3 24 27]:=by kernel_rfl
def abf:bJ JL=[oM 60 7,
 oF 61 65 6 2,
 oL 62 28 61,
 oM 63 8,
 oI 64 28 62 63,
 oL 65 78 64,
 (some 66,.buildSlice 28 1 #[(0,.tmp 65)],none),
 (some 67,.call {callee:=.builtin .append,args:=#[(.tmp 60),(.tmp 66)],argTypes:=#[28,28]},none),
 oA 7 67]:=by kernel_rfl
def abg:bJ JM=[oM 29 8,
 (some 30,.binOp .add 3 (.tmp 29) (.const (.int i64 1)) 3,none),
 oA 8 30]:=by kernel_rfl
def WD:bJ zM=[oF 68 75 5 3,
 oL 69 72 68,
 oN 70 69,
 oL 71 63 70,
 oF 72 65 6 1,
 oS 63 72 71]:=by kernel_rfl
def WC:bJ zJ=[oM 73 7,
 oF 74 65 6 2,
 oS 28 74 73]:=by kernel_rfl
def WB:bJ Hy=[oF 75 75 5 2,
 oL 76 28 75,
 oE 77 76 28,
 (some 78,.binOp .gtr 3 (.tmp 77) (.const (.int i64 0)) 3,none)]:=by kernel_rfl
def WA:bJ Hx=[(some 9,.assign (.const (.slice none 0 0)),none)]:=by kernel_rfl
def Wz:bJ Hw=[(some 10,.assign (.const (.int i64 0)),none)]:=by kernel_rfl
def Wy:bJ Hv=[oM 79 10,
 oF 80 65 6 2,
 oL 81 28 80,
 oE 82 81 28,
 oB 83 .lss 3 79 82]:=by kernel_rfl
def Ww:bJ Hu=[oF 86 65 6 2,
 oL 87 28 86,
 oM 88 10,
 oI 89 28 87 88,
 oF 90 78 89 0,
 oL 91 3 90,
 oF 92 75 5 2,
 oL 93 28 92,
 (some 94,.indexAddr 28 (.tmp 93) (.const (.int i64 0)),none),
 oF 95 78 94 0,
 oL 96 3 95,
 oB 97 .lss 3 91 96]:=by kernel_rfl
def Wv:bJ Ht=[oM 98 9,
 oF 99 65 6 2,
 oL 100 28 99,
 oM 101 10,
 oI 102 28 100 101,
 oL 103 78 102,
 (some 104,.buildSlice 28 1 #[(0,.tmp 103)],none),
 (some 105,.call {callee:=.builtin .append,args:=#[(.tmp 98),(.tmp 104)],argTypes:=#[28,28]},none),
 oA 9 105]:=by kernel_rfl
def Wx:bJ Di=[oM 84 10,
 (some 85,.binOp .add 3 (.tmp 84) (.const (.int i64 1)) 3,none),
 oA 10 85]:=by kernel_rfl
def Wu:bJ zI=[oM 106 9,
 oF 107 75 5 2,
 oL 108 28 107,
 (some 109,.call {callee:=.builtin .append,args:=#[(.tmp 106),(.tmp 108)],argTypes:=#[28,28]},none),
 oA 9 109]:=by kernel_rfl
def Wt:bJ zG=[oM 110 9,
 oF 111 65 6 2,
 oS 28 111 110]:=by kernel_rfl
def Ws:bJ zD=[oM 112 0,
 oN 113 112,
 oF 114 59 113 2,
 oL 115 55 114,
 oM 116 1,
 oL 117 65 6,
 oI 118 55 115 116,
 oS 65 118 117]:=by kernel_rfl
def XR:fS Try.f30=(.seq (.region 0 SU false) (.seq (.region 1 SR false) (.seq (.region 2 SQ false) (.seq (.seq (.region 3 SP false) (.cond (.tmp 23) (.seq (.region 4 Ng false) (.seq (.seq (.region 5 Nf false) (.block 0 (.loop (.seq (.seq (.region 6 Nd false) (.cond (.tmp 28) .skip (.exit 0))) (.seq (.block 1 (.seq (.region 8 Nc true) (.cond (.tmp 59) (.region 9 JL false) .skip))) (.region 7 JM false)))))) (.seq (.region 10 zM false) (.region 11 zJ false)))) .skip)) (.seq (.seq (.region 12 Hy false) (.cond (.tmp 78) (.seq (.region 13 Hx false) (.seq (.seq (.region 14 Hw false) (.block 2 (.loop (.seq (.seq (.region 15 Hv false) (.cond (.tmp 83) .skip (.exit 2))) (.seq (.block 3 (.seq (.region 17 Hu true) (.cond (.tmp 97) (.region 18 Ht false) .skip))) (.region 16 Di false)))))) (.seq (.region 19 zI false) (.region 20 zG false)))) .skip)) (.region 21 zD true)))))):=by kernel_rfl
def Oa:Try.f30.body=some (fS Try.f30):=by kernel_rfl
def afO:Try.f30.ntmps=119:=by kernel_rfl
def aaY:Try.f30.results=#[]:=by kernel_rfl
def Ry(a:Tbd Tan)(w:Tam):(callFunc 30 a).run Try.prog w=.ok (.enter 30 a) w:=by
 unfold callFunc
 have b:Try.f30.name≠ "runtime.NumGoroutine" :=by decide+kernel
 simp[Try.func30,Oa,b]
def Td:=bh 0 Try.f14
def Tc:=bh 1 Try.f14
def Ta:=bh 2 Try.f14
def Nu:=bh 3 Try.f14
def Ns:=bh 4 Try.f14
def Nr:=bh 5 Try.f14
def Nq:=bh 6 Try.f14
def No:=bh 8 Try.f14
def Nn:=bh 9 Try.f14
def HC:=bh 10 Try.f14
def HB:=bh 11 Try.f14
def HA:=bh 12 Try.f14
def Hz:=bh 13 Try.f14
def Dp:=bh 14 Try.f14
def zP:=bh 15 Try.f14
def Np:=bh 7 Try.f14
def Dn:=bh 16 Try.f14
def abI:bJ Td=[(some 6,.box 75 (.tmp 2),none)]:=by kernel_rfl
def abH:bJ Tc=[oF 12 75 6 0,
 oL 13 4 12]:=by kernel_rfl
def abG:bJ Ta=[oM 14 0,
 oM 15 1,
 oL 16 75 6,
 oC 17 30 #[(.tmp 14),(.tmp 15),(.tmp 16)] #[24,3,75]]:=by kernel_rfl
def abF:bJ Nu=[oM 18 0,
 oN 19 18,
 oF 20 59 19 3,
 oL 21 56 20,
 oE 22 21 56,
 (some 23,.binOp .lss 3 (.tmp 22) (.const (.int i64 400)) 3,none),
 oM 24 23,
 oM 25 3 (some (6,true)),
 (some 26,.unOp .not 4 (.tmp 25),some (6,true)),
 oP 27 24 26 false]:=by kernel_rfl
def abE:bJ Ns=[oM 28 0,
 oM 29 0,
 oN 30 29,
 oF 31 59 30 3,
 oL 32 56 31,
 oF 33 75 6 4,
 oL 34 56 33,
 (some 35,.call {callee:=.builtin .append,args:=#[(.tmp 32),(.tmp 34)],argTypes:=#[56,56]},none),
 oN 36 28,
 oF 37 59 36 3,
 oS 56 37 35]:=by kernel_rfl
def abD:bJ Nr=[(some 8,.assign (.const (.int i64 0)),none)]:=by kernel_rfl
def abC:bJ Nq=[oM 38 8,
 oF 39 75 6 5,
 oL 40 28 39,
 oE 41 40 28,
 oB 42 .lss 3 38 41]:=by kernel_rfl
def abA:bJ No=[oF 45 75 6 5,
 oL 46 28 45,
 oM 47 8,
 oI 48 28 46 47,
 oL 49 78 48,
 (some 9,.alloc 78,none),
 oS 78 9 49]:=by kernel_rfl
def abz:bJ Nn=[oM 50 0,
 oN 51 50,
 oF 52 59 51 4,
 oL 53 28 52,
 oE 54 53 28,
 oF 55 78 9 0,
 oL 56 3 55,
 oB 57 .leq 3 54 56]:=by kernel_rfl
def WR:bJ HC=[oM 58 0,
 oM 59 0,
 oN 60 59,
 oF 61 59 60 4,
 oL 62 28 61,
 (some 63,.build 78 #[],none),
 (some 64,.buildSlice 28 1 #[(0,.tmp 63)],none),
 (some 65,.call {callee:=.builtin .append,args:=#[(.tmp 62),(.tmp 64)],argTypes:=#[28,28]},none),
 oN 66 58,
 oF 67 59 66 4,
 oS 28 67 65]:=by kernel_rfl
def WQ:bJ HB=[oM 68 0,
 oN 69 68,
 oF 70 59 69 4,
 oL 71 28 70,
 oF 72 78 9 0,
 oL 73 3 72,
 oI 74 28 71 73,
 oL 75 78 74,
 (some 10,.alloc 78,none),
 oS 78 10 75]:=by kernel_rfl
def WO:bJ HA=[oF 76 78 9 2,
 oL 77 44 76,
 oF 78 78 10 2,
 oL 79 44 78,
 oC 80 31 #[(.tmp 77),(.tmp 79)] #[44,44],
 oA 11 80]:=by kernel_rfl
def WN:bJ Hz=[oF 81 78 10 0,
 oL 82 3 81,
 (some 83,.binOp .neq 3 (.tmp 82) (.const (.int i64 0)) 3,none),
 oM 84 83,
 oF 85 78 10 1 (some (3,true)),
 oL 86 3 85 (some (3,true)),
 oF 87 78 9 1 (some (3,true)),
 oL 88 3 87 (some (3,true)),
 oB 89 .neq 3 86 88 (some (3,true)),
 oM 90 89 (some (3,true)),
 oM 91 11 (some (9,false)),
 (some 92,.unOp .not 4 (.tmp 91),some (9,false)),
 (some 93,.pick (.tmp 90) (.const (.bool true)) (.tmp 92),some (3,true)),
 oP 94 84 93 false]:=by kernel_rfl
def WM:bJ Dp=[oM 95 0,
 oN 96 95,
 oF 97 59 96 9,
 (none,.store 4 (.tmp 97) (.const (.bool true)),none)]:=by kernel_rfl
def WL:bJ zP=[oM 98 0,
 oN 99 98,
 oF 100 59 99 4,
 oL 101 28 100,
 oF 102 78 9 0,
 oL 103 3 102,
 oL 104 78 9,
 oI 105 28 101 103,
 oS 78 105 104]:=by kernel_rfl
def abB:bJ Np=[oM 43 8,
 (some 44,.binOp .add 3 (.tmp 43) (.const (.int i64 1)) 3,none),
 oA 8 44]:=by kernel_rfl
def WK:bJ Dn=[oM 106 0,
 oM 107 1,
 oC 108 19 #[(.tmp 106),(.tmp 107)] #[24,3]]:=by kernel_rfl
def XT:fS Try.f14=(.seq (.region 0 Td false) (.seq (.seq (.region 1 Tc false) (.cond (.tmp 13) (.region 2 Ta false) .skip)) (.seq (.seq (.region 3 Nu false) (.cond (.tmp 27) (.region 4 Ns true) .skip)) (.seq (.seq (.region 5 Nr false) (.block 0 (.loop (.seq (.seq (.region 6 Nq false) (.cond (.tmp 42) .skip (.exit 0))) (.seq (.block 1 (.seq (.region 8 No false) (.seq (.block 2 (.loop (.seq (.seq (.region 9 Nn true) (.cond (.tmp 57) .skip (.exit 2))) (.block 3 (.region 10 HC false))))) (.seq (.region 11 HB true) (.seq (.region 12 HA false) (.seq (.seq (.region 13 Hz false) (.cond (.tmp 94) (.region 14 Dp false) .skip)) (.region 15 zP true))))))) (.region 7 Np false)))))) (.region 16 Dn false))))):=by kernel_rfl
def Od:Try.f14.body=some (fS Try.f14):=by kernel_rfl
def afQ:Try.f14.ntmps=109:=by kernel_rfl
def aaZ:Try.f14.results=#[]:=by kernel_rfl
def qL(a:Tbd Tan)(w:Tam):(callFunc 14 a).run Try.prog w=.ok (.enter 14 a) w:=by
 unfold callFunc
 have b:Try.f14.name≠ "runtime.NumGoroutine" :=by decide+kernel
 simp[Try.func14,Od,b]
def aah:=bh 0 Try.f9
def aag:=bh 1 Try.f9
def aaf:=bh 2 Try.f9
def aae:=bh 3 Try.f9
def aac:=bh 5 Try.f9
def aad:=bh 4 Try.f9
def VM:=bh 6 Try.f9
def VL:=bh 7 Try.f9
def VJ:=bh 9 Try.f9
def VK:=bh 8 Try.f9
def Nb:=bh 10 Try.f9
def Na:=bh 11 Try.f9
def M8:=bh 13 Try.f9
def M7:=bh 14 Try.f9
def M6:=bh 15 Try.f9
def M5:=bh 16 Try.f9
def M9:=bh 12 Try.f9
def M4:=bh 17 Try.f9
def afb:bJ aah=[(some 4,.assign (.const (.pointer none)),none)]:=by kernel_rfl
def afa:bJ aag=[(some 9,.build 59 #[],none),
 (some 10,.box 59 (.tmp 9),none),
 oA 5 10]:=by kernel_rfl
def ae9:bJ aaf=[(some 6,.assign (.const (.int i64 1)),none)]:=by kernel_rfl
def ae8:bJ aae=[oM 11 6,
 oM 12 1,
 oB 13 .leq 3 11 12]:=by kernel_rfl
def ae6:bJ aac=[oM 16 5,
 oM 17 5,
 oN 18 17,
 oF 19 59 18 0,
 oF 20 31 19 0,
 oL 21 29 20,
 oM 22 6,
 (some 23,.buildSlice 29 1 #[(0,.tmp 22)],none),
 (some 24,.call {callee:=.builtin .append,args:=#[(.tmp 21),(.tmp 23)],argTypes:=#[29,29]},none),
 oN 25 16,
 oF 26 59 25 0,
 oF 27 31 26 0,
 oS 29 27 24]:=by kernel_rfl
def ae7:bJ aad=[oM 14 6,
 (some 15,.binOp .add 3 (.tmp 14) (.const (.int i64 1)) 3,none),
 oA 6 15]:=by kernel_rfl
def ae5:bJ VM=[oM 28 1,
 (some 29,.binOp .add 3 (.tmp 28) (.const (.int i64 1)) 3,none),
 oA 7 29]:=by kernel_rfl
def ae4:bJ VL=[oM 30 7,
 oM 31 0,
 oB 32 .leq 3 30 31]:=by kernel_rfl
def ae2:bJ VJ=[oM 35 5,
 oM 36 5,
 oN 37 36,
 oF 38 59 37 0,
 oF 39 31 38 1,
 oL 40 29 39,
 oM 41 7,
 (some 42,.buildSlice 29 1 #[(0,.tmp 41)],none),
 (some 43,.call {callee:=.builtin .append,args:=#[(.tmp 40),(.tmp 42)],argTypes:=#[29,29]},none),
 oN 44 35,
 oF 45 59 44 0,
 oF 46 31 45 1,
 oS 29 46 43]:=by kernel_rfl
def ae3:bJ VK=[oM 33 7,
 (some 34,.binOp .add 3 (.tmp 33) (.const (.int i64 1)) 3,none),
 oA 7 34]:=by kernel_rfl
def aba:bJ Nb=[(some 8,.assign (.const (.int i64 1)),none)]:=by kernel_rfl
def aa9:bJ Na=[oM 47 8,
 oM 48 0,
 oB 49 .leq 3 47 48]:=by kernel_rfl
def aa7:bJ M8=[oM 52 5,
 oM 53 5,
 oN 54 53,
 oF 55 59 54 2,
 oL 56 55 55,
 (some 57,.build 65 #[],none),
 (some 58,.buildSlice 55 1 #[(0,.tmp 57)],none),
 (some 59,.call {callee:=.builtin .append,args:=#[(.tmp 56),(.tmp 58)],argTypes:=#[55,55]},none),
 oN 60 52,
 oF 61 59 60 2,
 oS 55 61 59]:=by kernel_rfl
def aa6:bJ M7=[oM 62 5,
 oM 63 5,
 oN 64 63,
 oF 65 59 64 1,
 oL 66 54 65,
 oM 67 8,
 oM 68 5,
 oN 69 68,
 oF 70 59 69 0,
 oL 71 31 70,
 (some 72,.build 65 #[],none),
 oC 73 11 #[(.tmp 67),(.tmp 71),(.tmp 72)] #[3,31,65],
 (some 74,.buildSlice 54 1 #[(0,.tmp 73)],none),
 (some 75,.call {callee:=.builtin .append,args:=#[(.tmp 66),(.tmp 74)],argTypes:=#[54,54]},none),
 oN 76 62,
 oF 77 59 76 1,
 oS 54 77 75]:=by kernel_rfl
def aa5:bJ M6=[oM 78 5,
 oM 79 5,
 oN 80 79,
 oF 81 59 80 6,
 oL 82 57 81,
 (some 83,.buildSlice 57 1 #[(0,.const (.slice none 0 0))],none),
 (some 84,.call {callee:=.builtin .append,args:=#[(.tmp 82),(.tmp 83)],argTypes:=#[57,57]},none),
 oN 85 78,
 oF 86 59 85 6,
 oS 57 86 84]:=by kernel_rfl
def aa4:bJ M5=[oM 87 5,
 oM 88 5,
 oN 89 88,
 oF 90 59 89 7,
 oL 91 29 90,
 (some 92,.buildSlice 29 1 #[(0,.const (.int i64 0))],none),
 (some 93,.call {callee:=.builtin .append,args:=#[(.tmp 91),(.tmp 92)],argTypes:=#[29,29]},none),
 oN 94 87,
 oF 95 59 94 7,
 oS 29 95 93]:=by kernel_rfl
def aa8:bJ M9=[oM 50 8,
 (some 51,.binOp .add 3 (.tmp 50) (.const (.int i64 1)) 3,none),
 oA 8 51]:=by kernel_rfl
def aa3:bJ M4=[oM 96 5,
 oA 4 96]:=by kernel_rfl
def acW:fS Try.f9=(.seq (.region 0 aah false) (.seq (.region 1 aag false) (.seq (.seq (.region 2 aaf false) (.block 0 (.loop (.seq (.seq (.region 3 aae false) (.cond (.tmp 13) .skip (.exit 0))) (.seq (.block 1 (.region 5 aac false)) (.region 4 aad false)))))) (.seq (.seq (.region 6 VM false) (.block 2 (.loop (.seq (.seq (.region 7 VL false) (.cond (.tmp 32) .skip (.exit 2))) (.seq (.block 3 (.region 9 VJ false)) (.region 8 VK false)))))) (.seq (.seq (.region 10 Nb false) (.block 4 (.loop (.seq (.seq (.region 11 Na false) (.cond (.tmp 49) .skip (.exit 4))) (.seq (.block 5 (.seq (.region 13 M8 false) (.seq (.region 14 M7 true) (.seq (.region 15 M6 false) (.region 16 M5 false))))) (.region 12 M9 false)))))) (.seq (.region 17 M4 false) .ret)))))):=by kernel_rfl
def Sj:Try.f9.body=some (fS Try.f9):=by kernel_rfl
def nt9:Try.f9.ntmps=97:=by kernel_rfl
def aeY:Try.f9.results=#[.tmp 4]:=by kernel_rfl
def OE(a:Tbd Tan)(w:Tam):(callFunc 9 a).run Try.prog w=.ok (.enter 9 a) w:=by
 unfold callFunc
 have b:Try.f9.name≠ "runtime.NumGoroutine" :=by decide+kernel
 simp[Try.func9,Sj,b]
def Ti:=bh 0 Try.f13
def Th:=bh 1 Try.f13
def Tg:=bh 2 Try.f13
def Tf:=bh 3 Try.f13
def Nz:=bh 5 Try.f13
def Te:=bh 4 Try.f13
def Ny:=bh 6 Try.f13
def Nx:=bh 7 Try.f13
def Nv:=bh 9 Try.f13
def Nw:=bh 8 Try.f13
def HE:=bh 10 Try.f13
def HD:=bh 11 Try.f13
def abS:bJ Ti=[(some 0,.assign (.const (.bool false)),none)]:=by kernel_rfl
def abR:bJ Th=[oC 5 9 #[(.const (.int i64 3)),(.const (.int i64 3))] #[3,3],
 oA 1 5]:=by kernel_rfl
def abQ:bJ Tg=[(some 2,.assign (.const (.int i64 0)),none)]:=by kernel_rfl
def abP:bJ Tf=[oM 6 2,
 (some 7,.binOp .lss 3 (.tmp 6) (.const (.int i64 10)) 3,none)]:=by kernel_rfl
def abN:bJ Nz=[oM 10 1,
 oM 11 1,
 oN 12 11,
 oF 13 59 12 1,
 oL 14 54 13,
 (some 15,.indexAddr 54 (.tmp 14) (.const (.int i64 0)),none),
 oL 16 52 15,
 oC 17 15 #[(.tmp 16),(.const (.int i64 0))] #[52,3],
 oC 18 14 #[(.tmp 10),(.const (.int i64 0)),(.tmp 17),(.const (.bool false))] #[24,3,75,4]]:=by kernel_rfl
def abO:bJ Te=[oM 8 2,
 (some 9,.binOp .add 3 (.tmp 8) (.const (.int i64 1)) 3,none),
 oA 2 9]:=by kernel_rfl
def abM:bJ Ny=[(some 3,.assign (.const (.int i64 0)),none)]:=by kernel_rfl
def abL:bJ Nx=[oM 19 3,
 (some 20,.binOp .lss 3 (.tmp 19) (.const (.int i64 4)) 3,none)]:=by kernel_rfl
def abJ:bJ Nv=[oM 23 1,
 (some 24,.build 51 #[(0,.const (.int i64 6))],none),
 oC 25 10 #[(.tmp 23),(.tmp 24)] #[24,51]]:=by kernel_rfl
def abK:bJ Nw=[oM 21 3,
 (some 22,.binOp .add 3 (.tmp 21) (.const (.int i64 1)) 3,none),
 oA 3 22]:=by kernel_rfl
def WT:bJ HE=[oM 26 1,
 oN 27 26,
 oF 28 59 27 1,
 oL 29 54 28,
 (some 30,.indexAddr 54 (.tmp 29) (.const (.int i64 0)),none),
 oL 31 52 30,
 oC 32 12 #[(.tmp 31)] #[52],
 (some 4,.alloc 67,none),
 oS 67 4 32]:=by kernel_rfl
def WS:bJ HD=[oF 33 67 4 0,
 oL 34 3 33,
 (some 35,.binOp .eql 3 (.tmp 34) (.const (.int i64 2)) 3,none),
 oM 36 35,
 oF 37 67 4 3 (some (3,true)),
 oL 38 3 37 (some (3,true)),
 (some 39,.binOp .eql 3 (.tmp 38) (.const (.int i64 1)) 3,some (3,true)),
 oP 40 36 39 false,
 oM 41 40,
 oF 42 67 4 2 (some (8,true)),
 oF 43 61 42 0 (some (8,true)),
 oL 44 3 43 (some (8,true)),
 (some 45,.binOp .eql 3 (.tmp 44) (.const (.int i64 1)) 3,some (8,true)),
 oP 46 41 45 false,
 oM 47 46,
 oM 48 1 (some (14,true)),
 oN 49 48 (some (14,true)),
 oF 50 59 49 9 (some (14,true)),
 oL 51 4 50 (some (14,true)),
 (some 52,.unOp .not 4 (.tmp 51),some (14,true)),
 oP 53 47 52 false,
 oA 0 53]:=by kernel_rfl
def XU:fS Try.f13=(.seq (.region 0 Ti false) (.seq (.region 1 Th false) (.seq (.seq (.region 2 Tg false) (.block 0 (.loop (.seq (.seq (.region 3 Tf false) (.cond (.tmp 7) .skip (.exit 0))) (.seq (.block 1 (.region 5 Nz false)) (.region 4 Te false)))))) (.seq (.seq (.region 6 Ny false) (.block 2 (.loop (.seq (.seq (.region 7 Nx false) (.cond (.tmp 20) .skip (.exit 2))) (.seq (.block 3 (.region 9 Nv false)) (.region 8 Nw false)))))) (.seq (.region 10 HE false) (.seq (.region 11 HD false) .ret)))))):=by kernel_rfl
def Oe:Try.f13.body=some (fS Try.f13):=by kernel_rfl
def afR:Try.f13.ntmps=54:=by kernel_rfl
def aa0:Try.f13.results=#[.tmp 0]:=by kernel_rfl
def Rz(a:Tbd Tan)(w:Tam):(callFunc 13 a).run Try.prog w=.ok (.enter 13 a) w:=by
 unfold callFunc
 have b:Try.f13.name≠ "runtime.NumGoroutine" :=by decide+kernel
 simp[Try.func13,Oe,b]
def Ts:=bh 0 Try.f10
def Tr:=bh 1 Try.f10
def Tq:=bh 2 Try.f10
def NH:=bh 3 Try.f10
def NG:=bh 4 Try.f10
def JQ:=bh 5 Try.f10
def NF:=bh 6 Try.f10
def ND:=bh 7 Try.f10
def NC:=bh 8 Try.f10
def Dr:=bh 10 Try.f10
def NB:=bh 9 Try.f10
def Io:=bh 11 Try.f10
def Im:=bh 12 Try.f10
def Il:=bh 13 Try.f10
def Ik:=bh 14 Try.f10
def Ij:=bh 15 Try.f10
def Ii:=bh 17 Try.f10
def Ih:=bh 18 Try.f10
def Ig:=bh 19 Try.f10
def Ie:=bh 20 Try.f10
def Ic:=bh 21 Try.f10
def Ib:=bh 22 Try.f10
def Ia:=bh 23 Try.f10
def H9:=bh 24 Try.f10
def H8:=bh 25 Try.f10
def Dq:=bh 16 Try.f10
def H7:=bh 26 Try.f10
def H6:=bh 27 Try.f10
def H5:=bh 28 Try.f10
def H4:=bh 29 Try.f10
def H3:=bh 30 Try.f10
def H0:=bh 32 Try.f10
def HZ:=bh 33 Try.f10
def H2:=bh 31 Try.f10
def HY:=bh 34 Try.f10
def HX:=bh 35 Try.f10
def HW:=bh 36 Try.f10
def HV:=bh 37 Try.f10
def HU:=bh 38 Try.f10
def HT:=bh 39 Try.f10
def HS:=bh 40 Try.f10
def HR:=bh 41 Try.f10
def HQ:=bh 42 Try.f10
def HP:=bh 43 Try.f10
def HO:=bh 44 Try.f10
def Oy:=bh 45 Try.f10
def kQ:=bh 46 Try.f10
def HN:=bh 47 Try.f10
def HM:=bh 48 Try.f10
def HL:=bh 49 Try.f10
def gj:=bh 50 Try.f10
def HK:=bh 51 Try.f10
def HJ:=bh 52 Try.f10
def HI:=bh 53 Try.f10
def HH:=bh 54 Try.f10
def Ox:=bh 55 Try.f10
def HG:=bh 56 Try.f10
def HF:=bh 57 Try.f10
def SH:bJ Ts=[(some 3,.box 51 (.tmp 1),none)]:=by kernel_rfl
def SF:bJ Tr=[oF 22 51 3 1,
 oL 23 3 22,
 oM 24 0,
 oN 25 24,
 oF 26 59 25 1,
 oL 27 54 26,
 oE 28 27 54,
 oC 29 8 #[(.tmp 23),(.tmp 28)] #[3,3],
 oA 4 29]:=by kernel_rfl
def SE:bJ Tq=[oF 30 51 3 0,
 oL 31 3 30,
 oC 32 8 #[(.tmp 31),(.const (.int i64 12))] #[3,3]]:=by kernel_rfl
def SD:bJ NH=[(some 34,.binOp .eql 3 (.tmp 32) (.const (.int i64 0)) 3,none),
 oA 33 34]:=by kernel_rfl
def SB:bJ NG=[(some 35,.binOp .eql 3 (.tmp 32) (.const (.int i64 1)) 3,none),
 oA 33 35]:=by kernel_rfl
def ab4:bJ JQ=[oM 36 0,
 oM 37 4,
 oM 38 0,
 oN 39 38,
 oF 40 59 39 1,
 oL 41 54 40,
 oM 42 4,
 oI 43 54 41 42,
 oL 44 52 43,
 oF 45 51 3 3,
 oF 46 49 45 8,
 oL 47 3 46,
 oC 48 15 #[(.tmp 44),(.tmp 47)] #[52,3],
 oC 49 14 #[(.tmp 36),(.tmp 37),(.tmp 48),(.const (.bool false))] #[24,3,75,4]]:=by kernel_rfl
def SA:bJ NF=[(some 51,.binOp .eql 3 (.tmp 32) (.const (.int i64 2)) 3,none),
 oA 50 51]:=by kernel_rfl
def ab3:bJ ND=[(some 5,.assign (.const (.int i64 0)),none)]:=by kernel_rfl
def ab2:bJ NC=[oM 52 5,
 (some 53,.binOp .lss 3 (.tmp 52) (.const (.int i64 12)) 3,none)]:=by kernel_rfl
def Xy:bJ Dr=[oM 56 0,
 oM 57 4,
 oM 58 0,
 oN 59 58,
 oF 60 59 59 1,
 oL 61 54 60,
 oM 62 4,
 oI 63 54 61 62,
 oL 64 52 63,
 oF 65 51 3 3,
 oF 66 49 65 8,
 oL 67 3 66,
 oC 68 15 #[(.tmp 64),(.tmp 67)] #[52,3],
 oC 69 14 #[(.tmp 56),(.tmp 57),(.tmp 68),(.const (.bool false))] #[24,3,75,4]]:=by kernel_rfl
def ab1:bJ NB=[oM 54 5,
 (some 55,.binOp .add 3 (.tmp 54) (.const (.int i64 1)) 3,none),
 oA 5 55]:=by kernel_rfl
def Oo:bJ Io=[(some 71,.binOp .eql 3 (.tmp 32) (.const (.int i64 3)) 3,none),
 oA 70 71]:=by kernel_rfl
def On:bJ Im=[(some 72,.binOp .eql 3 (.tmp 32) (.const (.int i64 4)) 3,none),
 oA 70 72]:=by kernel_rfl
def Om:bJ Il=[(some 73,.binOp .eql 3 (.tmp 32) (.const (.int i64 5)) 3,none),
 oA 70 73]:=by kernel_rfl
def Xx:bJ Ik=[(some 6,.assign (.const (.int i64 0)),none)]:=by kernel_rfl
def Xw:bJ Ij=[oM 74 6,
 oF 75 51 3 3,
 oF 76 49 75 4,
 oL 77 3 76,
 oC 78 8 #[(.tmp 77),(.const (.int i64 4))] #[3,3],
 (some 79,.binOp .add 3 (.const (.int i64 1)) (.tmp 78) 3,none),
 oB 80 .lss 3 74 79,
 oM 81 80,
 oM 82 0 (some (7,true)),
 oN 83 82 (some (7,true)),
 oF 84 59 83 3 (some (7,true)),
 oL 85 56 84 (some (7,true)),
 oE 86 85 56 (some (7,true)),
 (some 87,.binOp .gtr 3 (.tmp 86) (.const (.int i64 0)) 3,some (7,true)),
 oP 88 81 87 false]:=by kernel_rfl
def Xu:bJ Ii=[oF 91 51 3 3,
 oF 92 49 91 8,
 oL 93 3 92,
 oM 94 6,
 oB 95 .add 3 93 94,
 oM 96 0,
 oN 97 96,
 oF 98 59 97 3,
 oL 99 56 98,
 oE 100 99 56,
 oC 101 8 #[(.tmp 95),(.tmp 100)] #[3,3],
 oA 7 101]:=by kernel_rfl
def Xt:bJ Ih=[oM 102 0,
 oN 103 102,
 oF 104 59 103 3,
 oL 105 56 104,
 oM 106 7,
 oI 107 56 105 106,
 oL 108 49 107,
 (some 8,.alloc 49,none),
 oS 49 8 108]:=by kernel_rfl
def Xs:bJ Ig=[oF 109 51 3 3,
 oF 110 49 109 7,
 oL 111 4 110,
 (some 112,.unOp .not 4 (.tmp 111),none)]:=by kernel_rfl
def Xr:bJ Ie=[(some 9,.assign (.const (.slice none 0 0)),none)]:=by kernel_rfl
def Xq:bJ Ic=[oM 113 9,
 oM 114 0,
 oN 115 114,
 oF 116 59 115 3,
 oL 117 56 116,
 oM 118 7,
 (some 119,.slice 56 (.tmp 117) none (some (.tmp 118)) none,none),
 (some 120,.call {callee:=.builtin .append,args:=#[(.tmp 113),(.tmp 119)],argTypes:=#[56,56]},none),
 oA 9 120]:=by kernel_rfl
def Xp:bJ Ib=[oM 121 9,
 oM 122 0,
 oN 123 122,
 oF 124 59 123 3,
 oL 125 56 124,
 oM 126 7,
 (some 127,.binOp .add 3 (.tmp 126) (.const (.int i64 1)) 3,none),
 (some 128,.slice 56 (.tmp 125) (some (.tmp 127)) none none,none),
 (some 129,.call {callee:=.builtin .append,args:=#[(.tmp 121),(.tmp 128)],argTypes:=#[56,56]},none),
 oA 9 129]:=by kernel_rfl
def Xo:bJ Ia=[oM 130 0,
 oM 131 9,
 oN 132 130,
 oF 133 59 132 3,
 oS 56 133 131]:=by kernel_rfl
def Xn:bJ H9=[oF 134 49 8 2,
 oL 135 3 134,
 (some 136,.binOp .geq 3 (.tmp 135) (.const (.int i64 1)) 3,none),
 oM 137 136,
 oF 138 49 8 2 (some (3,true)),
 oL 139 3 138 (some (3,true)),
 oM 140 0 (some (3,true)),
 oN 141 140 (some (3,true)),
 oF 142 59 141 1 (some (3,true)),
 oL 143 54 142 (some (3,true)),
 oE 144 143 54 (some (3,true)),
 oB 145 .leq 3 139 144 (some (3,true)),
 oP 146 137 145 false]:=by kernel_rfl
def Xm:bJ H8=[oM 147 0,
 oF 148 49 8 2,
 oL 149 3 148,
 (some 150,.binOp .sub 3 (.tmp 149) (.const (.int i64 1)) 3,none),
 oM 151 0,
 oN 152 151,
 oF 153 59 152 1,
 oL 154 54 153,
 oF 155 49 8 2,
 oL 156 3 155,
 (some 157,.binOp .sub 3 (.tmp 156) (.const (.int i64 1)) 3,none),
 oI 158 54 154 157,
 oL 159 52 158,
 oL 160 49 8,
 oC 161 17 #[(.tmp 159),(.tmp 160)] #[52,49],
 oC 162 14 #[(.tmp 147),(.tmp 150),(.tmp 161),(.const (.bool false))] #[24,3,75,4]]:=by kernel_rfl
def Xv:bJ Dq=[oM 89 6,
 (some 90,.binOp .add 3 (.tmp 89) (.const (.int i64 1)) 3,none),
 oA 6 90]:=by kernel_rfl
def Ol:bJ H7=[(some 164,.binOp .eql 3 (.tmp 32) (.const (.int i64 6)) 3,none),
 oA 163 164]:=by kernel_rfl
def Xl:bJ H6=[oM 165 0,
 oN 166 165,
 oF 167 59 166 3,
 oL 168 56 167,
 oA 10 168]:=by kernel_rfl
def Xk:bJ H5=[oM 169 0,
 oN 170 169,
 oF 171 59 170 3,
 (none,.store 56 (.tmp 171) (.const (.slice none 0 0)),none)]:=by kernel_rfl
def Xj:bJ H4=[(some 11,.assign (.const (.int i64 0)),none)]:=by kernel_rfl
def Xi:bJ H3=[oM 172 11,
 oM 173 10,
 oE 174 173 56,
 oB 175 .lss 3 172 174]:=by kernel_rfl
def Xg:bJ H0=[oM 178 10,
 oM 179 11,
 oI 180 56 178 179,
 oF 181 49 180 2,
 oL 182 3 181,
 (some 183,.binOp .geq 3 (.tmp 182) (.const (.int i64 1)) 3,none),
 oM 184 183,
 oM 185 10 (some (6,true)),
 oM 186 11 (some (6,true)),
 oI 187 56 185 186 (some (6,true)),
 oF 188 49 187 2 (some (6,true)),
 oL 189 3 188 (some (6,true)),
 oM 190 0 (some (6,true)),
 oN 191 190 (some (6,true)),
 oF 192 59 191 1 (some (6,true)),
 oL 193 54 192 (some (6,true)),
 oE 194 193 54 (some (6,true)),
 oB 195 .leq 3 189 194 (some (6,true)),
 oP 196 184 195 false]:=by kernel_rfl
def Xf:bJ HZ=[oM 197 0,
 oM 198 10,
 oM 199 11,
 oI 200 56 198 199,
 oF 201 49 200 2,
 oL 202 3 201,
 (some 203,.binOp .sub 3 (.tmp 202) (.const (.int i64 1)) 3,none),
 oM 204 0,
 oN 205 204,
 oF 206 59 205 1,
 oL 207 54 206,
 oM 208 10,
 oM 209 11,
 oI 210 56 208 209,
 oF 211 49 210 2,
 oL 212 3 211,
 (some 213,.binOp .sub 3 (.tmp 212) (.const (.int i64 1)) 3,none),
 oI 214 54 207 213,
 oL 215 52 214,
 oM 216 10,
 oM 217 11,
 oI 218 56 216 217,
 oL 219 49 218,
 oC 220 17 #[(.tmp 215),(.tmp 219)] #[52,49],
 oC 221 14 #[(.tmp 197),(.tmp 203),(.tmp 220),(.const (.bool false))] #[24,3,75,4]]:=by kernel_rfl
def Xh:bJ H2=[oM 176 11,
 (some 177,.binOp .add 3 (.tmp 176) (.const (.int i64 1)) 3,none),
 oA 11 177]:=by kernel_rfl
def Xe:bJ HY=[(some 223,.binOp .eql 3 (.tmp 32) (.const (.int i64 7)) 3,none),
 oA 222 223]:=by kernel_rfl
def Xd:bJ HX=[oM 224 0,
 oN 225 224,
 oF 226 59 225 3,
 oL 227 56 226,
 oE 228 227 56,
 (some 229,.binOp .gtr 3 (.tmp 228) (.const (.int i64 0)) 3,none)]:=by kernel_rfl
def Xc:bJ HW=[oF 230 51 3 3,
 oF 231 49 230 8,
 oL 232 3 231,
 oM 233 0,
 oN 234 233,
 oF 235 59 234 3,
 oL 236 56 235,
 oE 237 236 56,
 oC 238 8 #[(.tmp 232),(.tmp 237)] #[3,3],
 oA 12 238]:=by kernel_rfl
def Xb:bJ HV=[(some 13,.assign (.const (.slice none 0 0)),none)]:=by kernel_rfl
def Xa:bJ HU=[oM 239 13,
 oM 240 0,
 oN 241 240,
 oF 242 59 241 3,
 oL 243 56 242,
 oM 244 12,
 (some 245,.slice 56 (.tmp 243) none (some (.tmp 244)) none,none),
 (some 246,.call {callee:=.builtin .append,args:=#[(.tmp 239),(.tmp 245)],argTypes:=#[56,56]},none),
 oA 13 246]:=by kernel_rfl
def W9:bJ HT=[oM 247 13,
 oM 248 0,
 oN 249 248,
 oF 250 59 249 3,
 oL 251 56 250,
 oM 252 12,
 (some 253,.binOp .add 3 (.tmp 252) (.const (.int i64 1)) 3,none),
 (some 254,.slice 56 (.tmp 251) (some (.tmp 253)) none none,none),
 (some 255,.call {callee:=.builtin .append,args:=#[(.tmp 247),(.tmp 254)],argTypes:=#[56,56]},none),
 oA 13 255]:=by kernel_rfl
def W8:bJ HS=[oM 256 0,
 oM 257 13,
 oN 258 256,
 oF 259 59 258 3,
 oS 56 259 257]:=by kernel_rfl
def W7:bJ HR=[(some 261,.binOp .eql 3 (.tmp 32) (.const (.int i64 8)) 3,none),
 oA 260 261]:=by kernel_rfl
def W6:bJ HQ=[(some 262,.binOp .eql 3 (.tmp 32) (.const (.int i64 9)) 3,none),
 oA 260 262]:=by kernel_rfl
def W5:bJ HP=[oF 263 51 3 3,
 oF 264 49 263 8,
 oL 265 3 264,
 (some 266,.build 34 #[(0,.tmp 265)],none),
 (some 267,.build 44 #[(0,.const (.int i64 3)),(3,.tmp 266)],none),
 (some 14,.alloc 44,none),
 oS 44 14 267]:=by kernel_rfl
def W4:bJ HO=[oF 268 51 3 4,
 oF 269 44 268 0,
 oL 270 3 269,
 (some 271,.binOp .eql 3 (.tmp 270) (.const (.int i64 2)) 3,none)]:=by kernel_rfl
def W2:bJ HN=[oM 287 0,
 oM 288 4,
 oL 289 75 17,
 oC 290 14 #[(.tmp 287),(.tmp 288),(.tmp 289),(.const (.bool false))] #[24,3,75,4]]:=by kernel_rfl
def W1:bJ HM=[(some 292,.binOp .eql 3 (.tmp 32) (.const (.int i64 10)) 3,none),
 oA 291 292]:=by kernel_rfl
def W0:bJ HL=[oM 293 0,
 oN 294 293,
 oF 295 59 294 1,
 oL 296 54 295,
 oM 297 4,
 oI 298 54 296 297,
 oL 299 52 298,
 oC 300 12 #[(.tmp 299)] #[52],
 (some 18,.alloc 67,none),
 oS 67 18 300]:=by kernel_rfl
def WZ:bJ HK=[oM 324 0,
 oM 325 4,
 oL 326 75 20,
 oC 327 14 #[(.tmp 324),(.tmp 325),(.tmp 326),(.const (.bool false))] #[24,3,75,4]]:=by kernel_rfl
def WY:bJ HJ=[(some 329,.binOp .eql 3 (.tmp 32) (.const (.int i64 11)) 3,none),
 oA 328 329]:=by kernel_rfl
def WX:bJ HI=[oM 330 4,
 (some 331,.binOp .add 3 (.tmp 330) (.const (.int i64 1)) 3,none),
 oM 332 0,
 oN 333 332,
 oF 334 59 333 0,
 oL 335 31 334,
 oM 336 0,
 oN 337 336,
 oF 338 59 337 2,
 oL 339 55 338,
 oM 340 4,
 oI 341 55 339 340,
 oL 342 65 341,
 oC 343 11 #[(.tmp 331),(.tmp 335),(.tmp 342)] #[3,31,65],
 oA 21 343]:=by kernel_rfl
def WW:bJ HH=[oM 344 21,
 (some 345,.binOp .eql 52 (.tmp 344) (.const (.pointer none)) 52,none)]:=by kernel_rfl
def WV:bJ HG=[oM 349 0,
 oN 350 349,
 oF 351 59 350 1,
 oL 352 54 351,
 oM 353 4,
 oM 354 21,
 oI 355 54 352 353,
 oS 52 355 354]:=by kernel_rfl
def WU:bJ HF=[oM 356 0,
 oM 357 4,
 oC 358 19 #[(.tmp 356),(.tmp 357)] #[24,3]]:=by kernel_rfl
def OM:fS Try.f10=(.seq (.region 0 Ts false) (.seq (.region 1 Tr true) (.seq (.region 2 Tq false) (.block 0 (.seq (.seq (.region 3 NH false) (.cond (.tmp 33) .skip (.region 4 NG false))) (.cond (.tmp 33) (.region 5 JQ true) (.seq (.region 6 NF false) (.cond (.tmp 50) (.seq (.region 7 ND false) (.block 1 (.loop (.seq (.seq (.region 8 NC false) (.cond (.tmp 53) .skip (.exit 1))) (.seq (.block 2 (.region 10 Dr true)) (.region 9 NB false)))))) (.seq (.seq (.region 11 Io false) (.cond (.tmp 70) .skip (.seq (.region 12 Im false) (.cond (.tmp 70) .skip (.region 13 Il false))))) (.cond (.tmp 70) (.seq (.region 14 Ik false) (.block 3 (.loop (.seq (.seq (.region 15 Ij false) (.cond (.tmp 88) .skip (.exit 3))) (.seq (.block 4 (.seq (.region 17 Ii true) (.seq (.region 18 Ih false) (.seq (.seq (.region 19 Ig false) (.cond (.tmp 112) (.seq (.region 20 Ie false) (.seq (.region 21 Ic false) (.seq (.region 22 Ib false) (.region 23 Ia false)))) .skip)) (.seq (.region 24 H9 true) (.cond (.tmp 146) (.region 25 H8 true) .skip)))))) (.region 16 Dq false)))))) (.seq (.region 26 H7 false) (.cond (.tmp 163) (.seq (.region 27 H6 false) (.seq (.region 28 H5 false) (.seq (.region 29 H4 false) (.block 5 (.loop (.seq (.seq (.region 30 H3 false) (.cond (.tmp 175) .skip (.exit 5))) (.seq (.block 6 (.seq (.region 32 H0 true) (.cond (.tmp 196) (.region 33 HZ true) .skip))) (.region 31 H2 false)))))))) (.seq (.region 34 HY false) (.cond (.tmp 222) (.seq (.region 35 HX false) (.cond (.tmp 229) (.seq (.region 36 HW true) (.seq (.region 37 HV false) (.seq (.region 38 HU false) (.seq (.region 39 HT false) (.region 40 HS false))))) .skip)) (.seq (.seq (.region 41 HR false) (.cond (.tmp 260) .skip (.region 42 HQ false))) (.cond (.tmp 260) (.seq (.region 43 HP false) (.seq (.seq (.region 44 HO false) (.cond (.tmp 271) (.region 45 Oy false) .skip)) (.seq (.region 46 kQ true) (.region 47 HN false)))) (.seq (.region 48 HM false) (.cond (.tmp 291) (.seq (.region 49 HL false) (.seq (.region 50 gj true) (.region 51 HK false))) (.seq (.region 52 HJ false) (.cond (.tmp 328) (.seq (.region 53 HI true) (.seq (.seq (.region 54 HH false) (.cond (.tmp 345) (.seq (.region 55 Ox false) .ret) .skip)) (.seq (.region 56 HG false) (.region 57 HF false)))) .skip)))))))))))))))))))):=by kernel_rfl
def Hl:Try.f10.body=some (fS Try.f10):=by kernel_rfl
def aaj:Try.f10.ntmps=359:=by kernel_rfl
def Su:Try.f10.results=#[]:=by kernel_rfl
def Ks(a:Tbd Tan)(w:Tam):(callFunc 10 a).run Try.prog w=.ok (.enter 10 a) w:=by
 unfold callFunc
 have b:Try.f10.name≠ "runtime.NumGoroutine" :=by decide+kernel
 simp[Try.func10,Hl,b]
def Tp:=bh 0 Try.f11
def To:=bh 1 Try.f11
def Tn:=bh 2 Try.f11
def NA:=bh 3 Try.f11
def acr:=bh 4 Try.f11
def Tm:=bh 5 Try.f11
def Tl:=bh 6 Try.f11
def acq:=bh 7 Try.f11
def Tk:=bh 8 Try.f11
def Tj:=bh 9 Try.f11
def XE:=bh 10 Try.f11
def Ov:=bh 11 Try.f11
def ab0:bJ Tp=[(some 4,.box 31 (.tmp 1),none),
 (some 5,.box 65 (.tmp 2),none),
 (some 6,.assign (.const (.pointer none)),none)]:=by kernel_rfl
def abZ:bJ To=[oM 13 0,
 oC 14 20 #[(.tmp 13),(.const (.int i64 1)),(.const (.int i64 5))] #[3,3,3],
 oM 15 14,
 oL 16 31 4 (some (2,true)),
 oC 17 21 #[(.tmp 16)] #[31] (some (2,true)),
 oP 18 15 17 false,
 oM 19 18,
 oF 20 65 5 0 (some (6,true)),
 oF 21 61 20 0 (some (6,true)),
 oL 22 3 21 (some (6,true)),
 oC 23 20 #[(.tmp 22),(.const (.int i64 0)),(.const (.int i64 1099511627776))] #[3,3,3] (some (6,true)),
 oP 24 19 23 false,
 oM 25 24,
 oF 26 65 5 0 (some (12,true)),
 oF 27 61 26 1 (some (12,true)),
 oL 28 3 27 (some (12,true)),
 oC 29 20 #[(.tmp 28),(.const (.int i64 0)),(.const (.int i64 1099511627776))] #[3,3,3] (some (12,true)),
 oP 30 25 29 false,
 oA 7 30]:=by kernel_rfl
def abY:bJ Tn=[oF 31 65 5 1,
 oF 32 63 31 0,
 oL 33 3 32,
 oF 34 65 5 1,
 oF 35 63 34 1,
 oL 36 3 35,
 oC 37 22 #[(.tmp 33),(.tmp 36)] #[3,3],
 oA 8 37]:=by kernel_rfl
def abX:bJ NA=[oM 38 7,
 (some 39,.unOp .not 4 (.tmp 38),none),
 oM 40 39,
 oM 41 8 (some (2,false)),
 (some 42,.binOp .eql 90 (.tmp 41) (.const (.pointer none)) 90,some (2,false)),
 (some 43,.pick (.tmp 40) (.const (.bool true)) (.tmp 42),none),
 oM 44 43,
 oF 45 65 5 1 (some (6,false)),
 oF 46 63 45 0 (some (6,false)),
 oL 47 3 46 (some (6,false)),
 (some 48,.binOp .gtr 3 (.tmp 47) (.const (.int i64 0)) 3,some (6,false)),
 oM 49 48 (some (6,false)),
 oF 50 65 5 1 (some (11,true)),
 oF 51 63 50 2 (some (11,true)),
 oL 52 31 51 (some (11,true)),
 oC 53 21 #[(.tmp 52)] #[31] (some (11,true)),
 (some 54,.unOp .not 4 (.tmp 53),some (11,true)),
 oM 55 54 (some (11,true)),
 oF 56 65 5 1 (some (17,false)),
 oF 57 63 56 3 (some (17,false)),
 oL 58 27 57 (some (17,false)),
 oE 59 58 27 (some (17,false)),
 oC 60 20 #[(.tmp 59),(.const (.int i64 1)),(.const (.int i64 1048576))] #[3,3,3] (some (17,false)),
 (some 61,.unOp .not 4 (.tmp 60),some (17,false)),
 (some 62,.pick (.tmp 55) (.const (.bool true)) (.tmp 61),some (11,true)),
 oP 63 49 62 false (some (6,false)),
 (some 64,.pick (.tmp 44) (.const (.bool true)) (.tmp 63),none)]:=by kernel_rfl
def abW:bJ Tm=[oM 66 8,
 oF 67 65 5 1,
 oF 68 63 67 0,
 oL 69 3 68,
 oF 70 65 5 1,
 oF 71 63 70 1,
 oL 72 3 71,
 oF 73 65 5 2,
 oL 74 28 73,
 oC 75 23 #[(.tmp 66),(.tmp 69),(.tmp 72),(.tmp 74)] #[90,3,3,28],
 oM 65 75,
 (some 76,.extract (.tmp 65) 0,none),
 (some 77,.extract (.tmp 65) 1,none),
 oA 9 76,
 oA 10 77]:=by kernel_rfl
def abV:bJ Tl=[oM 78 10,
 (some 79,.unOp .not 4 (.tmp 78),none),
 oM 80 79,
 oF 81 65 5 2 (some (2,false)),
 oL 82 28 81 (some (2,false)),
 oC 83 24 #[(.tmp 82)] #[28] (some (2,false)),
 (some 84,.unOp .not 4 (.tmp 83),some (2,false)),
 (some 85,.pick (.tmp 80) (.const (.bool true)) (.tmp 84),none)]:=by kernel_rfl
def abU:bJ Tk=[oM 87 8,
 oC 88 25 #[(.tmp 87)] #[90],
 oM 86 88,
 (some 89,.extract (.tmp 86) 0,none),
 (some 90,.extract (.tmp 86) 1,none),
 oA 11 89,
 oA 12 90]:=by kernel_rfl
def abT:bJ Tj=[oM 91 12,
 oF 92 65 5 0,
 oF 93 61 92 0,
 oL 94 3 93,
 oB 95 .gtr 3 91 94]:=by kernel_rfl
def XV:fS Try.f11=(.seq (.region 0 Tp false) (.seq (.region 1 To false) (.seq (.region 2 Tn false) (.seq (.seq (.region 3 NA false) (.cond (.tmp 64) (.seq (.region 4 acr false) .ret) .skip)) (.seq (.seq (.region 5 Tm false) (.seq (.region 6 Tl false) (.cond (.tmp 85) (.seq (.region 7 acq false) .ret) .skip))) (.seq (.seq (.region 8 Tk false) (.seq (.region 9 Tj false) (.cond (.tmp 95) (.seq (.region 10 XE false) .ret) .skip))) (.seq (.region 11 Ov true) .ret))))))):=by kernel_rfl
def Of:Try.f11.body=some (fS Try.f11):=by kernel_rfl
def afS:Try.f11.ntmps=110:=by kernel_rfl
def aa1:Try.f11.results=#[.tmp 6]:=by kernel_rfl
def Kq(a:Tbd Tan)(w:Tam):(callFunc 11 a).run Try.prog w=.ok (.enter 11 a) w:=by
 unfold callFunc
 have b:Try.f11.name≠ "runtime.NumGoroutine" :=by decide+kernel
 simp[Try.func11,Of,b]
def NN:List ((Nat×Nat)×Nat):=[((31,0),0),((31,1),1),((44,0),0),((49,2),2),((49,3),3),((49,4),4),((49,7),7),((49,8),8),((51,0),0),((51,1),1),((51,3),3),((51,4),49),((59,0),0),((59,1),2),((59,2),3),((59,3),4),((59,4),5),((59,5),6),((59,6),7),((59,7),8),((59,9),10),((61,0),0),((61,1),1),((63,0),0),((63,1),1),((63,2),2),((63,3),4),((65,0),0),((65,1),2),((65,2),7),((67,0),0),((67,1),1),((67,2),2),((67,3),4),((67,4),5),((67,5),6),((75,0),0),((75,1),1),((75,2),3),((75,3),4),((75,4),5),((75,5),6),((78,0),0),((78,1),1),((78,2),2)]
def acJ:(NN.all fun x=>(lF Try.prog x.1.1 x.1.2).map (fun y=>(y.1.offset,decide (0<y.2)))==some (x.2,true))=true:=by kernel_rfl
def agh{t f off:Nat}(h:lk NN (t,f)=some off):(lF Try.prog t f).map (fun y=>(y.1.offset,decide (0<y.2)))=some (off,true):=by have:=bY.1 acJ _ (iL h);simpa using this
end
attribute [local irreducible] TL
def Sq:Tah:=[22,27,28,29,54,56]
def aaO:(Sq.all fun t=>slB Try.prog t)=true:=by kernel_rfl
def aao(m:Tab)(f:Callee):List Tbb->List Tba->Tao Tan
 | [x],[t]=>match f with
  |.builtin .len=>match mD m x with
   |some (.slice _ nn _)=>if Sq.contains t then some (.int i64 nn) else none
   |_=>none
  |_=>none
 |_,_=>none
def smV(m:Tab):Op->Tao Tan
 |.move x=>mD m x
 |.assign x=>mD m x
 |.nilCheck x=>match mD m x with
  |some (.pointer (some ad))=>some (.pointer (some ad))
  |_=>none
 |.fieldAddr t x fl=>match mD m x with
  |some (.pointer (some ⟨b,o,none⟩))=>match lk NN (t,fl) with
   |some off=>some (.pointer (some ⟨b,o+off,none⟩))
   |none=>none
  |_=>none
 |.call c=>aao m c.callee c.args.toList c.argTypes.toList
 |_=>none
section
variable{ops:Tad}{Q:Iv}{S:Tae}{n n0 i d:Nat}{a:Act}{w:Tam}{m:Tab}{gd:Tao (Nat×Bool)}{L r:List OK}{v:Tan}{x:Tbb}
def sm{op:Op}{b:Bool}(k:Kn n a m)(h:∀y,Kn n y ((d,v)::m)->TL Try.prog ops Q S n0 L r (i+1) y w)(l:S w:=by assumption)(g:rq L m gd=some b:=by rfl)(j:d<n:=by decide)(e:(match b with|true=>smV m op|false=>some undef)=some v:=by rfl):TL Try.prog ops Q S n0 L ((some d,op,gd)::r) i a w:=by
 cases b with
 |false=>injection e with e;subst e;exact aeR k l g j h
 |true=>
 replace e:smV m op=some v:=e;unfold smV at e;split at e
 .exact Qx k l g j e h
 .exact xl k l g j e h
 .split at e
  .rename_i o;injection e with e;subst e;exact Wj k l g j o h
  cases e
 .split at e
  .rename_i o;split at e
   .rename_i q;injection e with e;subst e;exact aaL k l g j o (agh q) h
   cases e
  cases e
 .rename_i c;obtain⟨f,⟨A⟩,⟨z⟩⟩:=c;unfold aao at e;split at e
  .rename_i x t D C;split at e
   .rename_i q;split at e
    .rename_i o;split at e
     .rename_i B;injection e with e;subst e;have u:A=[x]:=D;have s:z=[t]:=C;have p:f=.builtin .len:=q;subst u s p;exact Hi k l g j o (bY.1 aaO t (by simpa using B)) h
     cases e
    cases e
   cases e
  cases e
 cases e
def ld{t:Tba}{c:Addr}(k:Kn n a m)(o:∀b,S b->b.cell? c=some v)(h:∀e,Kn n e ((d,v)::m)->TL Try.prog ops Q S n0 L r (i+1) e w)(q:S w:=by assumption)(j:rq L m gd=some true:=by rfl)(l:d<n:=by decide)(f:mD m x=some (.pointer (some c)):=by rfl)(p:jd Try.prog t=false:=by kernel_rfl)(g:(Try.prog.underlying t).isSome=true:=by kernel_rfl):TL Try.prog ops Q S n0 L ((some d,.load t x,gd)::r) i a w:=ky k q j l f p g o h
def pk{y z:Tbb}{c:Bool}(k:Kn n a m)(f:mD m x=some (.bool c))(e:mD m (if c then y else z)=some v)(h:∀b,Kn n b ((d,v)::m)->TL Try.prog ops Q S n0 L r (i+1) b w)(l:S w:=by assumption)(g:rq L m gd=some true:=by rfl)(j:d<n:=by decide):TL Try.prog ops Q S n0 L ((some d,.pick x y z,gd)::r) i a w:=Qw k l g j f e h
def cm{y:Tbb}{t t2:Tba}{b:BinOp}{kk:IntKind}{p q:Int}{c:Bool}(k:Kn n a m)(g:mD m x=some (.int kk p))(f:mD m y=some (.int kk q))(o:Hd b p q=some c)(h:∀e,Kn n e ((d,.bool c)::m)->TL Try.prog ops Q S n0 L r (i+1) e w)(s:S w:=by assumption)(j:rq L m gd=some true:=by rfl)(l:d<n:=by decide):TL Try.prog ops Q S n0 L ((some d,.binOp b t x y t2,gd)::r) i a w:=Wl k s j l g f o h
def lN{t:Tba}{b off nn:Nat}{vs:Tac}(k:Kn n a m)(f:mD m x=some (.pointer (some ⟨b,off,none⟩)))(l:vs.length=nn)(q:∀c,S c->∀(j:Nat) v,vs[j]?=some v->c.cell? ⟨b,off+j,none⟩=some v)(h:∀e,Kn n e ((d,.agg vs.toArray)::m)->TL Try.prog ops Q S n0 L r (i+1) e w)(u:S w:=by assumption)(o:rq L m gd=some true:=by rfl)(p:d<n:=by decide)(g:iy Try.prog t=some nn:=by kernel_rfl)(s:jd Try.prog t=true:=by kernel_rfl):TL Try.prog ops Q S n0 L ((some d,.load t x,gd)::r) i a w:=Wk k u o p f g s l q h
def wQ{y:Tbb}{t el:Tba}{b nn e sz s:Nat}{kk:IntKind}(k:Kn n a m)(j:mD m x=some (.slice (some ⟨b,0,none⟩) nn e))(g:mD m y=some (.int kk (s:Int)))(u:s<nn)(h:∀f,Kn n f ((d,.pointer (some ⟨b,s*sz,none⟩))::m)->TL Try.prog ops Q S n0 L r (i+1) f w)(q:S w:=by assumption)(o:rq L m gd=some true:=by rfl)(p:d<n:=by decide)(l:Try.prog.underlying t=some (.slice el):=by kernel_rfl)(c:iy Try.prog el=some sz:=by kernel_rfl):TL Try.prog ops Q S n0 L ((some d,.indexAddr t x y,gd)::r) i a w:=Db k q o p j g l c u h
def rg{id:Nat}{b:Bool}{f:Iv}(X:Tai)(l:QP Q)(g:bJ ops=L)(h:∀e,vm w e->TL Try.prog ops f (SX X e) 0 L L 0 a e)(j:b=true->tOk ops 0=true:=by decide)(k:∀c a w,f (.panic c) a w=Q (.panic c) a w:=by intro _ _ _;rfl):(Code.region id ops b).wp Try.prog f a w:=
 jy 0 X mix (fun c a d v w h=>by rw[k]at h⊢;exact l c a d v w h) g j h
end
def eK(l:Taf)(n:Int):Taf:=l++List.replicate (n+1-l.length).toNat (.int i64 0)
def GB{l:Taf}{n:Int}(h:(l.length:Int)<=n):eK (l++[.int i64 0]) n=eK l n:=by unfold eK;rw[dP,ai,aW];congr 1;rw[show(n+1-(l.length:Int)).toNat=(n+1-((l.length+1:Nat):Int)).toNat+1 by omega,List.replicate_succ];rfl
def GC{l:Taf}{n:Int}(h:n<(l.length:Int)):eK l n=l:=by unfold eK;rw[show(n+1-(l.length:Int)).toNat=0 by omega];simp
def LM:I6.bytes=8:=rfl
def nK{n:Nat}(h:n<=100000000):nh I6 n:=by refine⟨by simp only[maxLen];omega,?_⟩;rw[LM];omega
def yf{w:Tam}{S:bE}{ow:Ow}{iw:Nat}{v:Tan}{l:Taf}{n:Int}(h:dB w S ow iw 3 I6 v l)(C:Wf w S ow)(h0:0<=n)(hn:n<=1000000)(E:l.length<=2000000):
  Calls Try.prog 54 [v,.int i64 n].toArray w fun e w'=>∃B g,e=.returned B/\bD (iI iw) aB w S ow w' S g/\Wf w' S g/\dB w' S g iw 3 I6 B (eK l n)/\(eK l n).length<=2000001:=by
 refine kD Try.func54 N9 XQ afN (by show 2<=13;omega) ?_;intro a k;have Q:=jD (P:=Try.prog) (fn:=Try.f54) (R:=fun e w'=>∃B g,e=.returned B/\bD (iI iw) aB w S ow w' S g/\Wf w' S g/\dB w' S g iw 3 I6 B (eK l n)/\(eK l n).length<=2000001);refine wp_seq (rg aB Q abe ?_);intro I r;have O:=SX.refl aB I
 repeat refine sm k fun a k=>?_
 refine ay ?_;have i:=bD.O r (iI iw) aB S ow;have f:Wf I S ow:=⟨fun b o G=>by rw[r.heap];exact C.s b o G,fun b l E=>by rw[r.heap];exact C.o b l E,C.d⟩;have h1:=h.J C (bD.O r aB aB S ow) (fun h=>h)
 refine wp_seq (wp_block (wp_loop_ghost (fun m a W=>∃U t ko,m=(n+1-(t.length:Int)).toNat/\Kn 13 a [(0,U),(1,.int i64 n)]/\bD (iI iw) aB w S ow W S ko/\Wf W S ko/\dB W S ko iw 3 I6 U t/\eK t n=eK l n/\t.length<=2000001) (n+1-(l.length:Int)).toNat
  ⟨v,l,ow,rfl,k.sb,i,f,h1,rfl,by omega⟩ ?_))
 clear k i f h1 O r I;rintro m a W ⟨U,t,ko,rfl,k,P7,KG,ho,hg,hlen⟩;obtain⟨A,a1,rfl⟩:=ho.slice;refine wp_seq (wp_seq (rg aB Q abd ?_));intro I r;have O:=SX.refl aB I
 repeat refine sm k fun a k=>?_
 refine cm (c:=decide ((t.length:Int)<=n)) k rfl rfl rfl fun a k=>?_;refine ay ?_;have i:=P7.CW C KG (bD.O r (iI iw) aB S ko) nE;have f:Wf I S ko:=⟨fun b o G=>by rw[r.heap];exact KG.s b o G,fun b l E=>by rw[r.heap];exact KG.o b l E,KG.d⟩;have N:=ho.J KG (bD.O r aB aB S ko) (fun h=>h);refine bf k rfl ?_;by_cases y:(t.length:Int)<=n
 .rw[if_pos (by simpa using y)];refine wp_skip ?_;refine wp_block (rg (fun b=>ko b=some iw) Q abc ?_);intro F z;have O:=SX.refl (fun b=>ko b=some iw) F;have x:Wf F S ko:=⟨fun b o G=>by rw[z.heap];exact f.s b o G,fun b l E=>by rw[z.heap];exact f.o b l E,f.d⟩;have H:=N.J f (bD.O z aB aB S ko) (fun h=>h);have q:=i.CW C f (bD.O z (iI iw) aB S ko) nE
  repeat refine sm k fun a k=>?_
  refine mn (kk:=1) (T:=3) k (by decide) rfl (by decide) rfl (by kernel_rfl) rfl (fun _=>SX.alloc _ _ _) fun a k=>?_;obtain⟨L,J⟩:=bD.alloc x (.cells (Value.int i64 0).cells 3);have Y:=H.J x L (fun h=>h);refine nk k (by decide) rfl (by decide) fun ty a0 af=>?_
  obtain⟨B,w',M,g,p,V,X⟩:=Y.E0 (P:=Try.prog) (tt:=29) (by kernel_rfl) rfl J ty F.heap.size (d:=.int i64 0) ⟨0,rfl,by decide⟩ (us:=[.int i64 0]) rfl (heap_alloc_new F _) (by
   intro j u c K y
   match j,K,y with
   |0,K,y=>injection K with K;injection y with y;subst K y;exact .int _ _) (nK (by omega))
  refine⟨B,w',ic (k.op rfl) (k.op rfl) M,fun _=>(SX.alloc _ _ _).trans (SX.iw (fun _ h=>h) p),fun a k=>?_⟩;have s1:SX (fun b=>ko b=some iw) F w':=(SX.alloc _ _ _).trans (SX.iw (fun _ h=>h) p)
  repeat refine sm k fun a k=>?_
  refine ay ?_;refine⟨_,?_,B,t++[.int i64 0],g,rfl,k.sb,q.CW C x (bD.trN x J L p nE) nE,V,X,(GB y).trans hg,by rw[ai,aW];omega⟩;rw[ai,aW];omega
 rw[if_neg (by simpa using y)];refine wp_exit ?_;refine wp_seq (rg aB Q abb ?_);intro F z;have O:=SX.refl aB F
 repeat refine sm k fun a k=>?_
 refine ay ?_;have q:=i.CW C f (bD.O z (iI iw) aB S ko) nE;have Z:=GC (l:=t) (n:=n) (by omega);have H:=N.J f (bD.O z aB aB S ko) (fun h=>h);refine wp_ret (r9 aaX k rfl ⟨_,ko,rfl,q,⟨fun b o G=>by rw[z.heap];exact f.s b o G,fun b l E=>by rw[z.heap];exact f.o b l E,f.d⟩,?_,?_⟩).1
 .rw[<-hg,Z];exact H
 rw[<-hg,Z];exact hlen
def cG(g:GS)(i:Nat):RS:=g.ew.getD i dN
def iC(l:Taf)(i:Nat):Int:=(l.getD i .top).q
def Fb(i:Nat)(x:RS)(g:GS):GS:=
 let ld:=eK g.bG x.term;let a:=iC ld x.term.toNat
 {g with bG:=ld.set x.term.toNat (.int i64 (i+1)),bad:=g.bad||(a !=0&&a !=(i+1:Int))}
def pM(i:Nat)(x:RS)(g:GS):GS:=
 let l:=eK (g.aX.getD i []) x.term;let a:=iC l x.term.toNat
 {g with aX:=g.aX.set i (l.set x.term.toNat (.int i64 x.vote)),bad:=g.bad||(a !=0&&x.vote !=a)}
def kB(i:Nat)(g:GS):GS:=
 let x:=cG g i
 if x.term<iC g.cO i\/5000<x.term then{g with bad:=g.bad||decide (x.term<iC g.cO i)}
 else
  let a:=pM i x {g with cO:=g.cO.set i (.int i64 x.term)}
  if x.role=2 then Fb i x a else a
def LG(l:Nat):Prop:=l<60\/100<=l
structure uI(g:GS):Prop where
 n5:g.ew.length<=5
 cO:g.cO.length=g.ew.length
 aX:g.aX.length=g.ew.length
 saved:g.saved.length=g.ew.length
 lead:g.bG.length<=2000000
 vl:∀l∈g.aX,l.length<=2000000
def XI{d:D}(h:Has I6 d):d=.int i64 d.q/\jX i64 d.q:=by obtain⟨n,rfl,a⟩:=h;exact⟨rfl,a⟩
def wy{l:Taf}(h:∀x∈l,Has I6 x){i:Nat}(hi:i<l.length):l[i]?=some (.int i64 (iC l i)):=by have e:l[i]?=some l[i]:=aS hi;obtain⟨a,_⟩:=XI (h _ (bQ e));rw[e];unfold iC;rw[ae,e,bz];exact congrArg some a
def GM.zh{w:Tam}{S:bE}{ow:Ow}{b:Nat}{R:GR}{g:GS}{c:Bool}(h:GM w S ow b (R.cells c) R g)(v:Bool):bD (iI 0) aB w S ow (w.setRow b ((R.cells c).set 10 (.bool v)).toArray) S ow/\GM (w.setRow b ((R.cells c).set 10 (.bool v)).toArray) S ow b (R.cells v) R {g with bad:=v}:=by obtain⟨d,f,e⟩:=h.obj.set h.wf (us:=(R.cells c).set 10 (.bool v));have:=h.setObj d f e;exact⟨d,this.wf,this.obj,this.fv,this.fl,this.arr,this.rn,this.ew,this.saved,this.net,this.told,this.bG,this.cO,this.read,this.oH,this.xH,this.pD⟩
def rD(w:Tam)(S:bE)(ow:Ow)(b:Nat)(g':GS)(e:Ending)(w':Tam):Prop:=∃d c,e=.returned (.tuple #[])/\bD LG aB w S ow w' d c/\kv w' d c b g'
def FG(w:Tam)(S:bE)(ow:Ow)(b:Nat)(g':GS):Iv:=bodyPost Try.prog Try.f19 (rD w S ow b g')
def G0(x:RS)(v1 v2:Tan):Tac:=[.int i64 x.role,.int i64 x.bG,.int i64 x.term,.int i64 x.vote,.int i64 x.bB,.int i64 (x.li+x.le.length),.int i64 x.li,v1,v2]
section
variable{w0 w:Tam}{S0 S:bE}{kG ow:Ow}{b b4 i:Nat}{g0 g g':GS}{R:GR}{x:RS}{v1 v2:Tan}{Q:Iv}{a:Act}
def FF(G:QP Q)(j:∀a w,FG w0 S0 kG b g' .ret a w->Q .ret a w)(f:Wf w0 S0 kG)(A:bD LG aB w0 S0 kG w S ow)(t:GM w S ow b (R.cells g.bad) R g)(p:R.la=R.lb)(o:R.va=R.vv)(B:fF w S ow b4 67 (G0 x v1 v2))(l:i<g.cO.length)(F:g'={g with bad:=g.bad||decide (x.term<iC g.cO i)})(k:Kn 160 a [(4,.pointer (some ⟨b4,0,none⟩)),(0,aI b),(1,.int i64 i)]):
  (Code.seq (.region 2 JO true) .ret).wp Try.prog Q a w:=by
 have D:=wy (fun y C=>t.cO.all y C) l;refine wp_seq (jy (n0:=18) aB mix (by exact G) abw (fun _=>by kernel_rfl) ?_);intro w1 u;have d:=t.O u;have e:=B.O u;have n:=A.Y f t.wf u;have J:=SX.refl aB w1;obtain⟨K,v,s,r,E,q⟩:=dB.wx d.cO D
 repeat (first|refine sm k fun a k=>?_|refine ld k (e.cell id rfl) fun a k=>?_|refine ld k (d.cell id rfl) fun a k=>?_)
 have m:∀(z:List OK) (a:Act),Kn 160 a [(51,.pointer (some ⟨b,10,none⟩)),(49,.bool (g.bad||decide (x.term<iC g.cO i)))]->TL Try.prog JO (Exit.then (Code.wp Try.prog Code.ret Q) Q) (SX aB w1) 18 z [oS 4 51 49] 20 a w1:=by intro z a k;refine jw (cur:=R.cells g.bad) k (by decide) rfl (by kernel_rfl) rfl rfl rfl d.obj.heap (by show 10<11;omega) rfl (fun h=>absurd rfl h) fun a k=>?_;refine ay (wp_ret (j _ _ (mb MW k ?_).1));obtain⟨I,H⟩:=d.zh (g.bad||decide (x.term<iC g.cO i));exact⟨S,ow,rfl,n.eY f d.wf I (.inl (by decide)),R,by rw[F];exact H,p,o⟩
 cases hb:g.bad with
 |true=>
  rw[hb]at k
  repeat (first|refine sm k fun a k=>?_|refine ld k (e.cell id rfl) fun a k=>?_|refine ld k (d.cell id rfl) fun a k=>?_)
  refine pk k rfl rfl fun a k=>?_
  repeat (first|refine sm k fun a k=>?_|refine ld k (e.cell id rfl) fun a k=>?_|refine ld k (d.cell id rfl) fun a k=>?_)
  refine m _ a (k.sub ⟨rfl,?_,trivial⟩);rw[hb];rfl
 |false=>
  rw[hb]at k
  repeat (first|refine sm k fun a k=>?_|refine ld k (e.cell id rfl) fun a k=>?_|refine ld k (d.cell id rfl) fun a k=>?_)
  rw[s]at k;refine wQ (el:=3) (sz:=1) k rfl rfl l fun a k=>?_;refine ld k (eP r (fun h=>h) q) fun a k=>?_;refine cm (c:=decide (x.term<iC g.cO i)) k rfl rfl rfl fun a k=>?_;refine pk k rfl rfl fun a k=>?_
  repeat (first|refine sm k fun a k=>?_|refine ld k (e.cell id rfl) fun a k=>?_|refine ld k (d.cell id rfl) fun a k=>?_)
  refine m _ a (k.sub ⟨rfl,?_,trivial⟩);rw[hb];rfl
end
def jt{n:Int}(e:0<=n)(h:n<=4000000000000000000):jX i64 n:=by
 have d:i64.min=-9223372036854775808:=by decide
 have c:i64.max=9223372036854775807:=by decide
 exact⟨by rw[d];omega,by rw[c];omega⟩
def FP{l:Taf}{n:Int}(h:0<=n):n.toNat<(eK l n).length:=by unfold eK;rw[ai,List.length_replicate];omega
def DK{n:Int}:∀(j:Nat) u c,[Value.int i64 n][j]?=some u->(D.int i64 n).cells[j]?=some c->∀{w:Tam} {S:bE},cg w S u c:=by
 intro j u c d e w S
 match j,d,e with
 |0,d,e=>injection d with d;injection e with e;subst d e;exact .int _ _
section
variable{w0 w:Tam}{S0 S:bE}{kG ow:Ow}{b b4 i:Nat}{g0 g g':GS}{R:GR}{x:RS}{v1 v2:Tan}{Q:Iv}{a:Act}
def Lv(hQ:QP Q)(a0:∀a w,FG w0 S0 kG b g' .normal a w->Q .normal a w)(m:Wf w0 S0 kG)(st:bD LG aB w0 S0 kG w S ow)(K:GM w S ow b (R.cells g.bad) R g)(b6:R.la=R.lb)(b2:R.va=R.vv)(lx:fF w S ow b4 67 (G0 x v1 v2))(H:0<=x.term)(b9:x.term<=5000)(b5:g.bG.length<=2000000)(hi:i<5)(hg:g'=Fb i x g)(k:Kn 160 a [(4,.pointer (some ⟨b4,0,none⟩)),(0,aI b),(1,.int i64 i)]):
  (Code.seq (.region 10 Dm true) (.seq (.region 11 Dl true) (.seq (.seq (.region 12 Dk false) (.cond (.tmp 146) (.region 13 Dj false) .skip)) (.region 14 zN true)))).wp Try.prog Q a w:=by
 refine wp_seq (jy (n0:=8) (fun bb=>ow bb=some 13) mix (by exact hQ) WJ (fun _=>by kernel_rfl) ?_);intro w1 e1;have p:=K.O e1;have G:=lx.O e1;have a9:=st.Y m K.wf e1;have M:=SX.refl (fun bb=>ow bb=some 13) w1;have T:¬ow b=some 13:=by rw[p.obj.ow];decide
 have U:¬ow b4=some 13:=by rw[G.ow];decide
 repeat (first|refine sm k fun a k=>?_|refine ld k (G.cell U rfl) fun a k=>?_|refine ld k (p.cell T rfl) fun a k=>?_)
 refine gV (vs:=[R.bG,.int i64 x.term]) k (by decide) rfl (by decide) Km rfl (yf p.bG p.wf H (by omega) b5) ?_;rintro e w2 ⟨v',bT,rfl,nf,ud,Mm,hlen⟩;obtain⟨Av,cv,Z⟩:=Mm.slice;refine⟨_,rfl,fun _=>SX.iw (fun _ h=>h) nf,fun a k=>?_⟩;have s1:=SX.iw (X:=fun bb=>ow bb=some 13) (fun _ h=>h) nf;have C:=p.AY nf ud Mm;have P:=G.J nf id;have E:=a9.eY m p.wf nf (.inl (by decide))
 repeat refine sm k fun a k=>?_
 refine jw (cur:=R.cells g.bad) k (by decide) rfl (by kernel_rfl) rfl rfl (by rw[Z];rfl) C.obj.heap (by show 6<11;omega) (by rw[Z];rfl) (fun h=>absurd rfl h) fun a k=>?_;refine ay ?_;obtain⟨v,Y,a2⟩:=C.obj.set ud (us:=(R.cells g.bad).set 6 v');have B:GM _ S bT b ({R with bG:=v'}.cells g.bad) {R with bG:=v'} {g with bG:=eK g.bG x.term}:=C.setObj v Y a2;have O:=P.J v id;have D:=E.eY m ud v (.inl (by decide));have k:=k.sb (l:=[(4,.pointer (some ⟨b4,0,none⟩)),(0,aI b),(1,.int i64 i)]);generalize w2.setRow b _=w3 at B O D⊢;clear v Y a2 E P C s1 nf ud Mm M T U;have z:=FP (l:=g.bG) H;have b7:=wy (fun y hy=>B.bG.all y hy) z;have hN:((x.term.toNat:Nat):Int)=x.term:=Int.toNat_of_nonneg H;refine wp_seq (jy (n0:=9) aB mix (by exact hQ) WI (fun _=>by kernel_rfl) ?_);intro w4 e4;have A:=B.O e4;have N:=O.O e4;have a8:=D.Y m B.wf e4;have M:=SX.refl aB w4
 repeat (first|refine sm k fun a k=>?_|refine ld k (N.cell id rfl) fun a k=>?_|refine ld k (A.cell id rfl) fun a k=>?_)
 obtain⟨bt,a6,o,I,a1,a5⟩:=dB.wx A.bG b7;rw[show({R with bG:=v'}:GR).bG=v' from rfl]at o;rw[<-hN]at k;rw[o]at k;refine wQ (el:=3) (sz:=1) k rfl rfl z fun a k=>?_;refine ld k (eP I (fun h=>h) a5) fun a k=>?_
 repeat refine sm k fun a k=>?_
 refine ay ?_;have k:=k.sb (l:=[(6,.int i64 (iC (eK g.bG x.term) x.term.toNat)),(4,.pointer (some ⟨b4,0,none⟩)),(0,aI b),(1,.int i64 i)]);generalize V:iC (eK g.bG x.term) x.term.toNat=n at k;clear o I a1 a5;have F:i64.wrap ((i:Int)+1)=i+1:=wrap64 (by omega) (by omega)
 have last:∀(a:Act) (W:Tam) (c:Bool) (K:GM W S bT b ({R with bG:=v'}.cells c) {R with bG:=v'} {g with bG:=eK g.bG x.term,bad:=c}) (lx:fF W S bT b4 67 (G0 x v1 v2)) (st:bD LG aB w0 S0 kG W S bT),
   c=(g.bad||(n !=0&&n !=(i+1:Int)))->Kn 160 a [(4,.pointer (some ⟨b4,0,none⟩)),(0,aI b),(1,.int i64 i)]->(Code.region 14 zN true).wp Try.prog Q a W:=by
  intro a W c K lx st hc k;refine jy (n0:=10) aB mix hQ WE (fun _=>by kernel_rfl) ?_;intro w5 J;have f:=K.O J;have r:=lx.O J;have q:=st.Y m K.wf J;have M:=SX.refl aB w5
  repeat (first|refine sm k fun a k=>?_|refine ld k (r.cell id rfl) fun a k=>?_|refine ld k (f.cell id rfl) fun a k=>?_)
  refine iK (s:=(i:Int)+1) k (by assumption) rfl (by decide) rfl rfl F fun a k=>?_;obtain⟨bt,a6,b8,o,a4,a3,I,a1,L,b1,b3⟩:=f.bG.set (i:=x.term.toNat) (d:=.int i64 (i+1)) (us:=[.int i64 (i+1)]) f.wf z ⟨_,rfl,jt (by omega) (by omega)⟩ rfl (fun j u c h1 h2=>DK j u c h1 h2);rw[show({R with bG:=v'}:GR).bG=v' from rfl]at o;rw[<-hN]at k;rw[o]at k;refine wQ (el:=3) (sz:=1) k rfl rfl z fun a k=>?_;refine ln (vs:=[.int i64 (i+1)]) (cur:=b8) k (by decide) rfl (by kernel_rfl) rfl rfl rfl a4 a3 (by simp[Value.oneCell']) (fun h=>absurd rfl h) fun a k=>?_;refine ay (a0 _ _ (mb MW k ?_).2);have t:=f.AY L b1 b3;refine⟨S,bT,rfl,q.eY m f.wf L (.inl (by decide)),{R with bG:=v'},?_,b6,b2⟩;rw[hg]
  have:Fb i x g={g with bG:=(eK g.bG x.term).set x.term.toNat (.int i64 (i+1)),bad:=c}:=by unfold Fb;simp only;rw[V,hc]
  rw[this];exact t
 refine wp_seq (wp_seq (rg aB hQ WH ?_));intro w5 J;have f:=A.O J;have r:=N.O J;have q:=a8.Y m A.wf J;have M:=SX.refl aB w5
 repeat refine sm k fun a k=>?_
 by_cases hz:n=0
 .refine cm (c:=false) k rfl rfl (by rw[hz];rfl) fun a k=>?_
  repeat refine sm k fun a k=>?_
  refine pk k rfl rfl fun a k=>?_;refine ay (bf k rfl (wp_skip ?_));exact last _ _ g.bad f r q (by rw[hz];cases g.bad<;>rfl) (k.sb)
 refine cm (c:=true) k rfl rfl (congrArg some (by simpa using hz)) fun a k=>?_
 repeat refine sm k fun a k=>?_
 refine iK (s:=(i:Int)+1) k (by assumption) rfl (by decide) rfl rfl F fun a k=>?_;refine cm (c:=n !=(i+1:Int)) k rfl rfl rfl fun a k=>?_;refine pk k rfl rfl fun a k=>?_;refine ay (bf k rfl ?_);by_cases hq:(n !=(i+1:Int))=true
 .rw[if_pos hq];refine rg aB hQ WG ?_;intro w6 e6;have t:=f.O e6;have b0:=r.O e6;have a7:=q.Y m f.wf e6;have M:=SX.refl aB w6
  repeat refine sm k fun a k=>?_
  refine jw (cur:={R with bG:=v'}.cells g.bad) k (by decide) rfl (by kernel_rfl) rfl rfl rfl t.obj.heap (by show 10<11;omega) rfl (fun h=>absurd rfl h) fun a k=>?_;obtain⟨h1,h2⟩:=t.zh true;refine ay (last _ _ true h2 (b0.J h1 id) (a7.eY m t.wf h1 (.inl (by decide))) ?_ (k.sb));rw[hq,show(n !=0)=true by simpa using hz];cases g.bad<;>rfl
 rw[if_neg hq];refine wp_skip (last _ _ g.bad f r q ?_ (k.sb));rw[show(n !=(i+1:Int))=false by simpa using hq];cases g.bad<;>simp
end
section
variable{w0 w:Tam}{S0 S:bE}{kG ow:Ow}{b b4 i:Nat}{g0 g g':GS}{R:GR}{x:RS}{v1 v2:Tan}{Q:Iv}{a:Act}
noncomputable def wq:Code:=.seq (.region 9 Nh false) (.cond (.tmp 118) (.seq (.region 10 Dm true) (.seq (.region 11 Dl true) (.seq (.seq (.region 12 Dk false) (.cond (.tmp 146) (.region 13 Dj false) .skip)) (.region 14 zN true)))) .skip)
def Lu(hQ:QP Q)(b8:∀a w S ow R,Kn 160 a [(4,.pointer (some ⟨b4,0,none⟩)),(0,aI b),(1,.int i64 i)]->bD LG aB w0 S0 kG w S ow->GM w S ow b (R.cells (pM i x g).bad) R (pM i x g)->R.la=R.lb->R.va=R.vv->fF w S ow b4 67 (G0 x v1 v2)->wq.wp Try.prog Q a w)(m:Wf w0 S0 kG)(st:bD LG aB w0 S0 kG w S ow)(gm:GM w S ow b (R.cells g.bad) R g)(d8:R.la=R.lb)(a4:R.va=R.vv)(lx:fF w S ow b4 67 (G0 x v1 v2))(a5:0<=x.term)(e3:x.term<=5000)(d5:∀l∈g.aX,l.length<=2000000)(hi:i<g.aX.length)(e7:i<5)(d4:jX i64 x.vote)(k:Kn 160 a [(4,.pointer (some ⟨b4,0,none⟩)),(0,aI b),(1,.int i64 i)]):
  (Code.seq (.region 4 Nl true) (.seq (.region 5 Nk true) (.seq (.seq (.region 6 Nj false) (.cond (.tmp 98) (.region 7 Ni false) .skip)) (.seq (.region 8 JN true) wq)))).wp Try.prog Q a w:=by
 obtain⟨l,a6⟩:∃l,g.aX[i]?=some l:=⟨_,aS hi⟩;have d9:g.aX.getD i []=l:=by rw[ae,a6,bz]
 have d7:=d5 l (bQ a6);refine wp_seq (jy (n0:=15) (fun bb=>ow bb=some (100+i)) mix (by exact hQ) abu (fun _=>by kernel_rfl) ?_);intro w1 e1;have p:=gm.O e1;have N:=lx.O e1;have d0:=st.Y m gm.wf e1;have s0:=SX.refl (fun bb=>ow bb=some (100+i)) w1;have a2:¬ow b=some (100+i):=by rw[p.obj.ow];intro e;injection e with e;omega
 have a3:¬ow b4=some (100+i):=by rw[N.ow];intro e;cases e
 obtain⟨v,o,t⟩:=p.pD i l a6;obtain⟨bv,Z,s,A,I,z⟩:=p.oH.elem (i:=i) (u:=v) (by rw[a4];exact o);have n:R.va.length=g.aX.length:=by rw[a4];exact p.xH
 have b2:¬ow bv=some (100+i):=by rw[I];intro e;injection e with e;omega
 repeat (first|refine sm k fun a k=>?_|refine ld k (N.cell a3 rfl) fun a k=>?_|refine ld k (p.cell a2 rfl) fun a k=>?_)
 rw[s]at k;refine wQ (el:=29) (sz:=1) k rfl rfl (by rw[n];exact hi) fun a k=>?_;refine ky k (by assumption) rfl (by decide) rfl (by kernel_rfl) (by kernel_rfl) (eP A b2 (by rw[bK];exact z)) fun a k=>?_
 repeat (first|refine sm k fun a k=>?_|refine ld k (N.cell a3 rfl) fun a k=>?_|refine ld k (p.cell a2 rfl) fun a k=>?_)
 refine gV (vs:=[v,.int i64 x.term]) k (by decide) rfl (by decide) Km rfl (yf t p.wf a5 (by omega) d7) ?_;rintro e w2 ⟨v',bT,rfl,nf,ud,Mm,hlen⟩;obtain⟨Av,cv,b6⟩:=Mm.slice;refine⟨_,rfl,fun _=>SX.iw (fun _ h=>h) nf,fun a k=>?_⟩;have s1:=SX.iw (X:=fun bb=>ow bb=some (100+i)) (fun _ h=>h) nf;have a8:=p.J2 nf ud hi Mm (by omega);have b1:=N.J nf id;have U:=d0.eY m p.wf nf (.inr (by omega));refine wQ (el:=29) (sz:=1) k rfl rfl (by rw[n];exact hi) fun a k=>?_;obtain⟨e8,e2,a9,Y,E,D,c4,c0,M,b5,b7⟩:=a8.oH.set (i:=i) (u:=v') ud (by show i<R.va.length;rw[n];exact hi);have J:R.aX=_:=Y;rw[s]at J;injection J with L _ h3;injection L with L;injection L with L _;subst L;rw[bK]at k;refine ln (vs:=[v']) (cur:=a9) k (by decide) rfl (by kernel_rfl) rfl rfl (by rw[b6];rfl) E D (by rw[b6];simp[Value.oneCell']) (fun h=>absurd rfl h) fun a k=>?_;refine ay ?_;have K:=a8.Og M b5 b7;have b0:=b1.J M id;have T:=U.eY m ud M (.inl (by decide));have k:=k.sb (l:=[(4,.pointer (some ⟨b4,0,none⟩)),(0,aI b),(1,.int i64 i)]);have O:=FP (l:=l) a5;have e0:=wy (fun y hy=>Mm.all y hy) O;have hN:((x.term.toNat:Nat):Int)=x.term:=Int.toNat_of_nonneg a5;have F:∃R3:GR,R3=({R with aX:=R.aX,va:=R.va.set i v',vv:=R.vv.set i v'}:GR):=⟨_,rfl⟩;obtain⟨R3,F⟩:=F;generalize w2.setRow bv _=w3 at K b0 T⊢;have K:GM w3 S bT b (R3.cells g.bad) R3 {g with aX:=g.aX.set i (eK l x.term)}:=by rw[F];exact K
 have c1:R3.la=R3.lb:=by rw[F];exact d8
 have r:R3.va=R3.vv:=by rw[F];show R.va.set i v'=R.vv.set i v';rw[a4]
 have V:({g with aX:=g.aX.set i (eK l x.term)}:GS).aX[i]?=some (eK l x.term):=by show(g.aX.set i (eK l x.term))[i]?=_;rw[bj,if_pos rfl,if_pos hi]
 clear F;clear b7 M b5 E D Y c0 c4 U b1 a8 s1 nf Mm s0 a2 a3 s A I z n b2 t o;refine wp_seq (jy (n0:=12) aB mix (by exact hQ) abt (fun _=>by kernel_rfl) ?_);intro w4 e4;have C:=K.O e4;have a1:=b0.O e4;have c9:=T.Y m K.wf e4;have s0:=SX.refl aB w4;obtain⟨v4,o,t⟩:=C.pD i _ V;obtain⟨bv,Z,s,A,I,z⟩:=C.oH.elem (i:=i) (u:=v4) (by rw[r];exact o);have n:R3.va.length=g.aX.length:=by rw[r,C.xH];show(g.aX.set i _).length=_;rw[aQ]
 obtain⟨bt,c6,P,a7,b9,c3⟩:=dB.wx t e0
 repeat (first|refine sm k fun a k=>?_|refine ld k (a1.cell id rfl) fun a k=>?_|refine ld k (C.cell id rfl) fun a k=>?_)
 rw[s]at k;refine wQ (el:=29) (sz:=1) k rfl rfl (by rw[n];exact hi) fun a k=>?_;refine ky (v:=v4) k (by assumption) rfl (by decide) rfl (by kernel_rfl) (by kernel_rfl) (eP A (fun h=>h) (by rw[bK];exact z)) fun a k=>?_
 repeat (first|refine sm k fun a k=>?_|refine ld k (a1.cell id rfl) fun a k=>?_|refine ld k (C.cell id rfl) fun a k=>?_)
 rw[<-hN]at k;rw[P]at k;refine wQ (el:=3) (sz:=1) k rfl rfl O fun a k=>?_;refine ld k (eP a7 (fun h=>h) c3) fun a k=>?_
 repeat refine sm k fun a k=>?_
 refine ay ?_;have k:=k.sb (l:=[(5,.int i64 (iC (eK l x.term) x.term.toNat)),(4,.pointer (some ⟨b4,0,none⟩)),(0,aI b),(1,.int i64 i)]);generalize b3:iC (eK l x.term) x.term.toNat=B at k;clear P a7 b9 c3 s A I z n t o s0
 have last:∀(a:Act) (W:Tam) (c:Bool) (gm:GM W S bT b (R3.cells c) R3 {g with aX:=g.aX.set i (eK l x.term),bad:=c}) (lx:fF W S bT b4 67 (G0 x v1 v2)) (st:bD LG aB w0 S0 kG W S bT),
   c=(g.bad||(B !=0&&x.vote !=B))->Kn 160 a [(4,.pointer (some ⟨b4,0,none⟩)),(0,aI b),(1,.int i64 i)]->(Code.seq (.region 8 JN true) wq).wp Try.prog Q a W:=by
  intro a W c gm lx st hc k;refine wp_seq (jy (n0:=13) aB mix (by exact hQ) abp (fun _=>by kernel_rfl) ?_);intro w5 e5;have f:=gm.O e5;have q:=lx.O e5;have H:=st.Y m gm.wf e5;have s0:=SX.refl aB w5;obtain⟨v5,o,t⟩:=f.pD i (eK l x.term) V;obtain⟨bv,Z,s,A,I,z⟩:=f.oH.elem (i:=i) (u:=v5) (by rw[r];exact o);have n:R3.va.length=g.aX.length:=by rw[r,f.xH];show(g.aX.set i _).length=_;rw[aQ]
  obtain⟨bt,c6,a9,P,E,D,a7,b9,a0,d2,d6⟩:=t.set (i:=x.term.toNat) (d:=.int i64 x.vote) (us:=[.int i64 x.vote]) f.wf O ⟨_,rfl,d4⟩ rfl (fun j u c L h2=>DK j u c L h2)
  repeat (first|refine sm k fun a k=>?_|refine ld k (q.cell id rfl) fun a k=>?_|refine ld k (f.cell id rfl) fun a k=>?_)
  rw[s]at k;refine wQ (el:=29) (sz:=1) k rfl rfl (by rw[n];exact hi) fun a k=>?_;refine ky (v:=v5) k (by assumption) rfl (by decide) rfl (by kernel_rfl) (by kernel_rfl) (eP A (fun h=>h) (by rw[bK];exact z)) fun a k=>?_
  repeat (first|refine sm k fun a k=>?_|refine ld k (q.cell id rfl) fun a k=>?_|refine ld k (f.cell id rfl) fun a k=>?_)
  rw[<-hN]at k;rw[P]at k;refine wQ (el:=3) (sz:=1) k rfl rfl O fun a k=>?_;refine ln (vs:=[.int i64 x.vote]) (cur:=a9) k (by decide) rfl (by kernel_rfl) rfl rfl rfl E D (by simp[Value.oneCell']) (fun h=>absurd rfl h) fun a k=>?_;refine ay ?_;have G:=f.J2 a0 d2 (by show i<(g.aX.set i _).length;rw[aQ];exact hi) d6 (by omega)
  have e6:pM i x g={g with aX:=(g.aX.set i (eK l x.term)).set i ((eK l x.term).set x.term.toNat (.int i64 x.vote)),bad:=c}:=by unfold pM;simp only;rw[d9,b3,hc,List.set_set]
  have d3:R3.vv.set i v5=R3.vv:=by
   apply dD;intro j;rw[bj];by_cases c2:i=j
   .subst c2;rw[if_pos rfl];have:=(aO.1 o).1;rw[if_pos this,o]
   rw[if_neg c2]
  rw[d3]at G;refine b8 _ _ S bT R3 (k.sb) (H.eY m f.wf a0 (.inr (by omega))) ?_ c1 r (q.J a0 id);rw[e6];exact G
 refine wp_seq (wp_seq (rg aB hQ abr ?_));intro w5 e5;have f:=C.O e5;have q:=a1.O e5;have H:=c9.Y m C.wf e5;have s0:=SX.refl aB w5
 repeat refine sm k fun a k=>?_
 by_cases hz:B=0
 .refine cm (c:=false) k rfl rfl (by rw[hz];rfl) fun a k=>?_
  repeat refine sm k fun a k=>?_
  refine pk k rfl rfl fun a k=>?_;refine ay (bf k rfl (wp_skip ?_));exact last _ _ g.bad f q H (by rw[hz];cases g.bad<;>rfl) (k.sb)
 refine cm (c:=true) k rfl rfl (congrArg some (by simpa using hz)) fun a k=>?_
 repeat (first|refine sm k fun a k=>?_|refine ld k (q.cell id rfl) fun a k=>?_)
 refine cm (c:=x.vote !=B) k rfl rfl rfl fun a k=>?_;refine pk k rfl rfl fun a k=>?_;refine ay (bf k rfl ?_);by_cases hq:(x.vote !=B)=true
 .rw[if_pos hq];refine rg aB hQ abq ?_;intro w6 e6;have G:=f.O e6;have d1:=q.O e6;have c7:=H.Y m f.wf e6;have s0:=SX.refl aB w6
  repeat refine sm k fun a k=>?_
  refine jw (cur:=R3.cells g.bad) k (by decide) rfl (by kernel_rfl) rfl rfl rfl G.obj.heap (by show 10<11;omega) rfl (fun h=>absurd rfl h) fun a k=>?_;obtain⟨L,h2⟩:=G.zh true;refine ay (last _ _ true h2 (d1.J L id) (c7.eY m G.wf L (.inl (by decide))) ?_ (k.sb));rw[hq,show(B !=0)=true by simpa using hz];cases g.bad<;>rfl
 rw[if_neg hq];refine wp_skip (last _ _ g.bad f q H ?_ (k.sb));rw[show(x.vote !=B)=false by simpa using hq];cases g.bad<;>simp
end
def A8{w:Tam}{S:bE}{ow:Ow}{b i:Nat}{g:GS}(h:kv w S ow b g)(hl:uI g)(hi:i<g.ew.length)(t:Ok (cG g i) 0):
  Calls Try.prog 19 [aI b,.int i64 i].toArray w (rD w S ow b (kB i g)):=by
 obtain⟨R,p,z,N⟩:=h;have d4:=p;have n5:=hl.n5;have hx:g.ew[i]?=some (cG g i):=by unfold cG;rw[ae,aS hi,bz]
 generalize b6:cG g i=x at hx t;have q:i<g.cO.length:=by rw[hl.cO];exact hi
 have ht:=wy (fun y Q=>p.cO.all y Q) q;refine kD Try.func19 Oc XS afP (by show 2<=160;omega) ?_;intro a k;have H:=jD (P:=Try.prog) (fn:=Try.f19) (R:=rD w S ow b (kB i g));refine wp_seq (rg aB H aby ?_);intro w1 e1;have o:=p.O e1;have M:=bD.O e1 LG aB S ow;have V:=SX.refl aB w1
 repeat (first|refine sm k fun a k=>?_|refine ld k (o.cell id rfl) fun a k=>?_)
 obtain⟨bs,c4,b9,a0⟩:=o.ew i x hx;obtain⟨bl,d5,c9,c6,d2,c3⟩:=o.arr.elem (i:=i) (u:=aI bs) (by rw[z,ab,c4];rfl);have c7:(R.la.map aI).length=g.ew.length:=by rw[ao,z];exact o.rn
 rw[c9]at k;refine wQ (el:=52) (sz:=1) k rfl rfl (by rw[c7];exact hi) fun a k=>?_;refine ky (v:=aI bs) k (by assumption) rfl (by decide) rfl (by kernel_rfl) (by kernel_rfl) (eP c6 (fun h=>h) (by rw[bK];exact c3)) fun a k=>?_;refine gV (vs:=[aI bs]) k (by decide) rfl (by decide) U5.enter rfl (mU b9 o.wf t) ?_;rintro e T ⟨A1,n1,c1,A2,n2,c2,rfl,-,nf,ud⟩;refine⟨_,rfl,fun _=>nf.vi _,fun a k=>?_⟩;have a7:=o.J nf ud;have s1:=nf.vi aB;refine jO (nn:=9) k (by decide) rfl (by decide) (by kernel_rfl) (fun I _=>s1.trans (SX.alloc _ _ _)) fun I b5 a k=>?_;refine ln (vs:=[.int i64 x.role,.int i64 x.bG,.int i64 x.term,.int i64 x.vote,.int i64 x.bB,.int i64 (x.li+x.le.length),.int i64 x.li,.slice A1 n1 c1,.slice A2 n2 c2]) k (by decide) rfl (by kernel_rfl) rfl rfl rfl (heap_alloc_new T _) (by show 0+9<=I.toArray.size;rw[bV];omega) (by simp[Value.oneCell']) (fun h=>absurd rfl h) fun a k=>?_;refine ay ?_
 have e0:(I.toArray.toList.take 0++[Value.int i64 x.role,.int i64 x.bG,.int i64 x.term,.int i64 x.vote,.int i64 x.bB,.int i64 (x.li+x.le.length),.int i64 x.li,.slice A1 n1 c1,.slice A2 n2 c2]++I.toArray.toList.drop (0+9))=[Value.int i64 x.role,.int i64 x.bG,.int i64 x.term,.int i64 x.vote,.int i64 x.bB,.int i64 (x.li+x.le.length),.int i64 x.li,.slice A1 n1 c1,.slice A2 n2 c2]:=by have:I.toArray.toList.drop (0+9)=[]:=bL (by simp[b5]);rw[this];simp
 rw[show List.length [Value.int i64 x.role,.int i64 x.bG,.int i64 x.term,.int i64 x.vote,.int i64 x.bB,.int i64 (x.li+x.le.length),.int i64 x.li,.slice A1 n1 c1,.slice A2 n2 c2]=9 from rfl,e0];obtain⟨J,C⟩:=bD.alloc ud (.cells I.toArray 67);have Z:=fF.new ud 67 I;obtain⟨m,B,lx⟩:=Z.set C (us:=[.int i64 x.role,.int i64 x.bG,.int i64 x.term,.int i64 x.vote,.int i64 x.bB,.int i64 (x.li+x.le.length),.int i64 x.li,.slice A1 n1 c1,.slice A2 n2 c2]);have E:=(a7.J J C).J m B;have L:bD LG aB w S ow _ S ow:=(((M.tr p.wf o.wf nf nE).tr p.wf ud J nE).tr p.wf C m (fun bb hb=>.inr (by rw[show bb=_ from hb];exact aY M.size nf.size))).mono (fun _ h=>h.elim (fun h=>h.elim (fun h=>h.elim id (fun h=>h.elim)) (fun h=>h.elim)) (fun h=>h.elim)) (fun _ h=>h);generalize d3:T.heap.size=b4 at k lx E L⊢;generalize hW:(T.alloc _).setRow b4 _=W at lx E L⊢;clear e0 m B Z J C a7 s1 nf ud M V hW;have k:=k.sb (l:=[(4,.pointer (some ⟨b4,0,none⟩)),(0,aI b),(1,.int i64 i)]);have lx:fF W S ow b4 67 (G0 x (.slice A1 n1 c1) (.slice A2 n2 c2)):=lx
 have f:kB i g=if x.term<iC g.cO i\/5000<x.term then{g with bad:=g.bad||decide (x.term<iC g.cO i)} else(if x.role=2 then Fb i x (pM i x {g with cO:=g.cO.set i (.int i64 x.term)}) else pM i x {g with cO:=g.cO.set i (.int i64 x.term)}):=by unfold kB;simp only;rw[b6]
 refine wp_seq (wp_seq (jy (n0:=17) aB mix (by exact H) abx (fun _=>by kernel_rfl) ?_));intro T e2;have r:=E.O e2;have s:=lx.O e2;have K:=bD.Z p.wf E.wf L (bD.O e2 aB aB S ow) nE;have V:=SX.refl aB T
 repeat (first|refine sm k fun a k=>?_|refine ld k (r.cell id rfl) fun a k=>?_|refine ld k (s.cell id rfl) fun a k=>?_)
 obtain⟨bt,a8,D,O,a1,a4⟩:=dB.wx r.cO ht;rw[D]at k;refine wQ (el:=3) (sz:=1) k rfl rfl q fun a k=>?_;refine ld k (eP O (fun h=>h) a4) fun a k=>?_;by_cases h1:x.term<iC g.cO i
 .refine cm (c:=true) k rfl rfl (OJ h1) fun a k=>?_
  repeat refine sm k fun a k=>?_
  refine pk k rfl rfl fun a k=>?_;refine ay (bf k rfl ?_);refine FF (g':=kB i g) (by exact H) (fun a w h=>h) p.wf K r z N s q ?_ (k.sb);rw[f,if_pos (.inl h1)]
 refine cm (c:=false) k rfl rfl (OL h1) fun a k=>?_
 repeat (first|refine sm k fun a k=>?_|refine ld k (s.cell id rfl) fun a k=>?_)
 by_cases h2:5000<x.term
 .refine cm (c:=true) k rfl rfl (It h2) fun a k=>?_;refine pk k rfl rfl fun a k=>?_;refine ay (bf k rfl ?_);refine FF (g':=kB i g) (by exact H) (fun a w h=>h) p.wf K r z N s q ?_ (k.sb);rw[f,if_pos (.inr h2)]
 refine cm (c:=false) k rfl rfl (DD h2) fun a k=>?_;refine pk k rfl rfl fun a k=>?_;refine ay (bf k rfl (wp_skip ?_));rw[if_neg (by omega)]at f;have k:=k.sb (l:=[(4,.pointer (some ⟨b4,0,none⟩)),(0,aI b),(1,.int i64 i)]);clear D O a1 a4 V;refine wp_seq (jy (n0:=8) aB mix (by exact H) abv (fun _=>by kernel_rfl) ?_);intro w3 e3;have A:=r.O e3;have Y:=s.O e3;have b1:=bD.Z p.wf r.wf K (bD.O e3 aB aB S ow) nE;have V:=SX.refl aB w3;have c0:=jt (n:=x.term) t.tm (by omega);obtain⟨bt,a8,d1,D,a3,a2,O,a1,m,B,b8⟩:=A.cO.set (i:=i) (d:=.int i64 x.term) (us:=[.int i64 x.term]) A.wf q ⟨_,rfl,c0⟩ rfl (fun j u c h1 h2=>DK j u c h1 h2)
 repeat (first|refine sm k fun a k=>?_|refine ld k (A.cell id rfl) fun a k=>?_|refine ld k (Y.cell id rfl) fun a k=>?_)
 rw[D]at k;refine wQ (el:=3) (sz:=1) k rfl rfl q fun a k=>?_;refine ln (vs:=[.int i64 x.term]) (cur:=d1) k (by decide) rfl (by kernel_rfl) rfl rfl rfl a3 a2 (by simp[Value.oneCell']) (fun h=>absurd rfl h) fun a k=>?_;refine ay ?_;have d0:=A.Ck m B b8;have b0:=b1.eY p.wf A.wf m (.inl (by decide))
 have b7:jX i64 x.vote:=by obtain⟨bs,_,_,a0⟩:=p.ew i x hx;obtain⟨y,Q,hh⟩:=cJ a0 12 I6 (by rw[Ty.dm];rfl);have e:(encS x)[12]?=some (.int i64 x.vote):=rfl;rw[e]at Q;injection Q with Q;subst Q;obtain⟨n,hn,hk⟩:=hh;injection hn with _ hn;rw[hn];exact hk
 refine Lu (R:={R with cO:=R.cO}) (g:={g with cO:=g.cO.set i (.int i64 x.term)}) (by exact H) ?_ p.wf b0 d0 z N (Y.J m id) t.tm (by omega) hl.vl (by show i<g.aX.length;rw[hl.aX];exact hi) (by omega) b7 (k.sb);intro a w7 S7 b2 R7 k a9 a6 G F b3;unfold wq;refine wp_seq (rg aB H abo ?_);intro w8 e8;have a5:=a6.O e8;have X:=b3.O e8;have U:=a9.Y p.wf a6.wf e8;have V:=SX.refl aB w8
 repeat (first|refine sm k fun a k=>?_|refine ld k (X.cell id rfl) fun a k=>?_)
 refine cm (c:=x.role==2) k rfl rfl rfl fun a k=>?_;refine ay (bf k rfl ?_);by_cases hr:x.role=2
 .rw[if_pos (by simpa using hr)];refine Lv (g':=kB i g) (by exact H) (fun a w h=>h) p.wf U a5 G F X t.tm (by omega) hl.lead (by omega) ?_ (k.sub ⟨rfl,rfl,rfl,trivial⟩);rw[f,if_pos hr]
 rw[if_neg (by simpa using hr)];refine wp_skip (mb MW k ⟨S7,b2,rfl,U,R7,?_,G,F⟩).2;rw[f,if_neg hr];exact a5
def pC(ow:Ow):Prop:=∀b l,ow b=some l->LG l
def pC.J{L X:Tai}{w w':Tam}{S S':bE}{ow bT:Ow}(h:pC ow)(c:bD L X w S ow w' S' bT)(e:∀l,L l->LG l):pC bT:=fun b l d=>(c.iw b l d).elim (h b l) (e l)
def bD.lg{X:Tai}{w w':Tam}{S S':bE}{ow bT:Ow}(h:pC ow)(n:pC bT)(c:bD (fun l=>LG l\/60<=l) X w S ow w' S' bT):bD LG X w S ow w' S' bT:=by have q:∀l,LG l->(LG l\/60<=l):=fun _ h=>.inl h;exact⟨c.size,c.os,c.tape,c.output,fun b l p e d=>absurd (h b l e) d,c.free,c.jG,c.cell,fun b l e d=>absurd (h b l e) d,fun b o j=>(c.new b o j).imp id (fun k=>k.imp id (fun⟨l,f,_⟩=>⟨l,f,h b l f⟩)),c.um,fun b l d=>.inr (n b l d)⟩
def mG(es:Taf)(f:Int):Taf:=es.filter fun e=>decide ((cD 0 e).q<f)
def CI:∀{a b:Tal} {n:Nat} {x:Taf},a.length=n->dx (.V (a++b)) x->dx (.V a) (x.take n)
 |[],b,n,x,hn,h=>by subst hn;exact dy.2 (by simp)
 |t::a,b,n,x,hn,h=>by obtain⟨d,r,rfl,e,c⟩:=aJ.1 h;subst hn;rw[bg,fO];exact aJ.2 ⟨d,_,rfl,e,CI (b:=b) rfl c⟩
def tP:∀{a b:Tal} {x:Taf},dx (.V (a++b)) x->dx (.V b) (x.drop a.length)
 |[],b,x,h=>h
 |t::a,b,x,h=>by obtain⟨d,r,rfl,_,c⟩:=aJ.1 (show dx (.cons t (.V (a++b))) x from h);show dx (.V b) (r.drop a.length);exact tP (a:=a) c
def oW(es:Taf)(i:Int)(c:Bool):Taf:=es.filter fun e=>decide ((cD 0 e).q>i)&&c
def xh(last:Int)(x o:D):Taf:=match cD 4 o with
 |.ptr l=>oW (cD 7 x).A (l.getD 0 .top).q (decide (last>(l.getD 0 .top).q))
 |_=>(cD 7 x).A
def zY(x o:D):Taf:=match cD 4 o with
 |.ptr l=>l
 |_=>[cD 2 x,cD 3 x,cD 4 x,cD 5 x,cD 6 x]
def DI(last:Int)(x o:D):Taf:=if(cD 3 o).A=[] then xh last x o else mG (xh last x o) (cD 0 ((cD 3 o).A.getD 0 .top)).q++(cD 3 o).A
def mH(i:Nat)(o:D)(g:GS):GS:=
 let x:=g.saved.getD i .top
 {g with saved:=g.saved.set i (.agg (cD 1 o::cD 2 o::(zY x o++[.list (DI ((cG g i).li+(cG g i).le.length) x o)])))}
def I4{es:Taf}{f:Int}{c:Bool}{j:Nat}{e:D}(h:es[j]?=some e):oW (es.take (j+1)) f c=if(decide ((cD 0 e).q>f)&&c)=true then oW (es.take j) f c++[e] else oW (es.take j) f c:=by
 have k:es.take (j+1)=es.take j++[e]:=by rw[cT,h];rfl
 unfold oW;rw[k,List.filter_append];by_cases d:(decide ((cD 0 e).q>f)&&c)=true
 .rw[if_pos d];simp only[List.filter_cons,d,if_true,List.filter_nil]
 rw[if_neg d];simp only[List.filter_cons,d,if_false,List.filter_nil,dh];simp
def FK{es:Taf}{f:Int}{c:Bool}:(oW es f c).length<=es.length:=List.length_filter_le _ _
def I7{es:Taf}{f:Int}{j:Nat}{e:D}(h:es[j]?=some e):mG (es.take (j+1)) f=if(cD 0 e).q<f then mG (es.take j) f++[e] else mG (es.take j) f:=by
 have d:es.take (j+1)=es.take j++[e]:=by rw[cT,h];rfl
 unfold mG;rw[d,List.filter_append];by_cases c:(cD 0 e).q<f
 .rw[if_pos c];simp[c]
 rw[if_neg c];simp[c]
def FN{es:Taf}{f:Int}:(mG es f).length<=es.length:=List.length_filter_le _ _
def RA{d:D}(h:Has dY d):d.cells[0]?=some (.int i64 (cD 0 d).q):=by obtain⟨l,rfl,e⟩:=dU.1 h;obtain⟨x,r,rfl,c,_⟩:=aJ.1 e;obtain⟨n,rfl,_⟩:=c;rfl
def jQ:dY.cells.length=29:=rfl
def tM{n:Nat}(h:n<=400000000000):nh dY n:=by refine⟨by simp only[maxLen];omega,?_⟩;rw[ou];omega
section
variable{w0 w:Tam}{S0 S:bE}{kG ow:Ow}{b b5 b6 i:Nat}{g:GS}{R:GR}{o:D}{Q:Iv}{a:Act}{m:Tab}
def y8{v:Tan}{l:Taf}{j:Nat}{d:D}(h:cg w S v (.list l))(x:l[j]?=some d)(p:Has dY d):
  ∃(k off f:Nat) (us:Tac),v=.slice (some ⟨k,off,none⟩) l.length f/\S k (off+j*29)/\us.length=29/\(∀(q:Nat) u,us[q]?=some u->w.cell? ⟨k,off+j*29+q,none⟩=some u)/\(∀(q:Nat) u c,us[q]?=some u->d.cells[q]?=some c->cg w S u c)/\us[0]?=some (.int i64 (cD 0 d).q)/\
   w.cell? ⟨k,off+j*29+0,none⟩=some (.int i64 (cD 0 d).q):=by obtain⟨k,off,f,us,y,t,s,n,r⟩:=h.NO x p (by rw[jQ];decide);rw[jQ]at t s n;obtain⟨u0,e⟩:∃u0,us[0]?=some u0:=⟨_,aS (by omega)⟩;have:=(r 0 u0 _ e (RA p)).cQ;subst this;exact⟨k,off,f,us,y,t,s,n,r,e,n 0 _ e⟩
def Kt{x:D}{us:Tac}(h:Has dY x)(s:us.length=29)(n:∀(q:Nat) u c,us[q]?=some u->x.cells[q]?=some c->cg w S u c):∀u∈us,u.oneCell'=true:=by
 intro u l;obtain⟨q,k⟩:=aE l;have p:q<us.length:=(aO.1 k).1;obtain⟨r,e⟩:=cB h;have d:q<dY.cells.length:=by rw[jQ];omega
 obtain⟨c,j,f⟩:=e q (dY.cells[q]'d) (aS d);exact(n q u c k j).iE f (bY.1 (show dY.cells.all Ty.scalar=true from rfl) _ (aN d))
def TT(l:Nat):Prop:=LG l\/60<=l
def TT.all(l:Nat):TT l:=by unfold TT LG;omega
def rJ{L X:Tai}{w0 w d:Tam}{S0 S e:bE}{kG ow ko:Ow}(c:Wf w0 S0 kG)(f:Wf w S ow)(h:bD TT aB w0 S0 kG w S ow)(k:bD L X w S ow d e ko)(j:∀b,X b->w0.heap.size<=b):bD TT aB w0 S0 kG d e ko:=
 (h.tr c f k (fun b h=>.inr (j b h))).mono (fun l _=>TT.all l) (fun _ h=>h)
def Fy(w:Tam)(S:bE)(ow:Ow)(b:Nat)(g':GS):Iv:=bodyPost Try.prog Try.f30 (rD w S ow b g')
def OY{xs:Tac}{d:D}(hQ:QP Q)(p:∀a w,Fy w0 S0 kG b {g with saved:=g.saved.set i d} .normal a w->Q .normal a w)(n:Wf w0 S0 kG)(F:pC kG)(P:bD TT aB w0 S0 kG w S ow)(X:pC ow)(L:GM w S ow b (R.cells g.bad) R g)(G:R.la=R.lb)(C:R.va=R.vv)(T:fF w S ow b6 65 xs)(f:xs.length=8)(V:∀(j:Nat) u c,xs[j]?=some u->d.cells[j]?=some c->cg w S u c)(Y:Has iU d)(q:∀v∈xs,v.oneCell'=true)(K:i<g.saved.length)(k:Kn 119 a [(6,.pointer (some ⟨b6,0,none⟩)),(0,aI b),(1,.int i64 i)]):
  (Code.region 21 zD true).wp Try.prog Q a w:=by
 refine jy (n0:=6) aB mix hQ Ws (fun _=>by kernel_rfl) ?_;intro N t;have e:=L.O t;have z:=T.O t;have y:=rJ n L.wf P (bD.O t aB aB S ow) nE;have s0:=SX.refl aB N;obtain⟨bt,M,J,H,s,r,Z,W,l,A,E⟩:=e.saved.set (i:=i) (d:=d) (us:=xs) e.wf K Y f (fun j u c h1 h2=>(V j u c h1 h2).J (bD.O t aB aB S ow))
 repeat (first|refine sm k fun a k=>?_|refine ld k (e.cell id rfl) fun a k=>?_)
 refine lN (vs:=xs) k rfl f (fun O B j v U=>by rw[av];exact z.cell id U O B) fun a k=>?_;rw[H]at k;refine wQ (el:=65) (sz:=8) k rfl rfl K fun a k=>?_;refine ln (vs:=xs) (cur:=J) k (by decide) rfl (by rw[f];kernel_rfl) rfl rfl rfl s r q (fun h=>absurd rfl h) fun a k=>?_;refine ay (p _ _ (mb aaY k ?_).2);have I:=e.Cl l A E;have x:=rJ n e.wf y l nE;exact⟨S,ow,rfl,bD.lg F X x,R,I,G,C⟩
end
end Go.Proofs.Ytjhmkaninmgilaa
namespace Go.dF
open Go Go.RowKit
def fG(ops:Tad)(p:Tah):Tad:=(p.filterMap (ops[·]?)).toArray
def iX(n:Nat)(p:Tah)(k:Nat):Tbd Bool:=((List.range n).map fun j=>decide (j∈p.take k)).toArray
def R4(ops:Tad)(i:Nat):Tah:=(List.range ops.size).foldl (fun acc j=>match ops[j]? with
 |some oj=>if decide (i<j)&&oj.after.toList.any (fun e=>Region.binds .any e&&(e.on==i||acc.contains e.on)) then acc++[j] else acc
 |none=>acc) []
def B5(ops:Tad)(p:Tah)(n0:Nat):Nat:=if n0=ops.size then ops.size else p.getD (ops.size-1) 0
def Qe(ops:Tad)(p:Tah)(n0:Nat):Bool:=
 Region.noSelect ops&&decide (p.length=ops.size)&&p.all (fun i=>decide (i<ops.size))&&ops.toList.all (fun o=>match o.guard with|none=>true|some g=>p[g.1]?==some g.1)&&(List.range ops.size).all (fun j=>decide (j∈p))&&decide (n0<=ops.size)&&(List.range ops.size).all fun k=>
  match p[k]? with
  |none=>false
  |some i=>if k<n0 then Region.free .any ops (iX ops.size p k) i&&(Region.ready .any ops (iX ops.size p k)).contains i&&decide (i≠B5 ops p n0)&&
    (decide (n0=ops.size)||((R4 ops i).contains (B5 ops p n0)&&(R4 ops i).all fun j=> !(p.take k).contains j&&match ops[j]? with
     |some oj=>oj.after.toList.any fun e=>Region.binds .any e&&(e.on==i||(R4 ops i).contains e.on)
     |none=>false))
   else Region.ready .any ops (iX ops.size p k)==[i]
def pU{ops:Tad}:∀{p:Tah} (h:∀i∈p,i<ops.size) (k:Nat),(p.filterMap (ops[·]?))[k]?=(p[k]?).bind (ops[·]?)
 |[],_,k=>by simp
 |i::p,h,k=>by
  have a:ops[i]?=some (ops[i]'(h i br)):=dz _;rw[List.filterMap_cons,a];cases k with
  |zero=>simp[a]
  |succ k=>
   simp only[dw];exact pU (fun j b=>h j (aK _ b)) k
def Be{n i k:Nat}{p:Tah}(hi:p[k]?=some i):(iX n p k).setIfInBounds i true=iX n p (k+1):=by
 apply Array.ext
 .simp[iX]
 intro j c d;simp only[iX,Array.size_setIfInBounds,bV,ao,fi]at c;rw[Array.getElem_setIfInBounds (by simpa [iX]using c)];have b:p.take (k+1)=p.take k++[i]:=by rw[cT,hi];rfl
 by_cases a:i=j
 .subst a;simp[iX,b]
 rw[if_neg a];simp only[iX,List.getElem_toArray,List.getElem_map,List.getElem_range,b,aM,ax];congr 1;exact propext ⟨fun h=>.inl h,fun h=>h.resolve_right (Ne.symm a)⟩
def GD(n:Nat)(p:Tah):Array.replicate n false=iX n p 0:=by
 apply Array.ext
 .simp[iX]
 intro j b a;simp[iX]
section
variable{P:Tap}{ops ops':Tad}{Q:Iv}{S:Tae}
def Cd{o:Tbc}{a:Act}(b:∀g,o.guard=some g->ops'[g.1]?=ops[g.1]?):Region.wanted o (yielded ops' a.tmps)=Region.wanted o (yielded ops a.tmps):=by
 unfold Region.wanted;cases e:o.guard with
 |none=>rfl
 |some g=>simp only[yielded,b g e]
def YieldsIf.plain{o:Tbc}{v:Tan}{a:Act}(b:∀g,o.guard=some g->ops'[g.1]?=ops[g.1]?)(h:YieldsIf P ops' S o v a):YieldsIf P ops S o v a:=by unfold YieldsIf at h⊢;rw[<-Cd b];exact h
def uP{o:Tbc}{i k:Nat}{K:Act->Tae}{a:Act}{w:Tam}(c:∀g,o.guard=some g->ops'[g.1]?=ops[g.1]?)(b:ops'[k]?=some o)(hi:ops[i]?=some o)(h:wpOp P ops' Q k K a w):wpOp P ops Q i K a w:=by unfold wpOp at h⊢;rw[b]at h;rw[hi];simp only[Cd c]at h⊢;exact h
def ur{L i:Nat}{B:Tah}{A:Tbc}{v:Tan}(hi:ops[i]?=some A)(a3:i≠L)(hL:L∈B)(hB:∀j∈B,∃m,ops[j]?=some m/\∃e∈m.after,Region.binds .any e=true/\(e.on=i\/e.on∈B))(u:∀(j:Nat) (o:Tbc) T b,ops[j]?=some o->o.op≠ .select T b)(hQ:∀c a w,Q (.panic c) (a.put A.dst v) w->Q (.panic c) a w):
  ∀(g:Nat) (d:Tbd Bool) (a:Act) (w:Tam),
   (∀j m,ops[j]?=some m->j≠i->d.getD j true=false->(∀e∈m.after,Region.binds .any e=true->e.on≠i)->A.apart ops m=true)->(∀x∈B,d.getD x true=false)->
   i∈Region.ready .any ops d->YieldsIf P ops S A v a->S w->
   nZ P ops Q S L g (d.setIfInBounds i true) (a.put A.dst v) w->nZ P ops Q S L (g+1) d a w:=by
 intro g
 induction g with
 |zero=>
  intro d a w _ _ C U M H;refine⟨fun h=>(by rw[h]at C;cases C),fun j V=>?_⟩;by_cases f:j=i
  .subst f;exact U.wpOp hi M ⟨fun _=>M,H⟩
  have:=ready_mono V f;rw[H.1]at this;cases this
 |succ g ih=>
  intro d a w q O C U M H;refine⟨fun h=>(by rw[h]at C;cases C),fun j V=>?_⟩;by_cases f:j=i
  .subst f;exact U.wpOp hi M ⟨fun _=>M,H⟩
  have z:=H.2 j (ready_mono V f);obtain⟨y,m,r,K⟩:=mem_ready.1 V
  have n:∀e∈m.after,Region.binds .any e=true->d.getD e.on true=true:=fun e E F=>by
   have z:=K e E F;rcases eH e.on d.size with h'|h'
   .simp[h']at z⊢;exact z
   simp[Array.getElem?_eq_none h']at z
  have J:=(mem_ready.1 C).1
  have p:∀e∈m.after,Region.binds .any e=true->e.on≠i:=fun e E F a1=>by have z:=n e E F;rw[a1,J]at z;cases z
  have s:j∉B:=fun s=>by
   obtain⟨a2,l,e,E,F,W⟩:=hB j s;rw[r]at l;injection l with l;subst l;rcases W with R|R
   .exact p e E F R
   have D:=n e E F;rw[O _ R]at D;cases D
  have a0:j≠L:=fun e=>s (e▸hL);have R:=wpOp_putIf r (q j m r f y p) (fun T b=>u i A T b hi) (fun T b=>u j m T b r) hQ U z
  have t:∀k ok,ops[k]?=some ok->k≠i->(d.setIfInBounds j true).getD k true=false->
    (∀e∈ok.after,Region.binds .any e=true->e.on≠i)->A.apart ops ok=true:=fun k ok hk Z G X=>by
   refine q k ok hk Z ?_ X;by_cases I:j=k
   .subst I;exact y
   rw[getD_set_ne true I]at G;exact G
  have N:∀x∈B,(d.setIfInBounds j true).getD x true=false:=fun x hx=>by rw[getD_set_ne true (fun e:j=x=>s (by rw[e];exact hx))];exact O x hx
  refine wpOp_mono (fun a' w' D=>⟨fun Y=>D.2.1 Y,ih (d.setIfInBounds j true) a' w' t N (ready_mono C (Ne.symm f)) D.1 (D.2.1 a0) ?_⟩) R;rw[Array.setIfInBounds_comm _ _ f];exact D.2.2
def K5{p:Tah}{n0:Nat}(r:Qe ops p n0=true)(hQ:∀c a d v w,Q (.panic c) (a.put d v) w->Q (.panic c) a w):
  ∀(f k:Nat) (a:Act) (w:Tam),k+f=ops.size->mF P (fG ops p) Q S n0 f k a w->nZ P ops Q S (B5 ops p n0) f (iX ops.size p k) a w:=by
 have Z:=r;unfold Qe at r;simp only[aT,bk,bY,cI]at r;obtain⟨⟨⟨⟨⟨⟨H,a0⟩,G⟩,X⟩,L⟩,a1⟩,M⟩:=r
 have u:∀k:Nat,(fG ops p)[k]?=(p[k]?).bind (ops[·]?):=fun k=>by unfold fG;rw[dr];exact pU G k
 intro f
 induction f with
 |zero=>
  intro k a w V h;refine⟨?_,h⟩;rw[fm];intro j E;obtain⟨O,R,l,_⟩:=mem_ready.1 E;have K:j<ops.size:=(aP.1 l).1;have ht:p.take k=p:=eM (by omega);have:=L j K;simp[iX,K,ht,this]at O
 |succ f ih=>
  intro k a w V h;have hk:k<ops.size:=by omega
  have C:=M k hk;have b:p[k]?=some (p[k]'(by omega)):=aS _;generalize p[k]'(by omega)=i at b;rw[b]at C;simp only at C;have hi:i<ops.size:=G i (bQ b);have D:ops[i]?=some ops[i]:=dz hi
  have hg:∀g,ops[i].guard=some g->(fG ops p)[g.1]?=ops[g.1]? :=by intro g e;have:=X ops[i] (by simp);rw[e]at this;rw[u,eq_of_beq this];rfl
  have t:(fG ops p)[k]?=some ops[i]:=by rw[u,b];exact D
  unfold mF at h;rw[t]at h;simp only at h;by_cases I:k<n0
  .rw[if_pos I]at h C;obtain⟨hS,v,hy,N⟩:=h;simp only[aT,bk]at C;obtain⟨⟨⟨q,m⟩,s⟩,o⟩:=C
   have n:nZ P ops Q S (B5 ops p n0) f ((iX ops.size p k).setIfInBounds i true) (a.put ops[i].dst v) w:=by rw[Be b];exact ih (k+1) _ w (by omega) N
   have F:=YieldsIf.plain (ops':=fG ops p) hg hy;by_cases Y:n0=ops.size
   .refine qV D s (fun oL A=>?_) (Region.noSelect_spec H) (fun c a w=>hQ c a _ _ w) f (iX ops.size p k) a w (Region.free_spec D q) (by simpa using m) F hS n;exfalso;unfold B5 at A;rw[if_pos Y]at A;simp at A
   rw[bW,bk]at o;have J:=o.resolve_left Y;simp only[aT,bY]at J;obtain⟨W,y⟩:=J;refine ur (B:=R4 ops i) D s (by simpa using W) ?_ (Region.noSelect_spec H) (fun c a w=>hQ c a _ _ w) f (iX ops.size p k) a w (Region.free_spec D q) ?_ (by simpa using m) F hS n
   .intro j E;have z:=(y j E).2;cases l:ops[j]? with
    |none=>rw[l]at z;cases z
    |some R=>
     rw[l]at z;simp only[List.any_eq_true,aT,bW,beq_iff_eq]at z;obtain⟨e,he,hb,U⟩:=z;exact⟨R,rfl,e,by simpa using he,hb,U.imp id (fun h=>by simpa using h)⟩
   intro x hx;obtain⟨h1,z⟩:=y x hx
   have T:x<ops.size:=by
    cases l:ops[x]? with
    |none=>rw[l]at z;cases z
    |some R=>exact(aP.1 l).1
   simp only[eT,List.contains_eq_mem,decide_eq_false_iff_not]at h1;simp[iX,T,h1]
  rw[if_neg I]at h C;have N:Region.ready .any ops (iX ops.size p k)=[i]:=by simpa using C
  refine⟨fun O=>(by rw[N]at O;cases O),fun j E=>?_⟩;rw[N,ax]at E;subst E;refine wpOp_mono (fun a' w' h'=>⟨fun s=>h'.1 (fun hf=>s ?_),?_⟩) (uP hg t D h)
  .rw[Be b];exact ih (k+1) a' w' (by omega) h'.2
  unfold B5;rw[if_neg (by omega),ae,show ops.size-1=k by omega,b];rfl
def Sw{id n0:Nat}{p:Tah}{L:List OK}(X:Tai)(t:P.follows .mixedOrders=true)(y:QP Q)(k:bJ (fG ops p)=L)(l:Qe ops p n0=true){w:Tam}{a:Act}(h:∀d,vm w d->TL P (fG ops p) Q (SX X d) n0 L L 0 a d):(Code.region id ops true).wp P Q a w:=by
 have b:=l;unfold Qe at b;simp only[aT,bk,bY,cI]at b;obtain⟨⟨⟨⟨⟨⟨r,e⟩,f⟩,x⟩,m⟩,s⟩,n⟩:=b
 have c:L.length=ops.size:=by
  rw[<-k,<-e];unfold bJ fG;rw[ao]
  have:∀(q:Tah),(∀i∈q,i<ops.size)->(q.filterMap (ops[·]?)).length=q.length:=by
   intro q
   induction q with
   |nil=>intro _;rfl
   |cons i q ih=>
    intro g;have v:ops[i]?=some (ops[i]'(g i br)):=dz _;rw[List.filterMap_cons,v];simp only[bg];rw[ih (fun j u=>g j (aK _ u))]
  exact this p f
 refine wp_region_any t ?_;have o:=K5 l y ops.size 0 a _ (by omega) (c▸h _ (vm.drew w) k rfl);rw[<-GD]at o;exact oq _ _ _ _ o
end
def VB(ops:Tad)(n0:Nat):Bool:=
 decide (n0<=ops.size)&&Region.noSelect ops&&(List.range ops.size).all fun i=>
  if i<n0 then Region.free .any ops (hU ops.size i) i&&(Region.ready .any ops (hU ops.size i)).contains i&&decide (i+1<ops.size)&&
   (R4 ops i).contains (ops.size-1)&&(R4 ops i).all (fun j=>decide (i<j)&&match ops[j]? with
    |some oj=>oj.after.toList.any fun e=>Region.binds .any e&&(e.on==i||(R4 ops i).contains e.on)
    |none=>false)
  else Region.ready .any ops (hU ops.size i)==[i]
section
variable{P:Tap}{ops:Tad}{Q:Iv}{S:Tae}
def xn{n0:Nat}(k:VB ops n0=true)(H:∀c a d v w,Q (.panic c) (a.put d v) w->Q (.panic c) a w):
  ∀(f i:Nat) (a:Act) (w:Tam),i+f=ops.size->mF P ops Q S n0 f i a w->nZ P ops Q S (ops.size-1) f (hU ops.size i) a w
 |0,i,a,w,hif,h=>by
  refine⟨?_,h⟩;have:i=ops.size:=by omega
  subst this;rw[fm];intro j q;obtain⟨z,A,b,_⟩:=mem_ready.1 q;have G:j<ops.size:=(aP.1 b).1;simp[hU,G]at z
 |f+1,i,a,w,hif,h=>by
  have l:=k;unfold VB at k;simp only[aT,bk,bY,cI]at k;obtain⟨⟨N,F⟩,t⟩:=k;have y:i<ops.size:=by omega
  have s:=t i y;unfold mF at h;have E:ops[i]?=some ops[i]:=dz y;rw[E]at h;simp only at h;by_cases r:i<n0
  .rw[if_pos r]at h s;obtain⟨U,v,K,u⟩:=h;simp only[aT,bk,bY]at s;obtain⟨⟨⟨⟨p,g⟩,O⟩,o⟩,m⟩:=s;refine ur (B:=R4 ops i) E (by omega) (by simpa using o) ?_ (Region.noSelect_spec F) (fun c a w=>H c a _ _ w) f (hU ops.size i) a w (Region.free_spec E p) ?_ (by simpa using g) K U ?_
   .intro j q;obtain⟨_,n⟩:=m j q;cases b:ops[j]? with
    |none=>rw[b]at n;cases n
    |some A=>
     rw[b]at n;simp only[List.any_eq_true,aT,bW,beq_iff_eq]at n;obtain⟨e,R,T,D⟩:=n;exact⟨A,rfl,e,by simpa using R,T,D.imp id (fun h=>by simpa using h)⟩
   .intro x L;obtain⟨W,n⟩:=m x L
    have C:x<ops.size:=by
     cases b:ops[x]? with
     |none=>rw[b]at n;cases n
     |some A=>exact(aP.1 b).1
    simp[hU,C];omega
   rw[qS y];exact xn l H f (i+1) _ w (by omega) u
  rw[if_neg r]at h s;have u:Region.ready .any ops (hU ops.size i)=[i]:=by simpa using s
  refine⟨fun z=>(by rw[u]at z;cases z),fun j q=>?_⟩;rw[u,ax]at q;subst q;refine wpOp_mono (fun V J I=>⟨fun M=>I.1 (by omega),?_⟩) h;rw[qS y];exact xn l H f (j+1) V J (by omega) I.2
def JB{id n0:Nat}{L:List OK}(X:Tai)(f:P.follows .mixedOrders=true)(i:QP Q)(d:bJ ops=L)(g:VB ops n0=true){w:Tam}{a:Act}(h:∀c,vm w c->TL P ops Q (SX X c) n0 L L 0 a c):(Code.region id ops true).wp P Q a w:=by
 have b:L.length=ops.size:=by rw[<-d];simp[bJ]
 refine wp_region_any f ?_;have e:=xn g i ops.size 0 a _ (by omega) (b▸h _ (vm.drew w) d rfl);rw[<-yh]at e;exact oq _ _ _ _ e
end
def qz{P:Tap}{ops:Tad}{Q:Iv}{S:Tae}{n n0 i d j:Nat}{a:Act}{w:Tam}{m:Tab}{gd:Tao (Nat×Bool)}{L r:List OK}{x:Tbb}{vs:Tac}{v:Tan}(k:Kn n a m)(o:S w)(g:rq L m gd=some true)(l:d<n)(e:mD m x=some (.tuple vs.toArray))(f:vs[j]?=some v)(h:∀b,Kn n b ((d,v)::m)->TL P ops Q S n0 L r (i+1) b w):TL P ops Q S n0 L ((some d,.extract x j,gd)::r) i a w:=by refine qt k o g l (fun s c t q _=>?_) h;have p:=k.op e;unfold execOp;simp only[p,Instr.extract];simp[f]
def N4{P:Tap}{ops:Tad}{Q:Iv}{S:Tae}{n n0 i d:Nat}{a:Act}{w:Tam}{m:Tab}{gd:Tao (Nat×Bool)}{L r:List OK}{x y:Tbb}{t t2:Tba}{p:Tao Addr}(k:Kn n a m)(z:S w)(s:rq L m gd=some true)(u:d<n)(q:mD m x=some (.pointer p))(o:mD m y=some (.pointer none))(c:ptB P t=true)(h:∀g,Kn n g ((d,.bool p.isNone)::m)->TL P ops Q S n0 L r (i+1) g w):TL P ops Q S n0 L ((some d,.binOp .eql t x y t2,gd)::r) i a w:=by
 refine qt k z s u (fun l e D j _=>?_) h;have C:=k.op q;have B:=k.op o
 obtain⟨f,c⟩:∃f,P.underlying t=some (.pointer f):=by
  unfold ptB at c;split at c
  .exact⟨_,by assumption⟩
  cases c
 have A:=pR (w:=j) c p x y;have b:(execOp a.eval ⟨some d,.binOp .eql t x y t2,l,e,D,gd⟩)=(do let v<-(do eqGuard .eql t x y (a.eval x) (a.eval y);binOp .eql t (a.eval x) (a.eval y):Sem Tan);pure (.value v)):=by unfold execOp;rfl
 rw[b,bw,C,B,A];rfl
end Go.dF
namespace Go.Proofs.Ytjhmkaninmgilaa
open Go Go.RowKit Go.dF Go.Proofs
attribute [local irreducible] TL
def ML{w:Tam}{S:bE}{v:Tan}{d:D}{ts:Tal}(h:cg w S v d)(t:Has (.agg (.V ts)) d)(q:ts.all Ty.scalar=true):∃(cs:Tac) (ds:Taf),v=.agg cs.toArray/\d=.agg ds/\cs.length=ts.length/\ds.length=ts.length/\(∀(j:Nat) u c,cs[j]?=some u->ds[j]?=some c->cg w S u c)/\dx (.V ts) ds/\∀u∈cs,u.oneCell'=true:=by
 obtain⟨ds,rfl,e⟩:=dU.1 t;obtain⟨cs,rfl,y,k⟩:=h.zd;have f:ds.length=ts.length:=by rw[fH e,Ty.dm]
 refine⟨cs,ds,rfl,rfl,by omega,f,k,e,?_⟩;intro u p;obtain⟨j,l⟩:=aE p;have r:j<cs.length:=(aO.1 l).1;obtain⟨x,n,s⟩:=cJ e j (ts[j]'(by omega)) (by rw[Ty.dm];exact aS _);exact(k j u x l n).iE s (bY.1 q _ (aN _))
def tv{w:Tam}{S:bE}{v:Tan}{d:D}{t:Ty}(h:cg w S v d)(c:Has (.list t) d):d=.list d.A/\∃A cap,v=.slice A d.A.length cap:=by obtain⟨l,rfl,_⟩:=bO.1 c;exact⟨rfl,h.qf⟩
def mz{t:Ty}{l:Taf}(h:Has (.list t) (.list l)):∀x∈l,Has t x:=by obtain⟨e,c,_,d⟩:=bO.1 h;injection c with c;subst c;exact d
section
variable{w0 w:Tam}{S0 S:bE}{kG ow:Ow}{b b5 b6 i:Nat}{g:GS}{R:GR}{o:D}{Q:Iv}{a:Act}{m:Tab}
noncomputable def Ad:Code:=(.seq (.seq (.region 14 Hw false) (.block 2 (.loop (.seq (.seq (.region 15 Hv false) (.cond (.tmp 83) .skip (.exit 2))) (.seq (.block 3 (.seq (.region 17 Hu true) (.cond (.tmp 97) (.region 18 Ht false) .skip))) (.region 16 Di false)))))) (.seq (.region 19 zI false) (.region 20 zG false)))
def Lc{A3 A7:Tao Addr}{c3 c7:Nat}{oe es:Taf}{vo xs:Tac}(hQ:QP Q)(b2:Wf w0 S0 kG)(st:bD TT aB w0 S0 kG w S ow)(hn:pC ow)(O:GM w S ow b (R.cells g.bad) R g)(lo:fF w S ow b5 75 vo)(lx:fF w S ow b6 65 xs)(h6:w0.heap.size<=b6)(j1:b5≠b6)(d2:vo[3]?=some (.slice A3 oe.length c3))(d4:cg w S (.slice A3 oe.length c3) (.list oe))(b8:Has (.list dY) (.list oe))(b3:xs[7]?=some (.slice A7 es.length c7))(i8:xs.length=8)(g8:cg w S (.slice A7 es.length c7) (.list es))(h8:Has (.list dY) (.list es))(j0:es.length+oe.length<=300000000000)(d5:oe≠[])(k:Kn 119 a [(9,.slice none 0 0),(5,.pointer (some ⟨b5,0,none⟩)),(6,.pointer (some ⟨b6,0,none⟩)),(0,aI b),(1,.int i64 i)])(K:∀a W S' bT v7,Kn 119 a [(6,.pointer (some ⟨b6,0,none⟩)),(0,aI b),(1,.int i64 i)]->bD TT aB w0 S0 kG W S' bT->(∀u d,cg w S u d->cg W S' u d)->GM W S' bT b (R.cells g.bad) R g->fF W S' bT b6 65 (xs.set 7 v7)->pC bT->v7.oneCell'=true->
   cg W S' v7 (.list (mG es (cD 0 (oe.getD 0 .top)).q++oe))->Has (.list dY) (.list (mG es (cD 0 (oe.getD 0 .top)).q++oe))->Q .normal a W):Ad.wp Try.prog Q a w:=by
 obtain⟨e0,a3⟩:∃e0,oe[0]?=some e0:=by
  cases oe with
  |nil=>exact absurd rfl d5
  |cons x r=>exact⟨x,rfl⟩
 have i0:oe.getD 0 .top=e0:=by rw[ae,a3,bz]
 have h9:=mz b8 e0 (bQ a3);generalize hf:(cD 0 (oe.getD 0 .top)).q=f at K;unfold Ad;refine wp_seq (wp_seq (rg aB hQ Wz ?_));intro w1 e1;have s0:=SX.refl aB w1
 repeat refine sm k fun a k=>?_
 refine ay ?_;have H:=O.O e1;have i1:=bD.O e1 aB aB S ow
 refine wp_block (wp_loop_ghost (fun mm a W=>∃(j:Nat) (V:Tan) (n:Ow),mm=es.length-j/\j<=es.length/\Kn 119 a [(9,V),(10,.int i64 j),(5,.pointer (some ⟨b5,0,none⟩)),(6,.pointer (some ⟨b6,0,none⟩)),(0,aI b),(1,.int i64 i)]/\
  bD (iI 60) aB w S ow W S n/\GM W S n b (R.cells g.bad) R g/\dB W S n 60 78 dY V (mG (es.take j) f)) (es.length-0)
  ⟨0,.slice none 0 0,ow,rfl,aF _,k.sb,bD.O e1 _ _ _ _,H,by rw[List.take_zero];exact dB.nil (by rw[jQ];decide) (by decide)⟩ ?_)
 clear H i1 k s0 e1 w1;rintro mm a W ⟨j,V,n,rfl,hj,k,EC,H,EE⟩;have g0:=lo.J EC id;have f9:=lx.J EC id;refine wp_seq (wp_seq (rg aB hQ Wy ?_));intro w2 e2;have G:=H.O e2;have c9:=g0.O e2;have a8:=f9.O e2;have c0:=EC.CW O.wf H.wf (bD.O e2 (iI 60) aB S n) nE;have J:=EE.J H.wf (bD.O e2 aB aB S n) (fun h=>h);have s0:=SX.refl aB w2
 repeat (first|refine sm k fun a k=>?_|refine ld k (a8.cell id b3) fun a k=>?_)
 refine cm (c:=decide ((j:Int)<(es.length:Int))) k rfl rfl rfl fun a k=>?_;refine ay (bf k rfl ?_);by_cases e6:(j:Int)<(es.length:Int)
 .rw[if_pos (by simpa using e6)];refine wp_skip ?_;have h5:j<es.length:=by omega
  obtain⟨e,he⟩:∃e,es[j]?=some e:=⟨_,aS h5⟩;have L:=mz h8 e (bQ he);have k:=k.sb (l:=[(9,V),(10,.int i64 j),(5,.pointer (some ⟨b5,0,none⟩)),(6,.pointer (some ⟨b6,0,none⟩)),(0,aI b),(1,.int i64 i)])
  have next:∀(a:Act) (W':Tam) (U:Tan) (z:Ow),Kn 119 a [(9,U),(10,.int i64 j),(5,.pointer (some ⟨b5,0,none⟩)),(6,.pointer (some ⟨b6,0,none⟩)),(0,aI b),(1,.int i64 i)]->bD (iI 60) aB w S ow W' S z->GM W' S z b (R.cells g.bad) R g->dB W' S z 60 78 dY U (mG (es.take (j+1)) f)->
    (Code.region 16 Di false).wp Try.prog (Exit.then (fun a' w'=>∃n',n'<es.length-j/\∃(j:Nat) (V:Tan) (n:Ow),n'=es.length-j/\j<=es.length/\Kn 119 a' [(9,V),(10,.int i64 j),(5,.pointer (some ⟨b5,0,none⟩)),(6,.pointer (some ⟨b6,0,none⟩)),(0,aI b),(1,.int i64 i)]/\
     bD (iI 60) aB w S ow w' S n/\GM w' S n b (R.cells g.bad) R g/\dB w' S n 60 78 dY V (mG (es.take j) f)) (Exit.inBlock 2 (Exit.then (Code.wp Try.prog ((Code.region 19 zI false).seq (.region 20 zG false)) Q) Q))) a W':=by
   intro a W' U z k y p t;refine rg aB hQ Wx ?_;intro w4 M;have s0:=SX.refl aB w4
   repeat refine sm k fun a k=>?_
   refine iK (s:=((j+1:Nat):Int)) k (by assumption) rfl (by decide) rfl rfl (wrap64 (by omega) (by omega)) fun a k=>?_
   repeat refine sm k fun a k=>?_
   refine ay ⟨es.length-(j+1),by omega,j+1,U,z,rfl,by omega,k.sb,y.CW O.wf p.wf (bD.O M (iI 60) aB S z) nE,p.O M,t.J p.wf (bD.O M aB aB S z) (fun h=>h)⟩
  refine wp_seq (wp_block (wp_seq (jy (n0:=12) aB mix (by exact hQ) Ww (fun _=>by kernel_rfl) ?_)));intro w3 N;have p:=G.O N;have Z:=c9.O N;have Y:=a8.O N;have y:=c0.CW O.wf G.wf (bD.O N (iI 60) aB S n) nE;have t:=J.J G.wf (bD.O N aB aB S n) (fun h=>h);have s0:=SX.refl aB w3;obtain⟨bx,ox,cx,ux,a5,f2,a0,i2,a6,j2,e9⟩:=y8 (g8.J y) he L;obtain⟨bo,oo,co,uo,d1,i4,i9,j4,i7,j3,f0⟩:=y8 (d4.J y) a3 h9;have f1:=p.wf.s _ _ f2;have i3:=p.wf.s _ _ i4
  repeat (first|refine sm k fun a k=>?_|refine ld k (Y.cell id b3) fun a k=>?_)
  rw[a5]at k;refine oR (el:=78) (sz:=29) k (by assumption) rfl (by decide) rfl rfl (by kernel_rfl) (by kernel_rfl) (by omega) (by omega) fun a k=>?_;rw[bP]at k
  repeat refine sm k fun a k=>?_
  refine ky (v:=.int i64 (cD 0 e).q) k (by assumption) rfl (by decide) rfl (by kernel_rfl) (by kernel_rfl) (eP f1 (fun h=>h) e9) fun a k=>?_
  repeat (first|refine sm k fun a k=>?_|refine ld k (Z.cell id d2) fun a k=>?_)
  rw[d1]at k;refine oR (el:=78) (sz:=29) k (by assumption) rfl (by decide) rfl rfl (by kernel_rfl) (by kernel_rfl) (by omega) (by have:=(aO.1 a3).1;omega) fun a k=>?_
  repeat refine sm k fun a k=>?_
  refine ky (v:=.int i64 (cD 0 e0).q) k (by assumption) rfl (by decide) rfl (by kernel_rfl) (by kernel_rfl) (eP i3 (fun h=>h) f0) fun a k=>?_;refine cm (c:=decide ((cD 0 e).q<(cD 0 e0).q)) k rfl rfl rfl fun a k=>?_;refine ay (bf k rfl ?_);have e7:f=(cD 0 e0).q:=by rw[<-hf,i0]
  have a1:=I7 (f:=f) he;by_cases hc:(cD 0 e).q<(cD 0 e0).q
  .rw[if_pos (by simpa using hc)];rw[if_pos (by rw[e7];exact hc)]at a1;refine rg (fun B=>n B=some 60) hQ Wv ?_;intro w4 M;have F:=p.O M;have c4:=Y.O M;have f5:=y.CW O.wf p.wf (bD.O M (iI 60) aB S n) nE;have d7:=t.J p.wf (bD.O M aB aB S n) (fun h=>h);have s0:=SX.refl (fun B=>n B=some 60) w4;have g5:¬n b6=some 60:=by rw[c4.ow];intro e;cases e
   have g1:¬n bx=some 60:=F.wf.nx f2 (by decide);have k:=k.sb (l:=[(9,V),(10,.int i64 j),(5,.pointer (some ⟨b5,0,none⟩)),(6,.pointer (some ⟨b6,0,none⟩)),(0,aI b),(1,.int i64 i)])
   repeat (first|refine sm k fun a k=>?_|refine ld k (c4.cell g5 b3) fun a k=>?_)
   rw[a5]at k;refine oR (el:=78) (sz:=29) k (by assumption) rfl (by decide) rfl rfl (by kernel_rfl) (by kernel_rfl) (by omega) (by omega) fun a k=>?_;rw[bP]at k;refine lN (vs:=ux) k rfl a0 (fun w' g7 q v hv=>eP (by rw[M.heap];exact f1) g1 ((M.cell _).trans (i2 q v hv)) w' g7) fun a k=>?_;have g9:=Kt L a0 a6;refine mn (kk:=29) (T:=78) k (by decide) rfl (by decide) rfl (by kernel_rfl) (by show ux.toArray.size=29;rw[bV];exact a0) (fun _=>SX.alloc _ _ _) fun a k=>?_;obtain⟨a2,a9⟩:=bD.alloc F.wf (.cells (Value.agg ux.toArray).cells 78);have d6:=d7.J F.wf a2 (fun h=>h);have i6:=F.J a2 a9;refine nk k (by decide) rfl (by decide) fun ty f6 af=>?_;obtain⟨v',w',I,bT,C,b1,b7⟩:=d6.E0 (P:=Try.prog) (tt:=28) (by kernel_rfl) rfl a9 ty w4.heap.size (d:=e) L (us:=ux) (by rw[jQ];exact a0) (heap_alloc_new w4 _) (fun q u c h1 h2=>((a6 q u c h1 h2).J (bD.O M aB aB S n)).J a2) (tM (by have:=FN (es:=es.take j) (f:=f);rw[aA]at this;omega));have s1:SX (fun B=>n B=some 60) w4 w':=(SX.alloc _ _ _).trans (SX.iw (fun _ h=>h) C);refine⟨v',w',ic (k.op rfl) (k.op rfl) I,fun _=>s1,fun a k=>?_⟩
   repeat refine sm k fun a k=>?_
   refine ay ?_;refine next a w' v' bT (k.sb) (f5.CW O.wf F.wf (bD.trN F.wf a9 a2 C nE) nE) (i6.loc C b1 ⟨by decide,by decide⟩) ?_
   rw[a1];exact b7
  rw[if_neg (by simpa using hc)];rw[if_neg (by rw[e7];exact hc)]at a1;refine wp_skip (next a w3 V n (k.sb) y p ?_);rw[a1];exact t
 rw[if_neg (by simpa using e6)];refine wp_exit ?_;have h7:j=es.length:=by omega
 subst h7;rw[dK]at J;show(Code.seq (.region 19 zI false) (.region 20 zG false)).wp Try.prog Q a w2;refine wp_seq (rg (fun B=>n B=some 60) hQ Wu ?_);intro w3 N;have p:=G.O N;have Z:=c9.O N;have Y:=a8.O N;have y:=c0.CW O.wf G.wf (bD.O N (iI 60) aB S n) nE;have t:=J.J G.wf (bD.O N aB aB S n) (fun h=>h);have s0:=SX.refl (fun B=>n B=some 60) w3;have g6:¬n b5=some 60:=by rw[Z.ow];intro e;cases e
 repeat (first|refine sm k fun a k=>?_|refine ld k (Z.cell g6 d2) fun a k=>?_)
 refine nk k (by decide) rfl (by decide) fun ty f6 af=>?_;obtain⟨A,c,c1,g2,hA,h3,h4,h0⟩:=(d4.J y).source (fun d hd=>(cB (mz b8 d hd)).1);injection g2 with g4 _ g3;subst g4 g3;obtain⟨v',w',I,bT,C,b1,b7⟩:=t.mq (P:=Try.prog) (tt:=28) (ys:=oe) (by kernel_rfl) rfl p.wf ty A3 c3 c1 hA h3 h4 (mz b8) h0 (tM (by have:=FN (es:=es) (f:=f);omega));have s1:SX (fun B=>n B=some 60) w3 w':=SX.iw (fun _ h=>h) C;refine⟨v',w',ic (k.op rfl) (k.op rfl) I,fun _=>s1,fun a k=>?_⟩
 repeat refine sm k fun a k=>?_
 refine ay ?_;have b9:=p.loc C b1 ⟨by decide,by decide⟩;have f8:=Y.J C id;have f4:=y.CW O.wf p.wf C nE;refine rg aB hQ Wt ?_;intro w8 e8;have a4:=b9.O e8;have c2:=f8.O e8;have a7:=f4.CW O.wf b9.wf (bD.O e8 (iI 60) aB S bT) nE;have d9:=b7.J b9.wf (bD.O e8 aB aB S bT) (fun h=>h);have s0:=SX.refl aB w8;obtain⟨Av,cv,b4⟩:=d9.slice
 repeat refine sm k fun a k=>?_
 refine jw (cur:=xs) k (by decide) rfl (by kernel_rfl) rfl rfl (by rw[b4];rfl) c2.heap (by omega) (by rw[b4];rfl) (fun h=>absurd rfl h) fun a k=>?_;refine ay ?_;obtain⟨X,b0,f7⟩:=c2.set a4.wf (us:=xs.set 7 v');have i5:=a4.J X b0;have d8:=d9.J a4.wf X (fun h=>h);obtain⟨S',z,E,d0,d3,e5⟩:=d8.freeze b0;have f3:=i5.loc E d0 ⟨by decide,by decide⟩;have c6:=f7.J E id;have sa:bD TT aB w0 S0 kG w8 S bT:=rJ b2 O.wf st a7 nE;have sb:=rJ b2 a4.wf sa X (fun B hb=>by rw[show B=b6 from hb];exact h6);have sc:=rJ b2 b0 sb E nE;refine K a _ S' z v' (k.sb) sc (fun u d hr=>((hr.J a7).J X).J E) f3 c6 ?_ (by rw[b4];rfl) d3 d8.has;intro B l hl;have h1:=(E.iw B l hl);rcases h1 with h1|h1
 .rcases a7.iw B l h1 with h2|h2
  .exact hn B l h2
  rw[show l=60 from h2]at hl;exact absurd hl (e5 B)
 rw[show l=60 from h1]at hl;exact absurd hl (e5 B)
def Oq{f:Nat}{l:Taf}(h:cg w S (.pointer (some ⟨f,0,none⟩)) (.ptr l)):∃c:Tac,c.length=l.length/\(∀q,q<l.length->S f q)/\(∀(q:Nat) u,c[q]?=some u->w.cell? ⟨f,q,none⟩=some u)/\∀(q:Nat) u d,c[q]?=some u->l[q]?=some d->cg w S u d:=by obtain⟨b,c,e,p,n,k,j⟩:=h.qJ;injection e with e;injection e with e;injection e with e;subst e;exact⟨c,p,n,k,j⟩
def ace:bJ (fG Nc [0,1,2,3,4,5,6,7,8,9,10,11,12,13,14,15,16,17,18,19,22,23,24,25,26,20,21,27,28])=[oF 31 65 6 2,
 oL 32 28 31,
 oM 33 8,
 oI 34 28 32 33,
 oF 35 78 34 0,
 oL 36 3 35,
 oF 37 75 5 3,
 oL 38 72 37,
 oN 39 38,
 oF 40 63 39 0,
 oL 41 3 40,
 oB 42 .gtr 3 36 41,
 oM 43 42,
 oM 44 0 (some (12,true)),
 oN 45 44 (some (12,true)),
 oF 46 59 45 1 (some (12,true)),
 oL 47 54 46 (some (12,true)),
 oM 48 1 (some (12,true)),
 oI 49 54 47 48 (some (12,true)),
 oL 50 52 49 (some (12,true)),
 oF 53 75 5 3 (some (12,true)),
 oL 54 72 53 (some (12,true)),
 oN 55 54 (some (12,true)),
 oF 56 63 55 0 (some (12,true)),
 oL 57 3 56 (some (12,true)),
 oC 51 12 #[(.tmp 50)] #[52] (some (12,true)),
 (some 52,.field 67 (.tmp 51) 4,some (12,true)),
 oB 58 .gtr 3 52 57 (some (12,true)),
 oP 59 43 58 false]:=by kernel_rfl
noncomputable def Fu:Code:=(.seq (.region 4 Ng false) (.seq (.seq (.region 5 Nf false) (.block 0 (.loop (.seq (.seq (.region 6 Nd false) (.cond (.tmp 28) .skip (.exit 0))) (.seq (.block 1 (.seq (.region 8 Nc true) (.cond (.tmp 59) (.region 9 JL false) .skip))) (.region 7 JM false)))))) (.seq (.region 10 zM false) (.region 11 zJ false))))
def Lb{A7:Tao Addr}{c7 bp:Nat}{es pr:Taf}{si:Int}{vo:Tac}{x0 x1 x2 x3 x4 x5 x6:Tan}(hQ:QP Q)(a8:Wf w0 S0 kG)(st:bD TT aB w0 S0 kG w S ow)(hn:pC ow)(gm:GM w S ow b (R.cells g.bad) R g)(h5:R.la=R.lb)(lo:fF w S ow b5 75 vo)(lx:fF w S ow b6 65 [x0,x1,x2,x3,x4,x5,x6,.slice A7 es.length c7])(h6:w0.heap.size<=b6)(g9:b5≠b6)(hi:i<g.ew.length)(g5:Ok (cG g i) 0)(d9:vo[4]?=some (aI bp))(hp:cg w S (aI bp) (.ptr (.int i64 si::pr)))(j5:pr.length=4)(j6:dx (.V kz) (.int i64 si::pr))(j4:cg w S (.slice A7 es.length c7) (.list es))(k2:Has (.list dY) (.list es))(l5:es.length<=300000000000)(k:Kn 119 a [(5,.pointer (some ⟨b5,0,none⟩)),(6,.pointer (some ⟨b6,0,none⟩)),(0,aI b),(1,.int i64 i)])(L:∀a W S' E K I H G F v7,Kn 119 a [(5,.pointer (some ⟨b5,0,none⟩)),(6,.pointer (some ⟨b6,0,none⟩)),(0,aI b),(1,.int i64 i)]->bD TT aB w0 S0 kG W S' E->(∀u d,cg w S u d->cg W S' u d)->GM W S' E b (R.cells g.bad) R g->fF W S' E b5 75 vo->fF W S' E b6 65 [x0,x1,K,I,H,G,F,v7]->pC E->
   (∀(q:Nat) u d,[K,I,H,G,F][q]?=some u->(.int i64 si::pr)[q]?=some d->cg W S' u d)->cg W S' v7 (.list (oW es si (decide ((cG g i).li+(cG g i).le.length>si))))->Has (.list dY) (.list (oW es si (decide ((cG g i).li+(cG g i).le.length>si))))->Q .normal a W):Fu.wp Try.prog Q a w:=by
 have hx:g.ew[i]?=some (cG g i):=by unfold cG;rw[ae,aS hi,bz]
 generalize cG g i=sv at hx g5 L;generalize k5:decide (sv.li+sv.le.length>si)=U at L;unfold Fu;refine wp_seq (rg aB hQ abj ?_);intro i3 l2;have s0:=SX.refl aB i3
 repeat refine sm k fun a k=>?_
 refine ay ?_;refine wp_seq (wp_seq (rg aB hQ abi ?_));intro w1 e1;have s0:=SX.refl aB w1
 repeat refine sm k fun a k=>?_
 refine ay ?_
 have e1:vm w w1:=by obtain⟨a1,a2,a3,a4⟩:=l2;obtain⟨c1,U,c3,c4⟩:=e1;exact⟨c1.trans a1,U.trans a2,c3.trans a3,c4.trans a4⟩
 have Y:=gm.O e1
 let J:=fun(j:Nat) (a:Act) (W:Tam)=>∃(vk:Tan) (ko:Ow),j<=es.length/\Kn 119 a [(7,vk),(8,.int i64 j),(5,.pointer (some ⟨b5,0,none⟩)),(6,.pointer (some ⟨b6,0,none⟩)),(0,aI b),(1,.int i64 i)]/\
  bD (iI 60) aB w S ow W S ko/\GM W S ko b (R.cells g.bad) R g/\dB W S ko 60 78 dY vk (oW (es.take j) si U)
 refine wp_block (wp_loop_ghost (fun mm a W=>∃j:Nat,mm=es.length-j/\J j a W) (es.length-0)
  ⟨0,rfl,.slice none 0 0,ow,aF _,k.sb,bD.O e1 _ _ _ _,Y,by rw[List.take_zero];exact dB.nil (by rw[jQ];decide) (by decide)⟩ ?_)
 clear Y k s0;rintro mm a W ⟨j,rfl,vk,ko,hj,k,EC,Y,afX⟩;have i9:=lo.J EC id;have i6:=lx.J EC id;refine wp_seq (wp_seq (rg aB hQ abh ?_));intro w2 e2;have M:=Y.O e2;have f2:=i9.O e2;have d5:=i6.O e2;have d4:=EC.CW gm.wf Y.wf (bD.O e2 (iI 60) aB S ko) nE;have a9:=afX.J Y.wf (bD.O e2 aB aB S ko) (fun h=>h);have s0:=SX.refl aB w2
 repeat (first|refine sm k fun a k=>?_|refine ld k (d5.cell id (j:=7) rfl) fun a k=>?_)
 refine cm (c:=decide ((j:Int)<(es.length:Int))) k rfl rfl rfl fun a k=>?_;refine ay (bf k rfl ?_);by_cases h0:(j:Int)<(es.length:Int)
 .rw[if_pos (by simpa using h0)];refine wp_skip ?_;have k0:j<es.length:=by omega
  obtain⟨e,he⟩:∃e,es[j]?=some e:=⟨_,aS k0⟩;have b0:=mz k2 e (bQ he);have b3:=I4 (f:=si) (c:=U) he;have k:=k.sb (l:=[(7,vk),(8,.int i64 j),(5,.pointer (some ⟨b5,0,none⟩)),(6,.pointer (some ⟨b6,0,none⟩)),(0,aI b),(1,.int i64 i)])
  have next:∀(a:Act) (W':Tam) (t:Tan) (p:Ow),Kn 119 a [(7,t),(8,.int i64 j),(5,.pointer (some ⟨b5,0,none⟩)),(6,.pointer (some ⟨b6,0,none⟩)),(0,aI b),(1,.int i64 i)]->bD (iI 60) aB w S ow W' S p->GM W' S p b (R.cells g.bad) R g->dB W' S p 60 78 dY t (oW (es.take (j+1)) si U)->
    (Code.region 7 JM false).wp Try.prog (Exit.then (fun a' w'=>∃n',n'<es.length-j/\∃j:Nat,n'=es.length-j/\J j a' w') (Exit.inBlock 0 (Exit.then (Code.wp Try.prog ((Code.region 10 zM false).seq (.region 11 zJ false)) Q) Q))) a W':=by
   intro a W' t p k A n B;refine rg aB hQ abg ?_;intro w4 e4;have s0:=SX.refl aB w4
   repeat refine sm k fun a k=>?_
   refine iK (s:=((j+1:Nat):Int)) k (by assumption) rfl (by decide) rfl rfl (wrap64 (by omega) (by omega)) fun a k=>?_
   repeat refine sm k fun a k=>?_
   refine ay ⟨es.length-(j+1),by omega,j+1,rfl,t,p,by omega,k.sb,A.CW gm.wf n.wf (bD.O e4 (iI 60) aB S p) nE,n.O e4,B.J n.wf (bD.O e4 aB aB S p) (fun h=>h)⟩
  refine wp_seq (wp_block (wp_seq (Sw (n0:=25) aB mix (by exact hQ) ace (by kernel_rfl) ?_)));intro w3 Z;have n:=M.O Z;have a7:=f2.O Z;have a6:=d5.O Z;have A:=d4.CW gm.wf M.wf (bD.O Z (iI 60) aB S ko) nE;have B:=a9.J M.wf (bD.O Z aB aB S ko) (fun h=>h);have s0:=SX.refl aB w3;obtain⟨bx,ox,cx,ux,c9,e6,b2,k3,d0,l7,h9⟩:=y8 (j4.J A) he b0;have e0:=n.wf.s _ _ e6;obtain⟨cp,b1,b8,V,b7⟩:=Oq (hp.J A);have e5:=n.wf.s _ _ (b8 0 (by simp));obtain⟨u0,f8⟩:∃u,cp[0]?=some u:=⟨_,aS (by rw[b1];simp)⟩;have f7:=(b7 0 u0 _ f8 rfl).cQ;subst f7;have d2:=V 0 _ f8
  have tail:∀(Q2:Iv),QP Q2->(∀(a:Act) (W':Tam) (t:Tan) (p:Ow),Kn 119 a [(7,t),(8,.int i64 j),(5,.pointer (some ⟨b5,0,none⟩)),(6,.pointer (some ⟨b6,0,none⟩)),(0,aI b),(1,.int i64 i)]->bD (iI 60) aB w S ow W' S p->GM W' S p b (R.cells g.bad) R g->dB W' S p 60 78 dY t (oW (es.take (j+1)) si U)->Q2 .normal a W')->
    ∀(a:Act) (W':Tam) (cc:Bool) (l:Tab),Kn 119 a ((59,.bool cc)::l)->Kn 119 a [(7,vk),(8,.int i64 j),(5,.pointer (some ⟨b5,0,none⟩)),(6,.pointer (some ⟨b6,0,none⟩)),(0,aI b),(1,.int i64 i)]->cc=(decide ((cD 0 e).q>si)&&U)->bD aB aB w3 S ko W' S ko->Wf W' S ko->
    (Code.cond (.tmp 59) (.region 9 JL false) .skip).wp Try.prog Q2 a W':=by
   intro Q2 hQ next a W' cc l kc k V C j2
   have b9:=n.J C j2;have i4:=a6.J C id;have e7:=A.CW gm.wf n.wf (C.mono nE (fun _ h=>h)) nE;have d1:=B.J n.wf C (fun h=>h);refine bf kc rfl ?_;cases cc with
   |true=>
    rw[<-V,if_pos rfl]at b3;refine rg (fun N=>ko N=some 60) hQ abf ?_;intro w4 e4;have r:=b9.O e4;have a5:=i4.O e4;have z:=e7.CW gm.wf b9.wf (bD.O e4 (iI 60) aB S ko) nE;have O:=d1.J b9.wf (bD.O e4 aB aB S ko) (fun h=>h);have s0:=SX.refl (fun N=>ko N=some 60) w4;have j1:¬ko b6=some 60:=by rw[a5.ow];intro e;cases e
    have j0:¬ko bx=some 60:=r.wf.nx e6 (by decide)
    have i1:W'.heap[bx]?=w3.heap[bx]? :=by
     cases e:ko bx with
     |none=>exact C.free bx e0 e (fun h=>h)
     |some l=>exact C.GY bx l e0 e (fun h=>h)
    have k4:∀(q:Nat) u,ux[q]?=some u->w4.cell? ⟨bx,ox+j*29+q,none⟩=some u:=fun q u hu=>(e4.cell _).trans ((bn i1).trans (k3 q u hu))
    repeat (first|refine sm k fun a k=>?_|refine ld k (a5.cell j1 (j:=7) rfl) fun a k=>?_)
    rw[c9]at k;refine oR (el:=78) (sz:=29) k (by assumption) rfl (by decide) rfl rfl (by kernel_rfl) (by kernel_rfl) (by omega) (by omega) fun a k=>?_;rw[bP]at k;refine lN (vs:=ux) k rfl b2 (fun w' d8 q v hv=>eP (r.wf.s _ _ e6) j0 (k4 q v hv) w' d8) fun a k=>?_;have j7:=Kt b0 b2 d0;refine mn (kk:=29) (T:=78) k (by decide) rfl (by decide) rfl (by kernel_rfl) (by show ux.toArray.size=29;rw[bV];exact b2) (fun _=>SX.alloc _ _ _) fun a k=>?_;obtain⟨b4,d6⟩:=bD.alloc r.wf (.cells (Value.agg ux.toArray).cells 78);have g4:=O.J r.wf b4 (fun h=>h);have l1:=r.J b4 d6;refine nk k (by decide) rfl (by decide) fun ty l3 af=>?_;obtain⟨v',w',f9,E,d3,j3,j9⟩:=g4.E0 (P:=Try.prog) (tt:=28) (by kernel_rfl) rfl d6 ty w4.heap.size (d:=e) b0 (us:=ux) (by rw[jQ];exact b2) (heap_alloc_new w4 _) (fun q u c y X=>(((d0 q u c y X).J C).J (bD.O e4 aB aB S ko)).J b4) (tM (by have:=FK (es:=es.take j) (f:=si) (c:=U);rw[aA]at this;omega));have s1:SX (fun N=>ko N=some 60) w4 w':=(SX.alloc _ _ _).trans (SX.iw (fun _ h=>h) d3);refine⟨v',w',ic (k.op rfl) (k.op rfl) f9,fun _=>s1,fun a k=>?_⟩
    repeat refine sm k fun a k=>?_
    refine ay ?_;refine next a w' v' E (k.sb) (z.CW gm.wf r.wf (bD.trN r.wf d6 b4 d3 nE) nE) (l1.loc d3 j3 ⟨by decide,by decide⟩) ?_
    rw[b3];exact j9
   |false=>
    rw[<-V,if_neg (by decide)]at b3;refine wp_skip (next a W' vk ko k e7 b9 ?_);rw[b3];exact d1
  repeat (first|refine sm k fun a k=>?_|refine ld k (a6.cell id (j:=7) rfl) fun a k=>?_)
  rw[c9]at k;refine oR (el:=78) (sz:=29) k (by assumption) rfl (by decide) rfl rfl (by kernel_rfl) (by kernel_rfl) (by omega) (by omega) fun a k=>?_;rw[bP]at k
  repeat refine sm k fun a k=>?_
  refine ky (v:=.int i64 (cD 0 e).q) k (by assumption) rfl (by decide) rfl (by kernel_rfl) (by kernel_rfl) (eP e0 (fun h=>h) h9) fun a k=>?_
  repeat (first|refine sm k fun a k=>?_|refine ld k (a7.cell id d9) fun a k=>?_)
  refine ky (v:=.int i64 si) k (by assumption) rfl (by decide) rfl (by kernel_rfl) (by kernel_rfl) (eP e5 (fun h=>h) d2) fun a k=>?_;by_cases y:(cD 0 e).q>si
  .refine cm (c:=true) k rfl rfl (It y) fun a k=>?_;obtain⟨bs,k6,j8,l4⟩:=n.ew i sv hx;obtain⟨bl,l8,k9,k7,l6,b1⟩:=n.arr.elem (i:=i) (u:=aI bs) (by rw[h5,ab,k6];rfl);have k8:(R.la.map aI).length=g.ew.length:=by rw[ao,h5];exact n.rn
   repeat (first|refine sm k fun a k=>?_|refine ld k (n.cell id rfl) fun a k=>?_)
   rw[k9]at k;refine wQ (el:=52) (sz:=1) k rfl rfl (by rw[k8];exact hi) fun a k=>?_;refine ky (v:=aI bs) k (by assumption) rfl (by decide) rfl (by kernel_rfl) (by kernel_rfl) (eP k7 (fun h=>h) (by rw[bK];exact b1)) fun a k=>?_
   repeat (first|refine sm k fun a k=>?_|refine ld k (a7.cell id d9) fun a k=>?_)
   refine ky (v:=.int i64 si) k (by assumption) rfl (by decide) rfl (by kernel_rfl) (by kernel_rfl) (eP e5 (fun h=>h) d2) fun a k=>?_;refine gV (vs:=[aI bs]) k (by decide) rfl (by decide) U5.enter rfl (mU j8 n.wf g5) ?_;rintro e' w5 ⟨A1,n1,c1,A2,n2,c2',rfl,-,tj,RX⟩;refine⟨_,rfl,fun _=>tj.vi _,fun a k=>?_⟩;have s1:=tj.vi aB;refine Fo (off:=5) k (by assumption) rfl (by decide) rfl (by kernel_rfl) rfl fun a k=>?_;refine cm (c:=U) k rfl rfl (congrArg some k5) fun a k=>?_;refine pk k rfl rfl fun a k=>?_;refine ay (tail _ (by exact hQ) (fun a W' t p y X h3 h4=>next a W' t p y X h3 h4) a w5 U _ k (k.sb) (by simp[y]) tj RX)
  refine cm (c:=false) k rfl rfl (DD y) fun a k=>?_
  repeat refine sm k fun a k=>?_
  refine pk k rfl rfl fun a k=>?_;refine ay (tail _ (by exact hQ) (fun a W' t p y X h3 h4=>next a W' t p y X h3 h4) a w3 false _ k (k.sb) (by simp[y]) (bD.refl _ _ _ _ _) n.wf)
 rw[if_neg (by simpa using h0)];refine wp_exit ?_;have k1:j=es.length:=by omega
 subst k1;rw[dK]at a9;show(Code.seq (.region 10 zM false) (.region 11 zJ false)).wp Try.prog Q a w2;obtain⟨cp,b1,b8,V,b7⟩:=Oq (hp.J d4);have e5:=M.wf.s _ _ (b8 0 (by simp));have i0:cp.length=5:=by rw[b1];simp[j5]
 obtain⟨K,I,H,G,F,rfl⟩:∃c0 c1 U c3 c4,cp=[c0,c1,U,c3,c4]:=by
  match cp,i0 with
  | [c0,c1,U,c3,c4],_=>exact⟨c0,c1,U,c3,c4,rfl⟩
 refine wp_seq (rg aB hQ WD ?_);intro w3 Z;have n:=M.O Z;have a7:=f2.O Z;have a6:=d5.O Z;have A:=d4.CW gm.wf M.wf (bD.O Z (iI 60) aB S ko) nE;have B:=a9.J M.wf (bD.O Z aB aB S ko) (fun h=>h);have s0:=SX.refl aB w3
 have g3:∀u∈[K,I,H,G,F],u.oneCell'=true:=by intro u hu;obtain⟨q,hq⟩:=aE hu;have g2:q<5:=(aO.1 hq).1;obtain⟨d,hd,hh⟩:=cJ j6 q (kz[q]'g2) (by rw[Ty.dm];exact aS _);exact(b7 q u d hq hd).iE hh (bY.1 (show kz.all Ty.scalar=true from rfl) _ (aN g2))
 repeat (first|refine sm k fun a k=>?_|refine ld k (a7.cell id d9) fun a k=>?_)
 refine lN (vs:=[K,I,H,G,F]) k rfl rfl (fun w' d8 q v hv=>by rw[av];exact eP (n.wf.s _ _ (b8 0 (by simp))) (fun h=>h) ((Z.cell _).trans (V q v hv)) w' d8) fun a k=>?_
 repeat refine sm k fun a k=>?_
 refine ln (vs:=[K,I,H,G,F]) (cur:=[x0,x1,x2,x3,x4,x5,x6,.slice A7 es.length c7].toArray) k (by decide) rfl (by kernel_rfl) rfl rfl rfl a6.heap (by show 7<=8;omega) g3 (fun h=>absurd rfl h) fun a k=>?_;refine ay ?_;obtain⟨z,f4,a5⟩:=a6.set n.wf (us:=[x0,x1,K,I,H,G,F,.slice A7 es.length c7]);have r:=n.J z f4;have f1:=a7.J z g9;have O:=B.J n.wf z (fun h=>h);have sA:bD TT aB w0 S0 kG w3 S ko:=rJ a8 gm.wf st A nE;have sB:=rJ a8 n.wf sA z (fun N hb=>by rw[show N=b6 from hb];exact h6);have k:=k.sb (l:=[(7,vk),(5,.pointer (some ⟨b5,0,none⟩)),(6,.pointer (some ⟨b6,0,none⟩)),(0,aI b),(1,.int i64 i)]);have h8:∀u d,cg w S u d->cg (w3.setRow b6 [x0,x1,K,I,H,G,F,.slice A7 es.length c7].toArray) S u d:=fun u d hr=>(hr.J A).J z;have g1:∀(q:Nat) u d,[K,I,H,G,F][q]?=some u->(D.int i64 si::pr)[q]?=some d->cg (w3.setRow b6 [x0,x1,K,I,H,G,F,.slice A7 es.length c7].toArray) S u d:=fun q u d y X=>((b7 q u d y X).J (bD.O Z aB aB S ko)).J z;show Code.wp Try.prog _ _ a (w3.setRow b6 [x0,x1,K,I,H,G,F,.slice A7 es.length c7].toArray);generalize w3.setRow b6 [x0,x1,K,I,H,G,F,.slice A7 es.length c7].toArray=w4 at a5 r f1 O sB h8 g1 z f4⊢;refine rg aB hQ WC ?_;intro w8 e8;have c6:=r.O e8;have e9:=a5.O e8;have i8:=f1.O e8;have sC:=rJ a8 r.wf sB (bD.O e8 aB aB S ko) nE;have g7:=O.J r.wf (bD.O e8 aB aB S ko) (fun h=>h);have s0:=SX.refl aB w8;obtain⟨Av,cv,f6⟩:=g7.slice
 repeat refine sm k fun a k=>?_
 refine jw (cur:=[x0,x1,K,I,H,G,F,.slice A7 es.length c7]) k (by decide) rfl (by kernel_rfl) rfl rfl (by rw[f6];rfl) e9.heap (by show 7<8;omega) (by rw[f6];rfl) (fun h=>absurd rfl h) fun a k=>?_;refine ay ?_;obtain⟨a0,d7,i5⟩:=e9.set c6.wf (us:=[x0,x1,K,I,H,G,F,vk]);have l0:=c6.J a0 d7;have i7:=i8.J a0 g9;have g6:=g7.J c6.wf a0 (fun h=>h);obtain⟨S',p,x,f5,g0,g8⟩:=g6.freeze d7;have i2:=l0.loc x f5 ⟨by decide,by decide⟩;have f0:=i5.J x id;have f3:=i7.J x id;have sD:=rJ a8 c6.wf sC a0 (fun N hb=>by rw[show N=b6 from hb];exact h6);have sE:=rJ a8 d7 sD x nE;have h7:∀u d,cg w4 S u d->cg _ S' u d:=fun u d hr=>((hr.J (bD.O e8 aB aB S ko)).J a0).J x;refine L a _ S' p K I H G F vk (k.sb) sE (fun u d hr=>h7 u d (h8 u d hr)) i2 f3 f0 ?_ (fun q u d y X=>h7 u d (g1 q u d y X)) g0 g6.has;intro N l hl;have y:=(x.iw N l hl);rcases y with y|y
 .rcases A.iw N l y with X|X
  .exact hn N l X
  rw[show l=60 from X]at hl;exact absurd hl (g8 N)
 rw[show l=60 from y]at hl;exact absurd hl (g8 N)
end
end Go.Proofs.Ytjhmkaninmgilaa
