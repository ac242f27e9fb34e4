/- Part 9 of the proof of RaftGrown; no condition. -/
import Derived.Test.YtjhmkaninmgilaaS08
import Derived.Test.YtjhmkaninmgilaaS04
import Derived.Test.YtjhmkaninmgilaaS07
import Derived.KernelRfl
set_option linter.defProp false
set_option linter.unusedVariables false
set_option linter.unusedSimpArgs false
set_option maxHeartbeats 4000000
open Go.IntKind (i64)
namespace Go.Proofs.Ytjhmkaninmgilaa
open Go Go.RowKit Go.dG Go.Proofs
structure GS where
 fv:Tah
 fl:Tah
 eT:List RS
 saved:Tah
 eI:Tah
 told:Tah
 br:Tah
 cu:Tah
 read:Tah
 aT:List (Tah)
 bad:Bool
structure GR where
 fv:Tao
 fl:Tao
 l:Tao
 saved:Tao
 eI:Tao
 told:Tao
 br:Tao
 cu:Tao
 read:Tao
 aT:Tao
 la:Tai
 lb:Tai
 va:Tad
 vv:Tad
def bM(b:Nat):Tao:=.pointer (some ⟨b,0,none⟩)
structure GM(w:Tan)(S:bG)(ow:Ow)(b:Nat)(vs:Tad)(R:GR)(g:GS):Prop where
 wf:Wf w S ow
 obj:ur w ow 0 b 59 vs
 fv:bV w S R.fv (.list g.fv)
 fl:bV w S R.fl (.list g.fl)
 arr:jS w ow 1 52 R.l (R.la.map bM)
 qV:R.lb.length=g.eT.length
 eT:∀(i:Nat) s,g.eT[i]?=some s->∃bs,R.lb[i]?=some bs/\kK w S ow (1000+i) (dS 0) bs [cR s,cL s]/\dr (.Y eV) (encS s)
 saved:dA w S ow 10 65 jm R.saved g.saved
 eI:dA w S ow 11 49 iC R.eI g.eI
 told:dA w S ow 12 78 eD R.told g.told
 br:dA w S ow 13 3 I6 R.br g.br
 cu:dA w S ow 14 3 I6 R.cu g.cu
 read:dA w S ow 15 3 I6 R.read g.read
 tL:jS w ow 2 29 R.aT R.va
 wM:R.vv.length=g.aT.length
 oa:∀(i:Nat) l,g.aT[i]?=some l->∃v,R.vv[i]?=some v/\dA w S ow (100+i) 3 I6 v l
def GR.cells(R:GR)(bad:Bool):Tad:=[R.fv,R.fl,R.l,R.saved,R.eI,R.told,R.br,R.aT,R.cu,R.read,.bool bad]
def iA(w:Tan)(S:bG)(ow:Ow)(b:Nat)(g:GS):Prop:=∃R:GR,GM w S ow b (R.cells g.bad) R g/\R.la=R.lb/\R.va=R.vv
section
variable{w w':Tan}{S S':bG}{ow cE:Ow}{b:Nat}{vs:Tad}{R:GR}{g:GS}{L X:Taj}
def GM.O(h:GM w S ow b vs R g)(a:bB ax X w S ow w' S' cE)(f:Wf w' S' cE):GM w' S' cE b vs R g:=
 ⟨f,h.obj.O a id,h.fv.O a,h.fl.O a,h.arr.O h.wf a (fun h=>h),h.qV,fun i s c=>let ⟨k,e,d,j⟩:=h.eT i s c;⟨k,e,d.O h.wf f a (fun h=>h) rfl,j⟩,h.saved.O h.wf a (fun h=>h),h.eI.O h.wf a (fun h=>h),h.told.O h.wf a (fun h=>h),h.br.O h.wf a (fun h=>h),h.cu.O h.wf a (fun h=>h),h.read.O h.wf a (fun h=>h),h.tL.O h.wf a (fun h=>h),h.wM,fun i l c=>let ⟨v,e,d⟩:=h.oa i l c;⟨v,e,d.O h.wf a (fun h=>h)⟩⟩
def GM.loc{l:Nat}(h:GM w S ow b vs R g)(a:bB (iF l) X w S ow w' S' cE)(f:Wf w' S' cE)(m:60<=l/\l<100):GM w' S' cE b vs R g:=
 ⟨f,h.obj.O a cw,h.fv.O a,h.fl.O a,h.arr.O h.wf a cw,h.qV,fun i s c=>let ⟨k,e,d,j⟩:=h.eT i s c;⟨k,e,d.O h.wf f a cw rfl,j⟩,h.saved.O h.wf a cw,h.eI.O h.wf a cw,h.told.O h.wf a cw,h.br.O h.wf a cw,h.cu.O h.wf a cw,h.read.O h.wf a cw,h.tL.O h.wf a cw,h.wM,fun i l c=>let ⟨v,e,d⟩:=h.oa i l c;⟨v,e,d.O h.wf a cw⟩⟩
def GM.setObj{c:Tad}(h:GM w S ow b vs R g)(a:bB (iF 0) X w S ow w' S' cE)(j:Wf w' S' cE)(k:ur w' cE 0 b 59 c):GM w' S' cE b c R g:=
 ⟨j,k,h.fv.O a,h.fl.O a,h.arr.O h.wf a cw,h.qV,fun i s d=>let ⟨n,f,e,m⟩:=h.eT i s d;⟨n,f,e.O h.wf j a cw rfl,m⟩,h.saved.O h.wf a cw,h.eI.O h.wf a cw,h.told.O h.wf a cw,h.br.O h.wf a cw,h.cu.O h.wf a cw,h.read.O h.wf a cw,h.tL.O h.wf a cw,h.wM,fun i l d=>let ⟨v,f,e⟩:=h.oa i l d;⟨v,f,e.O h.wf a cw⟩⟩
def GM.OI{v:Tao}{la:Tai}(h:GM w S ow b vs R g)(a:bB (iF 1) X w S ow w' S' cE)(f:Wf w' S' cE)(j:jS w' cE 1 52 v (la.map bM)):GM w' S' cE b vs {R with l:=v,la:=la} g:=
 ⟨f,h.obj.O a cw,h.fv.O a,h.fl.O a,j,h.qV,fun i s c=>let ⟨m,e,d,k⟩:=h.eT i s c;⟨m,e,d.O h.wf f a cw rfl,k⟩,h.saved.O h.wf a cw,h.eI.O h.wf a cw,h.told.O h.wf a cw,h.br.O h.wf a cw,h.cu.O h.wf a cw,h.read.O h.wf a cw,h.tL.O h.wf a cw,h.wM,fun i l c=>let ⟨v,e,d⟩:=h.oa i l c;⟨v,e,d.O h.wf a cw⟩⟩
def GM.OG{v:Tao}{va:Tad}(h:GM w S ow b vs R g)(a:bB (iF 2) X w S ow w' S' cE)(f:Wf w' S' cE)(j:jS w' cE 2 29 v va):GM w' S' cE b vs {R with aT:=v,va:=va} g:=
 ⟨f,h.obj.O a cw,h.fv.O a,h.fl.O a,h.arr.O h.wf a cw,h.qV,fun i s c=>let ⟨m,e,d,k⟩:=h.eT i s c;⟨m,e,d.O h.wf f a cw rfl,k⟩,h.saved.O h.wf a cw,h.eI.O h.wf a cw,h.told.O h.wf a cw,h.br.O h.wf a cw,h.cu.O h.wf a cw,h.read.O h.wf a cw,j,h.wM,fun i l c=>let ⟨v,e,d⟩:=h.oa i l c;⟨v,e,d.O h.wf a cw⟩⟩
def GM.CH{v:Tao}{xs:Tah}(h:GM w S ow b vs R g)(a:bB (iF 10) X w S ow w' S' cE)(f:Wf w' S' cE)(j:dA w' S' cE 10 65 jm v xs):GM w' S' cE b vs {R with saved:=v} {g with saved:=xs}:=
 ⟨f,h.obj.O a cw,h.fv.O a,h.fl.O a,h.arr.O h.wf a cw,h.qV,fun i s c=>let ⟨m,e,d,k⟩:=h.eT i s c;⟨m,e,d.O h.wf f a cw rfl,k⟩,j,h.eI.O h.wf a cw,h.told.O h.wf a cw,h.br.O h.wf a cw,h.cu.O h.wf a cw,h.read.O h.wf a cw,h.tL.O h.wf a cw,h.wM,fun i l c=>let ⟨v,e,d⟩:=h.oa i l c;⟨v,e,d.O h.wf a cw⟩⟩
def GM.JJ{v:Tao}{xs:Tah}(h:GM w S ow b vs R g)(a:bB (iF 11) X w S ow w' S' cE)(f:Wf w' S' cE)(j:dA w' S' cE 11 49 iC v xs):GM w' S' cE b vs {R with eI:=v} {g with eI:=xs}:=
 ⟨f,h.obj.O a cw,h.fv.O a,h.fl.O a,h.arr.O h.wf a cw,h.qV,fun i s c=>let ⟨m,e,d,k⟩:=h.eT i s c;⟨m,e,d.O h.wf f a cw rfl,k⟩,h.saved.O h.wf a cw,j,h.told.O h.wf a cw,h.br.O h.wf a cw,h.cu.O h.wf a cw,h.read.O h.wf a cw,h.tL.O h.wf a cw,h.wM,fun i l c=>let ⟨v,e,d⟩:=h.oa i l c;⟨v,e,d.O h.wf a cw⟩⟩
def GM.FD{v:Tao}{xs:Tah}(h:GM w S ow b vs R g)(a:bB (iF 12) X w S ow w' S' cE)(f:Wf w' S' cE)(j:dA w' S' cE 12 78 eD v xs):GM w' S' cE b vs {R with told:=v} {g with told:=xs}:=
 ⟨f,h.obj.O a cw,h.fv.O a,h.fl.O a,h.arr.O h.wf a cw,h.qV,fun i s c=>let ⟨m,e,d,k⟩:=h.eT i s c;⟨m,e,d.O h.wf f a cw rfl,k⟩,h.saved.O h.wf a cw,h.eI.O h.wf a cw,j,h.br.O h.wf a cw,h.cu.O h.wf a cw,h.read.O h.wf a cw,h.tL.O h.wf a cw,h.wM,fun i l c=>let ⟨v,e,d⟩:=h.oa i l c;⟨v,e,d.O h.wf a cw⟩⟩
def GM.Bk{v:Tao}{xs:Tah}(h:GM w S ow b vs R g)(a:bB (iF 13) X w S ow w' S' cE)(f:Wf w' S' cE)(j:dA w' S' cE 13 3 I6 v xs):GM w' S' cE b vs {R with br:=v} {g with br:=xs}:=
 ⟨f,h.obj.O a cw,h.fv.O a,h.fl.O a,h.arr.O h.wf a cw,h.qV,fun i s c=>let ⟨m,e,d,k⟩:=h.eT i s c;⟨m,e,d.O h.wf f a cw rfl,k⟩,h.saved.O h.wf a cw,h.eI.O h.wf a cw,h.told.O h.wf a cw,j,h.cu.O h.wf a cw,h.read.O h.wf a cw,h.tL.O h.wf a cw,h.wM,fun i l c=>let ⟨v,e,d⟩:=h.oa i l c;⟨v,e,d.O h.wf a cw⟩⟩
def GM.CG{v:Tao}{xs:Tah}(h:GM w S ow b vs R g)(a:bB (iF 14) X w S ow w' S' cE)(f:Wf w' S' cE)(j:dA w' S' cE 14 3 I6 v xs):GM w' S' cE b vs {R with cu:=v} {g with cu:=xs}:=
 ⟨f,h.obj.O a cw,h.fv.O a,h.fl.O a,h.arr.O h.wf a cw,h.qV,fun i s c=>let ⟨m,e,d,k⟩:=h.eT i s c;⟨m,e,d.O h.wf f a cw rfl,k⟩,h.saved.O h.wf a cw,h.eI.O h.wf a cw,h.told.O h.wf a cw,h.br.O h.wf a cw,j,h.read.O h.wf a cw,h.tL.O h.wf a cw,h.wM,fun i l c=>let ⟨v,e,d⟩:=h.oa i l c;⟨v,e,d.O h.wf a cw⟩⟩
def GM.Aa{i bs:Nat}{s':RS}(h:GM w S ow b vs R g)(a:bB (iF (1000+i)) X w S ow w' S' cE)(m:Wf w' S' cE)(o:i<g.eT.length)(p:R.lb[i]?=some bs)(n:kK w' S' cE (1000+i) (dS 0) bs [cR s',cL s'])(e:dr (.Y eV) (encS s'))(t:g.aT.length<=5):GM w' S' cE b vs R {g with eT:=g.eT.set i s'}:=
 ⟨m,h.obj.O a cw,h.fv.O a,h.fl.O a,h.arr.O h.wf a cw,by rw[aK];exact h.qV,fun j s c=>(by
  rw[bF]at c;by_cases d:i=j
  .subst d;rw[if_pos rfl,if_pos o]at c;injection c with c;subst c;exact⟨bs,p,n,e⟩
  rw[if_neg d]at c;obtain⟨r,k,f,q⟩:=h.eT j s c;exact⟨r,k,f.O h.wf m a cw rfl,q⟩),h.saved.O h.wf a cw,h.eI.O h.wf a cw,h.told.O h.wf a cw,h.br.O h.wf a cw,h.cu.O h.wf a cw,h.read.O h.wf a cw,h.tL.O h.wf a cw,h.wM,fun j l c=>let ⟨v,k,f⟩:=h.oa j l c;⟨v,k,f.O h.wf a (by have u:j<g.aT.length:=(aD.1 c).1;simp only[iF];omega)⟩⟩
def GM.JK{i:Nat}{v:Tao}{l:Tah}(h:GM w S ow b vs R g)(a:bB (iF (100+i)) X w S ow w' S' cE)(m:Wf w' S' cE)(e:i<g.aT.length)(n:dA w' S' cE (100+i) 3 I6 v l)(r:i<100):GM w' S' cE b vs {R with vv:=R.vv.set i v} {g with aT:=g.aT.set i l}:=
 ⟨m,h.obj.O a cw,h.fv.O a,h.fl.O a,h.arr.O h.wf a cw,h.qV,fun i s e=>let ⟨p,k,f,o⟩:=h.eT i s e;⟨p,k,f.O h.wf m a cw rfl,o⟩,h.saved.O h.wf a cw,h.eI.O h.wf a cw,h.told.O h.wf a cw,h.br.O h.wf a cw,h.cu.O h.wf a cw,h.read.O h.wf a cw,h.tL.O h.wf a cw,by rw[aK,aK];exact h.wM,fun j x c=>(by
  rw[bF]at c;by_cases d:i=j
  .subst d;rw[if_pos rfl,if_pos e]at c;injection c with c;subst c;exact⟨v,by rw[bF,if_pos rfl,if_pos (by rw[h.wM];exact e)],n⟩
  rw[if_neg d]at c;obtain⟨q,k,f⟩:=h.oa j x c;exact⟨q,by rw[bF,if_neg d];exact k,f.O h.wf a cw⟩)⟩
def GM.cell(h:GM w S ow b vs R g){X:Taj}(d:¬X b){j:Nat}{v:Tao}(c:vs[j]?=some v):∀w',SX X w w'->w'.cell? ⟨b,j,none⟩=some v:=by intro w' a;rw[bj (a.2 b h.obj.lt d)];exact iq h.obj.heap c
def GM.W{a:Tan}(h:GM w S ow b vs R g)(e:zD w a):GM a S ow b vs R g:=by refine h.O (bB.W e ax ax S ow) ⟨fun b o hs=>by rw[e.heap];exact h.wf.s b o hs,fun b l c=>by rw[e.heap];exact h.wf.o b l c,h.wf.d⟩
end
def Pm{ex:Bool}{w:Tan}{S p:bG}{T:Tbb}{t:Ty}{v:Tao}{d:D}(h:uq ex w 0 S T t v d)(z:∀b o,S b o->p b o)(y:∀b,v.ownBlock=some b->∀o,p b o):bV w p v d:=by
 obtain⟨q,l,rfl,a,_,r⟩:=h.own;rcases a.2 with⟨rfl,hn⟩|⟨g,cap,cur,rfl,_,hg,rq,Vr,GZ,P7⟩
 .have:l=[]:=an hn;subst this;exact .nil _ _
 by_cases f:l=[]
 .subst f;exact .nil _ _
 obtain⟨A,e,_,k⟩:=bO.1 h.has;injection e with e;subst e;refine .list g 0 cap t.cells.length q l h.sz f rq a.1 (fun i B=>y g rfl _) ?_ ?_ ?_
 .intro i u m;have:=a.cells (g:=g) rfl i u m;rw[fL,aq]at this;rw[aq];exact this
 .intro i d n;exact(cZ (k d (bT n))).1
 intro i d j u c n x m;exact(r i d j u c n x m).keep z (fun _ _ _=>rfl)
def uT{w:Tan}{S a:bG}{τ:Tak}{r:bC}{v:Tao}{d:D}(h:jE w 0 S τ r v d)(c:∀b o,S b o->a b o)(f:∀j T,r.2=some (j,T)->∀b,(τ j).ownBlock=some b->∀o,a b o):bV w a v d:=by
 obtain⟨t,e⟩:=r;cases e with
 |none=>exact h.1.keep c (fun _ _ _=>rfl)
 |some jT=>
  obtain⟨j,T⟩:=jT;obtain⟨rfl,g⟩:=h;exact Pm g c (f j T rfl)
def Bw{w:Tan}{S:bG}{τ:Tak}{r:bC}{v:Tao}{d:D}(h:jE w 0 S τ r v d):Has (E3 r) d:=by
 obtain⟨t,a⟩:=r;cases a with
 |none=>exact h.2
 |some jT=>
  obtain⟨j,T⟩:=jT;exact h.2.has
def tD{w:Tan}{S:bG}{τ:Tak}{c:List bC}{b:Nat}{cells:Tah}(h:Cy w S τ c b cells):cells.length=c.length/\dr (.Y (c.map E3)) cells:=by
 obtain⟨a,T,_,m,f,k,_⟩:=h;refine⟨f,jd (by rw[aj];exact f) ?_⟩;intro j u x d g;rw[ab,cQ]at d;obtain⟨r,e,rfl⟩:=d;have i:j<a.length:=by rw[m];exact(aD.1 e).1
 exact Bw (k j r (a[j]'i) x e (aR _) g)
def AV:∀{a b:Tam} {x y:Tah},x.length=a.length->dr (.Y a) x->dr (.Y b) y->dr (.Y (a++b)) (x++y)
 |[],b,x,y,hl,_,h2=>by have:x=[]:=an hl;subst this;exact h2
 |t::a,b,x,y,hl,h1,h2=>by obtain⟨u,r,rfl,d,c⟩:=aA.1 h1;exact aA.2 ⟨u,r++y,rfl,d,AV (by simpa using hl) c h2⟩
section
variable{w w':Tan}{S S':bG}{ow cE:Ow}{l b:Nat}{s:RS}
def gE(h:kK w S ow l (dS 0) b [cR s,cL s]):dr (.Y eV) (encS s):=by obtain⟨g,f,_,a,_⟩:=h;obtain⟨e,d⟩:=tD (a.cC 0 ly (cR s) rfl rfl);obtain⟨i,c⟩:=tD (a.cC 1 ja (cL s) rfl rfl);exact AV (by rw[aj];exact e) d c
def Lb(h:kK w S ow l (dS 0) b [cR s,cL s])(B:bG)(Q:∀b o,S b o->B b o)(J:∀b o,ow b=some l->B b o):bV w B (.pointer (some ⟨b,0,none⟩)) (Dv s)/\Has tR (Dv s):=by
 obtain⟨t,X,hb,g,q⟩:=h;obtain⟨C,T0,W,O,F,V,a5⟩:=g.cC 0 ly (cR s) rfl rfl;obtain⟨Y,T1,b1,R,b3,b4,b5⟩:=g.cC 1 ja (cL s) rfl rfl;have I:ow (t 0)=some l:=q _ (.inl ⟨0,by decide,rfl⟩);have H:ow (t 1)=some l:=q _ (.inl ⟨1,by decide,rfl⟩)
 have m:∀(o:Nat) (D:List bC),(dS 0).cC[o]?=some D->∀(i:Nat) (r:bC),D[i]?=some r->∀j T,r.2=some (j,T)->∀b,(X j).ownBlock=some b->∀o,B b o:=by intro o D ho i r a j T M U N Z;exact J U Z (q U (.inr ⟨j,cU.2 ⟨D,bT ho,bE.2 ⟨r,bT a,by rw[M];rfl⟩⟩,N⟩))
 have y:bV w B (.pointer (some ⟨t 1,0,none⟩)) (.ptr (cL s)):=by
  refine .ptr (t 1) Y (cL s) (by rw[R,b3]) (fun i _=>J _ i H) (fun i v f=>iq b1 f) ?_;intro i v d f k;have E:i<ja.length:=by rw[<-R];exact(aD.1 f).1
  have a:ja[i]?=some (ja[i]'E):=aR _;exact uT (b4 i _ v d a f k) Q (m 1 ja rfl i _ a)
 have n:Dv s=.ptr ((cR s).set 13 (.ptr (cL s))):=rfl;have z:(cR s).length=C.length:=by rw[O];exact F
 constructor
 .rw[n,<-hb];refine .ptr (t 0) C _ (by rw[aK];exact z.symm) (fun i _=>J _ i I) (fun i v f=>iq W f) ?_;intro i v d f k;have E:i<ly.length:=by rw[<-O];exact(aD.1 f).1
  rw[bF]at k;by_cases e:13=i
  .subst e;rw[if_pos rfl,if_pos (by rw[F];exact E)]at k;injection k with k;subst k;have c:=g.link (by decide) 0 13 ly rfl rfl;rw[iq W f]at c;injection c with c;subst c;exact y
  rw[if_neg e]at k;have a:ly[i]?=some (ly[i]'E):=aR _;exact uT (V i _ v d a f k) Q (m 0 ly rfl i _ a)
 rw[n];refine ia.2 ⟨_,rfl,jd (by rw[aK,F,aj]) ?_⟩;intro j u x P p;rw[ab,cQ]at P;obtain⟨r,a,rfl⟩:=P;rw[bF]at p;by_cases e:13=j
 .subst e;rw[if_pos rfl,if_pos (by rw[F];decide)]at p;injection p with p;subst p
  have G:r=I5:=by have:ly[13]?=some I5:=rfl;rw[this]at a;injection a with a;exact a.symm
  subst G;rw[if_pos rfl];refine ia.2 ⟨_,rfl,?_⟩;exact(tD (g.cC 1 ja (cL s) rfl rfl)).2
 rw[if_neg e]at p;have M:j<C.length:=by rw[O];exact(aD.1 a).1
 have hc:=V j r (C[j]'M) x a (aR _) p;by_cases c:r=I5
 .exfalso;subst c;have L:=(aD.1 a).1;have K:j<51:=L;have A:((List.range 51).all fun j=>j==13|| !(ly[j]?==some I5))=true:=by decide+kernel
  have:=bU.1 A j (cz.2 K);rw[a]at this;simp only[beq_self_eq_true,Bool.not_true,Bool.or_false,beq_iff_eq]at this;exact e this.symm
 rw[if_neg c];exact Bw hc
def kF(h:kK w S ow l (dS 0) b [cR s,cL s])(m:Wf w S ow)(x:Ok s 0):
  Calls Try.prog 12 #[.pointer (some ⟨b,0,none⟩)] w fun e w'=>∃B F c1 z K c2,e=.returned (.agg [.int i64 s.role,.int i64 s.br,.int i64 s.term,.int i64 s.vote,.int i64 s.bH,.int i64 (s.li+s.le.length),.int i64 s.li,.slice B F c1,.slice z K c2].toArray)/\
   F=(vo (dU s)).length/\bB ax ax w S ow w' S ow/\Wf w' S ow:=by
 obtain⟨O,R⟩:=Lb h (fun b o=>S b o\/ow b=some l) (fun _ _ h=>.inl h) (fun _ _ h=>.inr h);refine(P9.calls rfl w (fun b o=>S b o\/ow b=some l) [.pointer (some ⟨b,0,none⟩)] [Dv s] (fun b o hs=>hs.elim (m.s b o) (m.o b l)) rfl ?_ (aA.2 ⟨_,_,rfl,R,dk.2 rfl⟩) x).mono ?_
 .intro i v d j f
  match i,j,f with
  |0,j,f=>injection j with j;injection f with f;subst j f;exact O
 rintro e r ⟨v,S',τ,rfl,hb,_,_,_,mM,_⟩
 have u:bB ax ax w S ow r S ow/\Wf r S ow:=⟨⟨hb.size,hb.os,hb.tape,hb.output,fun b _ k _ _=>hb.block b k,fun b k _ _=>hb.block b k,fun _ _ h=>h,fun b o hs=>bj (hb.block b (m.s b o hs)),fun _ _ h _=>h,fun _ _ h=>.inl h,fun _ _ h=>h,fun _ _ h=>.inl h⟩,
  ⟨fun b o hs=>ar (m.s b o hs) hb.size,fun b l Q=>ar (m.o b l Q) hb.size,m.d⟩⟩
 rcases mM with⟨c,q,hq⟩|⟨q,_⟩
 .injection q with q;subst q;unfold fY at hq;rw[if_pos rfl]at hq;obtain⟨E,ds,rfl,f,t,T,a⟩:=hq
  have y:ds=[D.int i64 s.role,.int i64 s.br,.int i64 s.term,.int i64 s.vote,.int i64 s.bH,.int i64 (s.li+s.le.length),.int i64 s.li,cD 0 (dU s),cD 1 (dU s)]:=by have e:cB 12 [Dv s]=.agg [D.int i64 s.role,.int i64 s.br,.int i64 s.term,.int i64 s.vote,.int i64 s.bH,.int i64 (s.li+s.le.length),.int i64 s.li,cD 0 (dU s),cD 1 (dU s)]:=rfl;rw[e]at f;injection f with f;exact f.symm
  subst y;have p:E.length=9:=t
  match E,p with
  | [u0,u1,u2,u3,u4,u5,u6,u7,u8],_=>
   have g0:=(a 0 _ _ _ rfl rfl rfl).1.dj;have g1:=(a 1 _ _ _ rfl rfl rfl).1.dj;have g2:=(a 2 _ _ _ rfl rfl rfl).1.dj;have Z:=(a 3 _ _ _ rfl rfl rfl).1.dj;have Y:=(a 4 _ _ _ rfl rfl rfl).1.dj;have X:=(a 5 _ _ _ rfl rfl rfl).1.dj;have W:=(a 6 _ _ _ rfl rfl rfl).1.dj;subst g0 g1 g2 Z Y X W;obtain⟨rfl,V⟩:=a 7 _ _ _ rfl rfl rfl;obtain⟨rfl,U⟩:=a 8 _ _ _ rfl rfl rfl;obtain⟨x7,l7,e7,J,_⟩:=V.own;obtain⟨x8,L,e8,I,_⟩:=U.own
   have j:∀{v:Tao} {n:Nat} {C:Tad},r.ownsRow 0 3 1 v n C->∃A c,v=.slice A n c:=by
    intro v n C P;rcases P.2 with⟨rfl,hn⟩|⟨g,cap,cur,rfl,_⟩
    .exact⟨none,0,by rw[hn]⟩
    exact⟨_,cap,rfl⟩
   obtain⟨B,H,N⟩:=j J;obtain⟨z,G,M⟩:=j I;refine⟨B,l7.length,H,z,L.length,G,by rw[N,M],?_,u⟩;have:(cD 0 (dU s)).V=l7:=by rw[e7];rfl
   unfold vo iM;rw[aj];rw[<-this];rfl
 exact absurd rfl q
def tc{τ:Tak}{v:Tao}{d:D}{ts:Tam}(h:gZ w 0 S τ [(true,pl ts)] v d):bV w S v d/\Has (.agg (.Y ts)) d:=by
 rcases h with⟨c,k,hq⟩|⟨k,_⟩
 .injection k with k;subst k;unfold fY at hq;rw[if_pos rfl]at hq;obtain⟨m,r,rfl,rfl,a,e,f⟩:=hq
  have g:∀(i:Nat) u y,m[i]?=some u->r[i]?=some y->∃t,ts[i]?=some t/\bV w S u y/\Has t y:=by
   intro i u y n q;have o:i<ts.length:=by have:=(aD.1 n).1;rw[a]at this;simpa [pl]using this
   have B:(pl ts)[i]?=some (ts[i]'o,none):=by simp[pl,aR o]
   exact⟨ts[i]'o,aR o,f i _ u y B n q⟩
  refine⟨.agg m r (by rw[a];exact e.symm) (fun i u y n q=>(g i u y n q).choose_spec.2.1),eA.2 ⟨r,rfl,jd (by rw[e];simp[pl]) ?_⟩⟩;intro j t x A z;have C:j<m.length:=by have:=(aD.1 z).1;rw[a,<-e];exact this
  obtain⟨F,p,_,E⟩:=g j (m[j]'C) x (aR _) z;rw[A]at p;injection p with p;subst p;exact E
 exact absurd rfl k
def aaE:Tam:=[.bool,I6,I6,.list eD,.ptr (.Y ky),.list iC,.list eD,.list xa]
def BP:Ty:=.agg (.Y aaE)
def CE{x:Int}(h:kK w S ow l (dS 0) b [cR s,cL s])(p:Wf w S ow)(m:1000<=l)(o:kL i64 x)(k:Ok s 20):
  Calls Try.prog 15 #[.pointer (some ⟨b,0,none⟩),.int i64 x] w fun e w'=>∃v S' cE,e=.returned v/\bB (iF l) ax w S ow w' S' cE/\Wf w' S' cE/\kK w' S' cE l (dS 0) b [cR (gX x s).2,cL (gX x s).2]/\bV w' S' v (gX x s).1/\Has BP (gX x s).1:=by
 have j:dr (.Y s15.params) ([D.int i64 x]++[cR s,cL s].flatten):=aA.2 ⟨_,_,rfl,⟨x,rfl,o⟩,gE h⟩;refine(h.call (ob0:=dS 0) (vs:=[.int i64 x]) (n:=1) c15 rfl rfl rfl rfl rfl rfl (by decide) (.inl (by decide)) rfl m p rfl rfl ?_ j k).mono ?_
 .intro i v d c g
  match i,c,g with
  |0,c,g=>injection c with c;injection g with g;subst c g;exact .int _ _
 rintro e q ⟨v,S',cE,τ,d0,outs,rfl,a,Vn,Vm,Y5,Vo,mM⟩;have e:cB 15 ([D.int i64 x]++[cR s,cL s].flatten)=.fa [(gX x s).1,.agg (cR (gX x s).2),.agg (cL (gX x s).2)]:=rfl;rw[e]at a;injection a with a;have f:outs.length=2:=Vn
 match outs,f with
 | [o1,o2],_=>
  simp only[ct,List.map_nil,dD,D.agg.injEq,and_true]at a;obtain⟨rfl,rfl,rfl⟩:=a;exact⟨v,S',cE,rfl,Vm,Y5,Vo,(tc mM).1,(tc mM).2⟩
def KP{x:D}{u:Tao}(h:kK w S ow l (dS 0) b [cR s,cL s])(q:Wf w S ow)(o:1000<=l)(p:Has iC x)(r:bV w S u x)(m:Ok s (20+(cD 12 x).V.length))(g:(cD 12 x).V.length<=2147483648):
  Calls Try.prog 17 #[.pointer (some ⟨b,0,none⟩),u] w fun e w'=>∃v S' cE,e=.returned v/\bB (iF l) ax w S ow w' S' cE/\Wf w' S' cE/\kK w' S' cE l (dS 0) b [cR (iX x s).2,cL (iX x s).2]/\bV w' S' v (iX x s).1/\Has BP (iX x s).1:=by
 have k:dr (.Y s17.params) ([x]++[cR s,cL s].flatten):=aA.2 ⟨_,_,rfl,p,gE h⟩;refine(h.call (ob0:=dS 0) (vs:=[u]) (n:=1) c17 rfl rfl rfl rfl rfl rfl (by decide) (.inl (by decide)) rfl o q rfl rfl ?_ k ⟨m,g⟩).mono ?_
 .intro i v d c j
  match i,c,j with
  |0,c,j=>injection c with c;injection j with j;subst c j;exact r
 rintro e t ⟨v,S',cE,τ,d0,outs,rfl,a,Vn,Vm,Y5,Vo,mM⟩;have e:cB 17 ([x]++[cR s,cL s].flatten)=.fa [(iX x s).1,.agg (cR (iX x s).2),.agg (cL (iX x s).2)]:=rfl;rw[e]at a;injection a with a;have f:outs.length=2:=Vn
 match outs,f with
 | [o1,o2],_=>
  simp only[ct,List.map_nil,dD,D.agg.injEq,and_true]at a;obtain⟨rfl,rfl,rfl⟩:=a;exact⟨v,S',cE,rfl,Vm,Y5,Vo,(tc mM).1,(tc mM).2⟩
end
noncomputable section
def bc(i:Nat)(f:Func):=dH i (cA f)
abbrev oM(d x:Nat)(g:Tap (Nat×Bool):=none):OK:=(some d,.move (.tmp x),g)
abbrev oA(d x:Nat)(g:Tap (Nat×Bool):=none):OK:=(some d,.assign (.tmp x),g)
abbrev oN(d x:Nat)(g:Tap (Nat×Bool):=none):OK:=(some d,.nilCheck (.tmp x),g)
abbrev oF(d t x i:Nat)(g:Tap (Nat×Bool):=none):OK:=(some d,.fieldAddr t (.tmp x) i,g)
abbrev oL(d t x:Nat)(g:Tap (Nat×Bool):=none):OK:=(some d,.load t (.tmp x),g)
abbrev oI(d t x y:Nat)(g:Tap (Nat×Bool):=none):OK:=(some d,.indexAddr t (.tmp x) (.tmp y),g)
abbrev oC(d f:Nat)(a:Tbe Tbc)(t:Tbe Nat)(g:Tap (Nat×Bool):=none):OK:=(some d,.call {callee:=.value (.func f),args:=a,argTypes:=t},g)
abbrev oE(d x t:Nat)(g:Tap (Nat×Bool):=none):OK:=(some d,.call {callee:=.builtin .len,args:=#[.tmp x],argTypes:=#[t]},g)
abbrev oP(d x y:Nat)(b:Bool)(g:Tap (Nat×Bool):=none):OK:=(some d,.pick (.tmp x) (.tmp y) (.const (.bool b)),g)
abbrev oB(d:Nat)(o:BinOp)(t x y:Nat)(g:Tap (Nat×Bool):=none):OK:=(some d,.binOp o t (.tmp x) (.tmp y) t,g)
abbrev oS(t x y:Nat)(g:Tap (Nat×Bool):=none):OK:=(none,.store t (.tmp x) (.tmp y),g)
def To:=bc 0 Try.f54
def Tn:=bc 1 Try.f54
def Tm:=bc 2 Try.f54
def Tl:=bc 3 Try.f54
def ab6:bK To=[(some 4,.assign (.const (.slice none 0 0)),none)]:=by kernel_rfl
def ab5:bK Tn=[oM 5 0,
 oE 6 5 29,
 oM 7 1,
 oB 8 .leq 3 6 7]:=by kernel_rfl
def ab4:bK Tm=[oM 9 0,
 (some 10,.buildSlice 29 1 #[(0,.const (.int i64 0))],none),
 (some 11,.call {callee:=.builtin .append,args:=#[(.tmp 9),(.tmp 10)],argTypes:=#[29,29]},none),
 oA 0 11]:=by kernel_rfl
def ab3:bK Tl=[oM 12 0,
 oA 4 12]:=by kernel_rfl
def Yl:cA Try.f54=(.seq (.region 0 To false) (.seq (.block 0 (.loop (.seq (.seq (.region 1 Tn false) (.cond (.tmp 8) .skip (.exit 0))) (.block 1 (.region 2 Tm false))))) (.seq (.region 3 Tl false) .ret))):=by kernel_rfl
def Oz:Try.f54.body=some (cA Try.f54):=by kernel_rfl
def agO:Try.f54.ntmps=13:=by kernel_rfl
def abi:Try.f54.results=#[.tmp 4]:=by kernel_rfl
def J3(a:Tbe Tao)(w:Tan):(callFunc 54 a).run Try.prog w=.ok (.enter 54 a) w:=by
 unfold callFunc
 have b:Try.f54.name≠ "runtime.NumGoroutine" :=by decide+kernel
 simp[Try.func54,Oz,b]
def Tv:=bc 0 Try.f19
def Tu:=bc 1 Try.f19
def Jw:=bc 2 Try.f19
def Tt:=bc 3 Try.f19
def NM:=bc 4 Try.f19
def NL:=bc 5 Try.f19
def NK:=bc 6 Try.f19
def NJ:=bc 7 Try.f19
def Jv:=bc 8 Try.f19
def NI:=bc 9 Try.f19
def DP:=bc 10 Try.f19
def DO:=bc 11 Try.f19
def DN:=bc 12 Try.f19
def DM:=bc 13 Try.f19
def Aj:=bc 14 Try.f19
def acr:bK Tv=[oM 7 0,
 oN 8 7,
 oF 9 59 8 1,
 oL 10 54 9,
 oM 11 1,
 oI 12 54 10 11,
 oL 13 52 12,
 oC 14 12 #[(.tmp 13)] #[52],
 (some 4,.alloc 67,none),
 oS 67 4 14]:=by kernel_rfl
def acq:bK Tu=[oF 15 67 4 2,
 oF 16 61 15 0,
 oL 17 3 16,
 oM 18 0,
 oN 19 18,
 oF 20 59 19 7,
 oL 21 29 20,
 oM 22 1,
 oI 23 29 21 22,
 oL 24 3 23,
 oB 25 .lss 3 17 24,
 oM 26 25,
 oF 27 67 4 2 (some (11,false)),
 oF 28 61 27 0 (some (11,false)),
 oL 29 3 28 (some (11,false)),
 (some 30,.binOp .gtr 3 (.tmp 29) (.const (.int i64 5000)) 3,some (11,false)),
 (some 31,.pick (.tmp 26) (.const (.bool true)) (.tmp 30),none)]:=by kernel_rfl
def acp:bK Jw=[oM 32 0,
 oM 33 0,
 oN 34 33,
 oF 35 59 34 9,
 oL 36 4 35,
 oM 37 36,
 oF 38 67 4 2 (some (5,false)),
 oF 39 61 38 0 (some (5,false)),
 oL 40 3 39 (some (5,false)),
 oM 41 0 (some (5,false)),
 oN 42 41 (some (5,false)),
 oF 43 59 42 7 (some (5,false)),
 oL 44 29 43 (some (5,false)),
 oM 45 1 (some (5,false)),
 oI 46 29 44 45 (some (5,false)),
 oL 47 3 46 (some (5,false)),
 oB 48 .lss 3 40 47 (some (5,false)),
 (some 49,.pick (.tmp 37) (.const (.bool true)) (.tmp 48),none),
 oN 50 32,
 oF 51 59 50 9,
 oS 4 51 49]:=by kernel_rfl
def aco:bK Tt=[oM 52 0,
 oN 53 52,
 oF 54 59 53 7,
 oL 55 29 54,
 oM 56 1,
 oF 57 67 4 2,
 oF 58 61 57 0,
 oL 59 3 58,
 oI 60 29 55 56,
 oS 3 60 59]:=by kernel_rfl
def acn:bK NM=[oM 61 0,
 oN 62 61,
 oF 63 59 62 6,
 oL 64 57 63,
 oM 65 1,
 oM 66 0,
 oN 67 66,
 oF 68 59 67 6,
 oL 69 57 68,
 oM 70 1,
 oI 71 57 69 70,
 oL 72 29 71,
 oF 73 67 4 2,
 oF 74 61 73 0,
 oL 75 3 74,
 oC 76 54 #[(.tmp 72),(.tmp 75)] #[29,3],
 oI 77 57 64 65,
 oS 29 77 76]:=by kernel_rfl
def acm:bK NL=[oM 78 0,
 oN 79 78,
 oF 80 59 79 6,
 oL 81 57 80,
 oM 82 1,
 oI 83 57 81 82,
 oL 84 29 83,
 oF 85 67 4 2,
 oF 86 61 85 0,
 oL 87 3 86,
 oI 88 29 84 87,
 oL 89 3 88,
 oA 5 89]:=by kernel_rfl
def ack:bK NK=[oM 90 5,
 (some 91,.binOp .neq 3 (.tmp 90) (.const (.int i64 0)) 3,none),
 oM 92 91,
 oF 93 67 4 2 (some (2,true)),
 oF 94 61 93 1 (some (2,true)),
 oL 95 3 94 (some (2,true)),
 oM 96 5 (some (2,true)),
 oB 97 .neq 3 95 96 (some (2,true)),
 oP 98 92 97 false]:=by kernel_rfl
def acj:bK NJ=[oM 99 0,
 oN 100 99,
 oF 101 59 100 9,
 (none,.store 4 (.tmp 101) (.const (.bool true)),none)]:=by kernel_rfl
def aci:bK Jv=[oM 102 0,
 oN 103 102,
 oF 104 59 103 6,
 oL 105 57 104,
 oM 106 1,
 oI 107 57 105 106,
 oL 108 29 107,
 oF 109 67 4 2,
 oF 110 61 109 0,
 oL 111 3 110,
 oF 112 67 4 2,
 oF 113 61 112 1,
 oL 114 3 113,
 oI 115 29 108 111,
 oS 3 115 114]:=by kernel_rfl
def ach:bK NI=[oF 116 67 4 0,
 oL 117 3 116,
 (some 118,.binOp .eql 3 (.tmp 117) (.const (.int i64 2)) 3,none)]:=by kernel_rfl
def WZ:bK DP=[oM 119 0,
 oM 120 0,
 oN 121 120,
 oF 122 59 121 5,
 oL 123 29 122,
 oF 124 67 4 2,
 oF 125 61 124 0,
 oL 126 3 125,
 oC 127 54 #[(.tmp 123),(.tmp 126)] #[29,3],
 oN 128 119,
 oF 129 59 128 5,
 oS 29 129 127]:=by kernel_rfl
def WY:bK DO=[oM 130 0,
 oN 131 130,
 oF 132 59 131 5,
 oL 133 29 132,
 oF 134 67 4 2,
 oF 135 61 134 0,
 oL 136 3 135,
 oI 137 29 133 136,
 oL 138 3 137,
 oA 6 138]:=by kernel_rfl
def WX:bK DN=[oM 139 6,
 (some 140,.binOp .neq 3 (.tmp 139) (.const (.int i64 0)) 3,none),
 oM 141 140,
 oM 142 6 (some (2,true)),
 oM 143 1 (some (2,true)),
 (some 144,.binOp .add 3 (.tmp 143) (.const (.int i64 1)) 3,some (2,true)),
 oB 145 .neq 3 142 144 (some (2,true)),
 oP 146 141 145 false]:=by kernel_rfl
def WW:bK DM=[oM 147 0,
 oN 148 147,
 oF 149 59 148 9,
 (none,.store 4 (.tmp 149) (.const (.bool true)),none)]:=by kernel_rfl
def WV:bK Aj=[oM 150 0,
 oN 151 150,
 oF 152 59 151 5,
 oL 153 29 152,
 oF 154 67 4 2,
 oF 155 61 154 0,
 oL 156 3 155,
 oM 157 1,
 (some 158,.binOp .add 3 (.tmp 157) (.const (.int i64 1)) 3,none),
 oI 159 29 153 156,
 oS 3 159 158]:=by kernel_rfl
def Yn:cA Try.f19=(.seq (.region 0 Tv false) (.seq (.seq (.region 1 Tu true) (.cond (.tmp 31) (.seq (.region 2 Jw true) .ret) .skip)) (.seq (.region 3 Tt true) (.seq (.region 4 NM true) (.seq (.region 5 NL true) (.seq (.seq (.region 6 NK false) (.cond (.tmp 98) (.region 7 NJ false) .skip)) (.seq (.region 8 Jv true) (.seq (.region 9 NI false) (.cond (.tmp 118) (.seq (.region 10 DP true) (.seq (.region 11 DO true) (.seq (.seq (.region 12 DN false) (.cond (.tmp 146) (.region 13 DM false) .skip)) (.region 14 Aj true)))) .skip))))))))):=by kernel_rfl
def OB:Try.f19.body=some (cA Try.f19):=by kernel_rfl
def agQ:Try.f19.ntmps=160:=by kernel_rfl
def MN:Try.f19.results=#[]:=by kernel_rfl
def RR(a:Tbe Tao)(w:Tan):(callFunc 19 a).run Try.prog w=.ok (.enter 19 a) w:=by
 unfold callFunc
 have b:Try.f19.name≠ "runtime.NumGoroutine" :=by decide+kernel
 simp[Try.func19,OB,b]
def Ts:=bc 0 Try.f30
def Tr:=bc 1 Try.f30
def Tq:=bc 2 Try.f30
def Tp:=bc 3 Try.f30
def NH:=bc 4 Try.f30
def NG:=bc 5 Try.f30
def NF:=bc 6 Try.f30
def ND:=bc 8 Try.f30
def Jt:=bc 9 Try.f30
def Ju:=bc 7 Try.f30
def Ai:=bc 10 Try.f30
def Ah:=bc 11 Try.f30
def HA:=bc 12 Try.f30
def Hz:=bc 13 Try.f30
def Hy:=bc 14 Try.f30
def Hx:=bc 15 Try.f30
def Hw:=bc 17 Try.f30
def Hv:=bc 18 Try.f30
def DL:=bc 16 Try.f30
def Ag:=bc 19 Try.f30
def Af:=bc 20 Try.f30
def Ae:=bc 21 Try.f30
def acg:bK Ts=[(some 5,.box 75 (.tmp 2),none)]:=by kernel_rfl
def acf:bK Tr=[oM 11 0,
 oN 12 11,
 oF 13 59 12 2,
 oL 14 55 13,
 oM 15 1,
 oI 16 55 14 15,
 oL 17 65 16,
 (some 6,.alloc 65,none),
 oS 65 6 17]:=by kernel_rfl
def ace:bK Tq=[oF 18 75 5 1,
 oL 19 61 18,
 oF 20 65 6 0,
 oS 61 20 19]:=by kernel_rfl
def acd:bK Tp=[oF 21 75 5 3,
 oL 22 72 21,
 (some 23,.binOp .neq 72 (.tmp 22) (.const (.pointer none)) 72,none)]:=by kernel_rfl
def acb:bK NH=[(some 7,.assign (.const (.slice none 0 0)),none)]:=by kernel_rfl
def aca:bK NG=[(some 8,.assign (.const (.int i64 0)),none)]:=by kernel_rfl
def ab9:bK NF=[oM 24 8,
 oF 25 65 6 2,
 oL 26 28 25,
 oE 27 26 28,
 oB 28 .lss 3 24 27]:=by kernel_rfl
def ab7:bK Jt=[oM 60 7,
 oF 61 65 6 2,
 oL 62 28 61,
 oM 63 8,
 oI 64 28 62 63,
 oL 65 78 64,
 (some 66,.buildSlice 28 1 #[(0,.tmp 65)],none),
 (some 67,.call {callee:=.builtin .append,args:=#[(.tmp 60),(.tmp 66)],argTypes:=#[28,28]},none),
 oA 7 67]:=by kernel_rfl
def ab8:bK Ju=[oM 29 8,
 (some 30,.binOp .add 3 (.tmp 29) (.const (.int i64 1)) 3,none),
 oA 8 30]:=by kernel_rfl
def WU:bK Ai=[oF 68 75 5 3,
 oL 69 72 68,
 oN 70 69,
 oL 71 63 70,
 oF 72 65 6 1,
 oS 63 72 71]:=by kernel_rfl
def WT:bK Ah=[oM 73 7,
 oF 74 65 6 2,
 oS 28 74 73]:=by kernel_rfl
def WS:bK HA=[oF 75 75 5 2,
 oL 76 28 75,
 oE 77 76 28,
 (some 78,.binOp .gtr 3 (.tmp 77) (.const (.int i64 0)) 3,none)]:=by kernel_rfl
def WR:bK Hz=[(some 9,.assign (.const (.slice none 0 0)),none)]:=by kernel_rfl
def WQ:bK Hy=[(some 10,.assign (.const (.int i64 0)),none)]:=by kernel_rfl
def WO:bK Hx=[oM 79 10,
 oF 80 65 6 2,
 oL 81 28 80,
 oE 82 81 28,
 oB 83 .lss 3 79 82]:=by kernel_rfl
def WM:bK Hw=[oF 86 65 6 2,
 oL 87 28 86,
 oM 88 10,
 oI 89 28 87 88,
 oF 90 78 89 0,
 oL 91 3 90,
 oF 92 75 5 2,
 oL 93 28 92,
 (some 94,.indexAddr 28 (.tmp 93) (.const (.int i64 0)),none),
 oF 95 78 94 0,
 oL 96 3 95,
 oB 97 .lss 3 91 96]:=by kernel_rfl
def WL:bK Hv=[oM 98 9,
 oF 99 65 6 2,
 oL 100 28 99,
 oM 101 10,
 oI 102 28 100 101,
 oL 103 78 102,
 (some 104,.buildSlice 28 1 #[(0,.tmp 103)],none),
 (some 105,.call {callee:=.builtin .append,args:=#[(.tmp 98),(.tmp 104)],argTypes:=#[28,28]},none),
 oA 9 105]:=by kernel_rfl
def WN:bK DL=[oM 84 10,
 (some 85,.binOp .add 3 (.tmp 84) (.const (.int i64 1)) 3,none),
 oA 10 85]:=by kernel_rfl
def WK:bK Ag=[oM 106 9,
 oF 107 75 5 2,
 oL 108 28 107,
 (some 109,.call {callee:=.builtin .append,args:=#[(.tmp 106),(.tmp 108)],argTypes:=#[28,28]},none),
 oA 9 109]:=by kernel_rfl
def WJ:bK Af=[oM 110 9,
 oF 111 65 6 2,
 oS 28 111 110]:=by kernel_rfl
def WI:bK Ae=[oM 112 0,
 oN 113 112,
 oF 114 59 113 2,
 oL 115 55 114,
 oM 116 1,
 oL 117 65 6,
 oI 118 55 115 116,
 oS 65 118 117]:=by kernel_rfl
def Ym:cA Try.f30=(.seq (.region 0 Ts false) (.seq (.region 1 Tr false) (.seq (.region 2 Tq false) (.seq (.seq (.region 3 Tp false) (.cond (.tmp 23) (.seq (.region 4 NH false) (.seq (.seq (.region 5 NG false) (.block 0 (.loop (.seq (.seq (.region 6 NF false) (.cond (.tmp 28) .skip (.exit 0))) (.seq (.block 1 (.seq (.region 8 ND true) (.cond (.tmp 59) (.region 9 Jt false) .skip))) (.region 7 Ju false)))))) (.seq (.region 10 Ai false) (.region 11 Ah false)))) .skip)) (.seq (.seq (.region 12 HA false) (.cond (.tmp 78) (.seq (.region 13 Hz false) (.seq (.seq (.region 14 Hy false) (.block 2 (.loop (.seq (.seq (.region 15 Hx false) (.cond (.tmp 83) .skip (.exit 2))) (.seq (.block 3 (.seq (.region 17 Hw true) (.cond (.tmp 97) (.region 18 Hv false) .skip))) (.region 16 DL false)))))) (.seq (.region 19 Ag false) (.region 20 Af false)))) .skip)) (.region 21 Ae true)))))):=by kernel_rfl
def OA:Try.f30.body=some (cA Try.f30):=by kernel_rfl
def agP:Try.f30.ntmps=119:=by kernel_rfl
def abj:Try.f30.results=#[]:=by kernel_rfl
def RQ(a:Tbe Tao)(w:Tan):(callFunc 30 a).run Try.prog w=.ok (.enter 30 a) w:=by
 unfold callFunc
 have b:Try.f30.name≠ "runtime.NumGoroutine" :=by decide+kernel
 simp[Try.func30,OA,b]
def Tz:=bc 0 Try.f14
def Tx:=bc 1 Try.f14
def Tw:=bc 2 Try.f14
def NU:=bc 3 Try.f14
def NT:=bc 4 Try.f14
def NS:=bc 5 Try.f14
def NR:=bc 6 Try.f14
def NO:=bc 8 Try.f14
def NN:=bc 9 Try.f14
def HE:=bc 10 Try.f14
def HD:=bc 11 Try.f14
def HC:=bc 12 Try.f14
def HB:=bc 13 Try.f14
def DR:=bc 14 Try.f14
def Ak:=bc 15 Try.f14
def NP:=bc 7 Try.f14
def DQ:=bc 16 Try.f14
def acC:bK Tz=[(some 6,.box 75 (.tmp 2),none)]:=by kernel_rfl
def acB:bK Tx=[oF 12 75 6 0,
 oL 13 4 12]:=by kernel_rfl
def acA:bK Tw=[oM 14 0,
 oM 15 1,
 oL 16 75 6,
 oC 17 30 #[(.tmp 14),(.tmp 15),(.tmp 16)] #[24,3,75]]:=by kernel_rfl
def acz:bK NU=[oM 18 0,
 oN 19 18,
 oF 20 59 19 3,
 oL 21 56 20,
 oE 22 21 56,
 (some 23,.binOp .lss 3 (.tmp 22) (.const (.int i64 400)) 3,none),
 oM 24 23,
 oM 25 3 (some (6,true)),
 (some 26,.unOp .not 4 (.tmp 25),some (6,true)),
 oP 27 24 26 false]:=by kernel_rfl
def acy:bK NT=[oM 28 0,
 oM 29 0,
 oN 30 29,
 oF 31 59 30 3,
 oL 32 56 31,
 oF 33 75 6 4,
 oL 34 56 33,
 (some 35,.call {callee:=.builtin .append,args:=#[(.tmp 32),(.tmp 34)],argTypes:=#[56,56]},none),
 oN 36 28,
 oF 37 59 36 3,
 oS 56 37 35]:=by kernel_rfl
def acx:bK NS=[(some 8,.assign (.const (.int i64 0)),none)]:=by kernel_rfl
def acw:bK NR=[oM 38 8,
 oF 39 75 6 5,
 oL 40 28 39,
 oE 41 40 28,
 oB 42 .lss 3 38 41]:=by kernel_rfl
def acu:bK NO=[oF 45 75 6 5,
 oL 46 28 45,
 oM 47 8,
 oI 48 28 46 47,
 oL 49 78 48,
 (some 9,.alloc 78,none),
 oS 78 9 49]:=by kernel_rfl
def acs:bK NN=[oM 50 0,
 oN 51 50,
 oF 52 59 51 4,
 oL 53 28 52,
 oE 54 53 28,
 oF 55 78 9 0,
 oL 56 3 55,
 oB 57 .leq 3 54 56]:=by kernel_rfl
def W9:bK HE=[oM 58 0,
 oM 59 0,
 oN 60 59,
 oF 61 59 60 4,
 oL 62 28 61,
 (some 63,.build 78 #[],none),
 (some 64,.buildSlice 28 1 #[(0,.tmp 63)],none),
 (some 65,.call {callee:=.builtin .append,args:=#[(.tmp 62),(.tmp 64)],argTypes:=#[28,28]},none),
 oN 66 58,
 oF 67 59 66 4,
 oS 28 67 65]:=by kernel_rfl
def W8:bK HD=[oM 68 0,
 oN 69 68,
 oF 70 59 69 4,
 oL 71 28 70,
 oF 72 78 9 0,
 oL 73 3 72,
 oI 74 28 71 73,
 oL 75 78 74,
 (some 10,.alloc 78,none),
 oS 78 10 75]:=by kernel_rfl
def W7:bK HC=[oF 76 78 9 2,
 oL 77 44 76,
 oF 78 78 10 2,
 oL 79 44 78,
 oC 80 31 #[(.tmp 77),(.tmp 79)] #[44,44],
 oA 11 80]:=by kernel_rfl
def W5:bK HB=[oF 81 78 10 0,
 oL 82 3 81,
 (some 83,.binOp .neq 3 (.tmp 82) (.const (.int i64 0)) 3,none),
 oM 84 83,
 oF 85 78 10 1 (some (3,true)),
 oL 86 3 85 (some (3,true)),
 oF 87 78 9 1 (some (3,true)),
 oL 88 3 87 (some (3,true)),
 oB 89 .neq 3 86 88 (some (3,true)),
 oM 90 89 (some (3,true)),
 oM 91 11 (some (9,false)),
 (some 92,.unOp .not 4 (.tmp 91),some (9,false)),
 (some 93,.pick (.tmp 90) (.const (.bool true)) (.tmp 92),some (3,true)),
 oP 94 84 93 false]:=by kernel_rfl
def W4:bK DR=[oM 95 0,
 oN 96 95,
 oF 97 59 96 9,
 (none,.store 4 (.tmp 97) (.const (.bool true)),none)]:=by kernel_rfl
def W3:bK Ak=[oM 98 0,
 oN 99 98,
 oF 100 59 99 4,
 oL 101 28 100,
 oF 102 78 9 0,
 oL 103 3 102,
 oL 104 78 9,
 oI 105 28 101 103,
 oS 78 105 104]:=by kernel_rfl
def acv:bK NP=[oM 43 8,
 (some 44,.binOp .add 3 (.tmp 43) (.const (.int i64 1)) 3,none),
 oA 8 44]:=by kernel_rfl
def W0:bK DQ=[oM 106 0,
 oM 107 1,
 oC 108 19 #[(.tmp 106),(.tmp 107)] #[24,3]]:=by kernel_rfl
def Yo:cA Try.f14=(.seq (.region 0 Tz false) (.seq (.seq (.region 1 Tx false) (.cond (.tmp 13) (.region 2 Tw false) .skip)) (.seq (.seq (.region 3 NU false) (.cond (.tmp 27) (.region 4 NT true) .skip)) (.seq (.seq (.region 5 NS false) (.block 0 (.loop (.seq (.seq (.region 6 NR false) (.cond (.tmp 42) .skip (.exit 0))) (.seq (.block 1 (.seq (.region 8 NO false) (.seq (.block 2 (.loop (.seq (.seq (.region 9 NN true) (.cond (.tmp 57) .skip (.exit 2))) (.block 3 (.region 10 HE false))))) (.seq (.region 11 HD true) (.seq (.region 12 HC false) (.seq (.seq (.region 13 HB false) (.cond (.tmp 94) (.region 14 DR false) .skip)) (.region 15 Ak true))))))) (.region 7 NP false)))))) (.region 16 DQ false))))):=by kernel_rfl
def OC:Try.f14.body=some (cA Try.f14):=by kernel_rfl
def agR:Try.f14.ntmps=109:=by kernel_rfl
def abk:Try.f14.results=#[]:=by kernel_rfl
def vH(a:Tbe Tao)(w:Tan):(callFunc 14 a).run Try.prog w=.ok (.enter 14 a) w:=by
 unfold callFunc
 have b:Try.f14.name≠ "runtime.NumGoroutine" :=by decide+kernel
 simp[Try.func14,OC,b]
def aaL:=bc 0 Try.f9
def aaK:=bc 1 Try.f9
def aaJ:=bc 2 Try.f9
def aaI:=bc 3 Try.f9
def aaG:=bc 5 Try.f9
def aaH:=bc 4 Try.f9
def V7:=bc 6 Try.f9
def V6:=bc 7 Try.f9
def V4:=bc 9 Try.f9
def V5:=bc 8 Try.f9
def M8:=bc 10 Try.f9
def M7:=bc 11 Try.f9
def M5:=bc 13 Try.f9
def M4:=bc 14 Try.f9
def M0:=bc 15 Try.f9
def MZ:=bc 16 Try.f9
def M6:=bc 12 Try.f9
def MY:=bc 17 Try.f9
def aga:bK aaL=[(some 4,.assign (.const (.pointer none)),none)]:=by kernel_rfl
def af9:bK aaK=[(some 9,.build 59 #[],none),
 (some 10,.box 59 (.tmp 9),none),
 oA 5 10]:=by kernel_rfl
def af8:bK aaJ=[(some 6,.assign (.const (.int i64 1)),none)]:=by kernel_rfl
def af7:bK aaI=[oM 11 6,
 oM 12 1,
 oB 13 .leq 3 11 12]:=by kernel_rfl
def af5:bK aaG=[oM 16 5,
 oM 17 5,
 oN 18 17,
 oF 19 59 18 0,
 oF 20 31 19 0,
 oL 21 29 20,
 oM 22 6,
 (some 23,.buildSlice 29 1 #[(0,.tmp 22)],none),
 (some 24,.call {callee:=.builtin .append,args:=#[(.tmp 21),(.tmp 23)],argTypes:=#[29,29]},none),
 oN 25 16,
 oF 26 59 25 0,
 oF 27 31 26 0,
 oS 29 27 24]:=by kernel_rfl
def af6:bK aaH=[oM 14 6,
 (some 15,.binOp .add 3 (.tmp 14) (.const (.int i64 1)) 3,none),
 oA 6 15]:=by kernel_rfl
def af4:bK V7=[oM 28 1,
 (some 29,.binOp .add 3 (.tmp 28) (.const (.int i64 1)) 3,none),
 oA 7 29]:=by kernel_rfl
def af3:bK V6=[oM 30 7,
 oM 31 0,
 oB 32 .leq 3 30 31]:=by kernel_rfl
def af1:bK V4=[oM 35 5,
 oM 36 5,
 oN 37 36,
 oF 38 59 37 0,
 oF 39 31 38 1,
 oL 40 29 39,
 oM 41 7,
 (some 42,.buildSlice 29 1 #[(0,.tmp 41)],none),
 (some 43,.call {callee:=.builtin .append,args:=#[(.tmp 40),(.tmp 42)],argTypes:=#[29,29]},none),
 oN 44 35,
 oF 45 59 44 0,
 oF 46 31 45 1,
 oS 29 46 43]:=by kernel_rfl
def af2:bK V5=[oM 33 7,
 (some 34,.binOp .add 3 (.tmp 33) (.const (.int i64 1)) 3,none),
 oA 7 34]:=by kernel_rfl
def abx:bK M8=[(some 8,.assign (.const (.int i64 1)),none)]:=by kernel_rfl
def abw:bK M7=[oM 47 8,
 oM 48 0,
 oB 49 .leq 3 47 48]:=by kernel_rfl
def abu:bK M5=[oM 52 5,
 oM 53 5,
 oN 54 53,
 oF 55 59 54 2,
 oL 56 55 55,
 (some 57,.build 65 #[],none),
 (some 58,.buildSlice 55 1 #[(0,.tmp 57)],none),
 (some 59,.call {callee:=.builtin .append,args:=#[(.tmp 56),(.tmp 58)],argTypes:=#[55,55]},none),
 oN 60 52,
 oF 61 59 60 2,
 oS 55 61 59]:=by kernel_rfl
def abt:bK M4=[oM 62 5,
 oM 63 5,
 oN 64 63,
 oF 65 59 64 1,
 oL 66 54 65,
 oM 67 8,
 oM 68 5,
 oN 69 68,
 oF 70 59 69 0,
 oL 71 31 70,
 (some 72,.build 65 #[],none),
 oC 73 11 #[(.tmp 67),(.tmp 71),(.tmp 72)] #[3,31,65],
 (some 74,.buildSlice 54 1 #[(0,.tmp 73)],none),
 (some 75,.call {callee:=.builtin .append,args:=#[(.tmp 66),(.tmp 74)],argTypes:=#[54,54]},none),
 oN 76 62,
 oF 77 59 76 1,
 oS 54 77 75]:=by kernel_rfl
def abr:bK M0=[oM 78 5,
 oM 79 5,
 oN 80 79,
 oF 81 59 80 6,
 oL 82 57 81,
 (some 83,.buildSlice 57 1 #[(0,.const (.slice none 0 0))],none),
 (some 84,.call {callee:=.builtin .append,args:=#[(.tmp 82),(.tmp 83)],argTypes:=#[57,57]},none),
 oN 85 78,
 oF 86 59 85 6,
 oS 57 86 84]:=by kernel_rfl
def abq:bK MZ=[oM 87 5,
 oM 88 5,
 oN 89 88,
 oF 90 59 89 7,
 oL 91 29 90,
 (some 92,.buildSlice 29 1 #[(0,.const (.int i64 0))],none),
 (some 93,.call {callee:=.builtin .append,args:=#[(.tmp 91),(.tmp 92)],argTypes:=#[29,29]},none),
 oN 94 87,
 oF 95 59 94 7,
 oS 29 95 93]:=by kernel_rfl
def abv:bK M6=[oM 50 8,
 (some 51,.binOp .add 3 (.tmp 50) (.const (.int i64 1)) 3,none),
 oA 8 51]:=by kernel_rfl
def abp:bK MY=[oM 96 5,
 oA 4 96]:=by kernel_rfl
def adW:cA Try.f9=(.seq (.region 0 aaL false) (.seq (.region 1 aaK false) (.seq (.seq (.region 2 aaJ false) (.block 0 (.loop (.seq (.seq (.region 3 aaI false) (.cond (.tmp 13) .skip (.exit 0))) (.seq (.block 1 (.region 5 aaG false)) (.region 4 aaH false)))))) (.seq (.seq (.region 6 V7 false) (.block 2 (.loop (.seq (.seq (.region 7 V6 false) (.cond (.tmp 32) .skip (.exit 2))) (.seq (.block 3 (.region 9 V4 false)) (.region 8 V5 false)))))) (.seq (.seq (.region 10 M8 false) (.block 4 (.loop (.seq (.seq (.region 11 M7 false) (.cond (.tmp 49) .skip (.exit 4))) (.seq (.block 5 (.seq (.region 13 M5 false) (.seq (.region 14 M4 true) (.seq (.region 15 M0 false) (.region 16 MZ false))))) (.region 12 M6 false)))))) (.seq (.region 17 MY false) .ret)))))):=by kernel_rfl
def SP:Try.f9.body=some (cA Try.f9):=by kernel_rfl
def nt9:Try.f9.ntmps=97:=by kernel_rfl
def afX:Try.f9.results=#[.tmp 4]:=by kernel_rfl
def OX(a:Tbe Tao)(w:Tan):(callFunc 9 a).run Try.prog w=.ok (.enter 9 a) w:=by
 unfold callFunc
 have b:Try.f9.name≠ "runtime.NumGoroutine" :=by decide+kernel
 simp[Try.func9,SP,b]
def TE:=bc 0 Try.f13
def TD:=bc 1 Try.f13
def TC:=bc 2 Try.f13
def TB:=bc 3 Try.f13
def NZ:=bc 5 Try.f13
def TA:=bc 4 Try.f13
def NY:=bc 6 Try.f13
def NX:=bc 7 Try.f13
def NV:=bc 9 Try.f13
def NW:=bc 8 Try.f13
def HG:=bc 10 Try.f13
def HF:=bc 11 Try.f13
def acM:bK TE=[(some 0,.assign (.const (.bool false)),none)]:=by kernel_rfl
def acL:bK TD=[oC 5 9 #[(.const (.int i64 3)),(.const (.int i64 3))] #[3,3],
 oA 1 5]:=by kernel_rfl
def acK:bK TC=[(some 2,.assign (.const (.int i64 0)),none)]:=by kernel_rfl
def acJ:bK TB=[oM 6 2,
 (some 7,.binOp .lss 3 (.tmp 6) (.const (.int i64 10)) 3,none)]:=by kernel_rfl
def acH:bK NZ=[oM 10 1,
 oM 11 1,
 oN 12 11,
 oF 13 59 12 1,
 oL 14 54 13,
 (some 15,.indexAddr 54 (.tmp 14) (.const (.int i64 0)),none),
 oL 16 52 15,
 oC 17 15 #[(.tmp 16),(.const (.int i64 0))] #[52,3],
 oC 18 14 #[(.tmp 10),(.const (.int i64 0)),(.tmp 17),(.const (.bool false))] #[24,3,75,4]]:=by kernel_rfl
def acI:bK TA=[oM 8 2,
 (some 9,.binOp .add 3 (.tmp 8) (.const (.int i64 1)) 3,none),
 oA 2 9]:=by kernel_rfl
def acG:bK NY=[(some 3,.assign (.const (.int i64 0)),none)]:=by kernel_rfl
def acF:bK NX=[oM 19 3,
 (some 20,.binOp .lss 3 (.tmp 19) (.const (.int i64 4)) 3,none)]:=by kernel_rfl
def acD:bK NV=[oM 23 1,
 (some 24,.build 51 #[(0,.const (.int i64 6))],none),
 oC 25 10 #[(.tmp 23),(.tmp 24)] #[24,51]]:=by kernel_rfl
def acE:bK NW=[oM 21 3,
 (some 22,.binOp .add 3 (.tmp 21) (.const (.int i64 1)) 3,none),
 oA 3 22]:=by kernel_rfl
def Xb:bK HG=[oM 26 1,
 oN 27 26,
 oF 28 59 27 1,
 oL 29 54 28,
 (some 30,.indexAddr 54 (.tmp 29) (.const (.int i64 0)),none),
 oL 31 52 30,
 oC 32 12 #[(.tmp 31)] #[52],
 (some 4,.alloc 67,none),
 oS 67 4 32]:=by kernel_rfl
def Xa:bK HF=[oF 33 67 4 0,
 oL 34 3 33,
 (some 35,.binOp .eql 3 (.tmp 34) (.const (.int i64 2)) 3,none),
 oM 36 35,
 oF 37 67 4 3 (some (3,true)),
 oL 38 3 37 (some (3,true)),
 (some 39,.binOp .eql 3 (.tmp 38) (.const (.int i64 1)) 3,some (3,true)),
 oP 40 36 39 false,
 oM 41 40,
 oF 42 67 4 2 (some (8,true)),
 oF 43 61 42 0 (some (8,true)),
 oL 44 3 43 (some (8,true)),
 (some 45,.binOp .eql 3 (.tmp 44) (.const (.int i64 1)) 3,some (8,true)),
 oP 46 41 45 false,
 oM 47 46,
 oM 48 1 (some (14,true)),
 oN 49 48 (some (14,true)),
 oF 50 59 49 9 (some (14,true)),
 oL 51 4 50 (some (14,true)),
 (some 52,.unOp .not 4 (.tmp 51),some (14,true)),
 oP 53 47 52 false,
 oA 0 53]:=by kernel_rfl
def Yp:cA Try.f13=(.seq (.region 0 TE false) (.seq (.region 1 TD false) (.seq (.seq (.region 2 TC false) (.block 0 (.loop (.seq (.seq (.region 3 TB false) (.cond (.tmp 7) .skip (.exit 0))) (.seq (.block 1 (.region 5 NZ false)) (.region 4 TA false)))))) (.seq (.seq (.region 6 NY false) (.block 2 (.loop (.seq (.seq (.region 7 NX false) (.cond (.tmp 20) .skip (.exit 2))) (.seq (.block 3 (.region 9 NV false)) (.region 8 NW false)))))) (.seq (.region 10 HG false) (.seq (.region 11 HF false) .ret)))))):=by kernel_rfl
def OD:Try.f13.body=some (cA Try.f13):=by kernel_rfl
def agS:Try.f13.ntmps=54:=by kernel_rfl
def abl:Try.f13.results=#[.tmp 0]:=by kernel_rfl
def RT(a:Tbe Tao)(w:Tan):(callFunc 13 a).run Try.prog w=.ok (.enter 13 a) w:=by
 unfold callFunc
 have b:Try.f13.name≠ "runtime.NumGoroutine" :=by decide+kernel
 simp[Try.func13,OD,b]
def TV:=bc 0 Try.f10
def TU:=bc 1 Try.f10
def TS:=bc 2 Try.f10
def TR:=bc 3 Try.f10
def TQ:=bc 4 Try.f10
def ado:=bc 5 Try.f10
def TP:=bc 6 Try.f10
def adn:=bc 7 Try.f10
def adm:=bc 8 Try.f10
def X4:=bc 10 Try.f10
def adl:=bc 9 Try.f10
def OS:=bc 11 Try.f10
def OR:=bc 12 Try.f10
def OQ:=bc 13 Try.f10
def X3:=bc 14 Try.f10
def X2:=bc 15 Try.f10
def XZ:=bc 17 Try.f10
def XY:=bc 18 Try.f10
def XX:=bc 19 Try.f10
def XW:=bc 20 Try.f10
def XV:=bc 21 Try.f10
def XU:=bc 22 Try.f10
def XT:=bc 23 Try.f10
def XS:=bc 24 Try.f10
def XR:=bc 25 Try.f10
def X1:=bc 16 Try.f10
def OP:=bc 26 Try.f10
def HO:=bc 27 Try.f10
def HN:=bc 28 Try.f10
def HM:=bc 29 Try.f10
def HL:=bc 30 Try.f10
def HJ:=bc 32 Try.f10
def HH:=bc 33 Try.f10
def HK:=bc 31 Try.f10
def XQ:=bc 34 Try.f10
def XP:=bc 35 Try.f10
def XO:=bc 36 Try.f10
def XN:=bc 37 Try.f10
def XM:=bc 38 Try.f10
def XL:=bc 39 Try.f10
def XK:=bc 40 Try.f10
def XJ:=bc 41 Try.f10
def XI:=bc 42 Try.f10
def XH:=bc 43 Try.f10
def XG:=bc 44 Try.f10
def XF:=bc 45 Try.f10
def XE:=bc 46 Try.f10
def XD:=bc 47 Try.f10
def XC:=bc 48 Try.f10
def XB:=bc 49 Try.f10
def XA:=bc 50 Try.f10
def Xz:=bc 51 Try.f10
def Xy:=bc 52 Try.f10
def Xx:=bc 53 Try.f10
def Xw:=bc 54 Try.f10
def Xv:=bc 55 Try.f10
def Xu:=bc 56 Try.f10
def Xt:=bc 57 Try.f10
def ac0:bK TV=[(some 3,.box 51 (.tmp 1),none)]:=by kernel_rfl
def acZ:bK TU=[oF 22 51 3 1,
 oL 23 3 22,
 oM 24 0,
 oN 25 24,
 oF 26 59 25 1,
 oL 27 54 26,
 oE 28 27 54,
 oC 29 8 #[(.tmp 23),(.tmp 28)] #[3,3],
 oA 4 29]:=by kernel_rfl
def acY:bK TS=[oF 30 51 3 0,
 oL 31 3 30,
 oC 32 8 #[(.tmp 31),(.const (.int i64 12))] #[3,3]]:=by kernel_rfl
def acX:bK TR=[(some 34,.binOp .eql 3 (.tmp 32) (.const (.int i64 0)) 3,none),
 oA 33 34]:=by kernel_rfl
def acW:bK TQ=[(some 35,.binOp .eql 3 (.tmp 32) (.const (.int i64 1)) 3,none),
 oA 33 35]:=by kernel_rfl
def acV:bK TP=[(some 51,.binOp .eql 3 (.tmp 32) (.const (.int i64 2)) 3,none),
 oA 50 51]:=by kernel_rfl
def Xm:bK OS=[(some 71,.binOp .eql 3 (.tmp 32) (.const (.int i64 3)) 3,none),
 oA 70 71]:=by kernel_rfl
def Xl:bK OR=[(some 72,.binOp .eql 3 (.tmp 32) (.const (.int i64 4)) 3,none),
 oA 70 72]:=by kernel_rfl
def Xk:bK OQ=[(some 73,.binOp .eql 3 (.tmp 32) (.const (.int i64 5)) 3,none),
 oA 70 73]:=by kernel_rfl
def Xj:bK OP=[(some 164,.binOp .eql 3 (.tmp 32) (.const (.int i64 6)) 3,none),
 oA 163 164]:=by kernel_rfl
def Xi:bK HO=[oM 165 0,
 oN 166 165,
 oF 167 59 166 3,
 oL 168 56 167,
 oA 10 168]:=by kernel_rfl
def Xh:bK HN=[oM 169 0,
 oN 170 169,
 oF 171 59 170 3,
 (none,.store 56 (.tmp 171) (.const (.slice none 0 0)),none)]:=by kernel_rfl
def Xg:bK HM=[(some 11,.assign (.const (.int i64 0)),none)]:=by kernel_rfl
def Xf:bK HL=[oM 172 11,
 oM 173 10,
 oE 174 173 56,
 oB 175 .lss 3 172 174]:=by kernel_rfl
def Xd:bK HJ=[oM 178 10,
 oM 179 11,
 oI 180 56 178 179,
 oF 181 49 180 2,
 oL 182 3 181,
 (some 183,.binOp .geq 3 (.tmp 182) (.const (.int i64 1)) 3,none),
 oM 184 183,
 oM 185 10 (some (6,true)),
 oM 186 11 (some (6,true)),
 oI 187 56 185 186 (some (6,true)),
 oF 188 49 187 2 (some (6,true)),
 oL 189 3 188 (some (6,true)),
 oM 190 0 (some (6,true)),
 oN 191 190 (some (6,true)),
 oF 192 59 191 1 (some (6,true)),
 oL 193 54 192 (some (6,true)),
 oE 194 193 54 (some (6,true)),
 oB 195 .leq 3 189 194 (some (6,true)),
 oP 196 184 195 false]:=by kernel_rfl
def Xc:bK HH=[oM 197 0,
 oM 198 10,
 oM 199 11,
 oI 200 56 198 199,
 oF 201 49 200 2,
 oL 202 3 201,
 (some 203,.binOp .sub 3 (.tmp 202) (.const (.int i64 1)) 3,none),
 oM 204 0,
 oN 205 204,
 oF 206 59 205 1,
 oL 207 54 206,
 oM 208 10,
 oM 209 11,
 oI 210 56 208 209,
 oF 211 49 210 2,
 oL 212 3 211,
 (some 213,.binOp .sub 3 (.tmp 212) (.const (.int i64 1)) 3,none),
 oI 214 54 207 213,
 oL 215 52 214,
 oM 216 10,
 oM 217 11,
 oI 218 56 216 217,
 oL 219 49 218,
 oC 220 17 #[(.tmp 215),(.tmp 219)] #[52,49],
 oC 221 14 #[(.tmp 197),(.tmp 203),(.tmp 220),(.const (.bool false))] #[24,3,75,4]]:=by kernel_rfl
def Xe:bK HK=[oM 176 11,
 (some 177,.binOp .add 3 (.tmp 176) (.const (.int i64 1)) 3,none),
 oA 11 177]:=by kernel_rfl
def Yr:cA Try.f10=(.seq (.region 0 TV false) (.seq (.region 1 TU true) (.seq (.region 2 TS false) (.block 0 (.seq (.seq (.region 3 TR false) (.cond (.tmp 33) .skip (.region 4 TQ false))) (.cond (.tmp 33) (.region 5 ado true) (.seq (.region 6 TP false) (.cond (.tmp 50) (.seq (.region 7 adn false) (.block 1 (.loop (.seq (.seq (.region 8 adm false) (.cond (.tmp 53) .skip (.exit 1))) (.seq (.block 2 (.region 10 X4 true)) (.region 9 adl false)))))) (.seq (.seq (.region 11 OS false) (.cond (.tmp 70) .skip (.seq (.region 12 OR false) (.cond (.tmp 70) .skip (.region 13 OQ false))))) (.cond (.tmp 70) (.seq (.region 14 X3 false) (.block 3 (.loop (.seq (.seq (.region 15 X2 false) (.cond (.tmp 88) .skip (.exit 3))) (.seq (.block 4 (.seq (.region 17 XZ true) (.seq (.region 18 XY false) (.seq (.seq (.region 19 XX false) (.cond (.tmp 112) (.seq (.region 20 XW false) (.seq (.region 21 XV false) (.seq (.region 22 XU false) (.region 23 XT false)))) .skip)) (.seq (.region 24 XS true) (.cond (.tmp 146) (.region 25 XR true) .skip)))))) (.region 16 X1 false)))))) (.seq (.region 26 OP false) (.cond (.tmp 163) (.seq (.region 27 HO false) (.seq (.region 28 HN false) (.seq (.region 29 HM false) (.block 5 (.loop (.seq (.seq (.region 30 HL false) (.cond (.tmp 175) .skip (.exit 5))) (.seq (.block 6 (.seq (.region 32 HJ true) (.cond (.tmp 196) (.region 33 HH true) .skip))) (.region 31 HK false)))))))) (.seq (.region 34 XQ false) (.cond (.tmp 222) (.seq (.region 35 XP false) (.cond (.tmp 229) (.seq (.region 36 XO true) (.seq (.region 37 XN false) (.seq (.region 38 XM false) (.seq (.region 39 XL false) (.region 40 XK false))))) .skip)) (.seq (.seq (.region 41 XJ false) (.cond (.tmp 260) .skip (.region 42 XI false))) (.cond (.tmp 260) (.seq (.region 43 XH false) (.seq (.seq (.region 44 XG false) (.cond (.tmp 271) (.region 45 XF false) .skip)) (.seq (.region 46 XE true) (.region 47 XD false)))) (.seq (.region 48 XC false) (.cond (.tmp 291) (.seq (.region 49 XB false) (.seq (.region 50 XA true) (.region 51 Xz false))) (.seq (.region 52 Xy false) (.cond (.tmp 328) (.seq (.region 53 Xx true) (.seq (.seq (.region 54 Xw false) (.cond (.tmp 345) (.seq (.region 55 Xv false) .ret) .skip)) (.seq (.region 56 Xu false) (.region 57 Xt false)))) .skip)))))))))))))))))))):=by kernel_rfl
def OF:Try.f10.body=some (cA Try.f10):=by kernel_rfl
def agU:Try.f10.ntmps=359:=by kernel_rfl
def abn:Try.f10.results=#[]:=by kernel_rfl
def J5(a:Tbe Tao)(w:Tan):(callFunc 10 a).run Try.prog w=.ok (.enter 10 a) w:=by
 unfold callFunc
 have b:Try.f10.name≠ "runtime.NumGoroutine" :=by decide+kernel
 simp[Try.func10,OF,b]
def TN:=bc 0 Try.f11
def TK:=bc 1 Try.f11
def TJ:=bc 2 Try.f11
def N0:=bc 3 Try.f11
def adk:=bc 4 Try.f11
def TI:=bc 5 Try.f11
def TH:=bc 6 Try.f11
def adj:=bc 7 Try.f11
def TG:=bc 8 Try.f11
def TF:=bc 9 Try.f11
def Xs:=bc 10 Try.f11
def OO:=bc 11 Try.f11
def acU:bK TN=[(some 4,.box 31 (.tmp 1),none),
 (some 5,.box 65 (.tmp 2),none),
 (some 6,.assign (.const (.pointer none)),none)]:=by kernel_rfl
def acT:bK TK=[oM 13 0,
 oC 14 20 #[(.tmp 13),(.const (.int i64 1)),(.const (.int i64 5))] #[3,3,3],
 oM 15 14,
 oL 16 31 4 (some (2,true)),
 oC 17 21 #[(.tmp 16)] #[31] (some (2,true)),
 oP 18 15 17 false,
 oM 19 18,
 oF 20 65 5 0 (some (6,true)),
 oF 21 61 20 0 (some (6,true)),
 oL 22 3 21 (some (6,true)),
 oC 23 20 #[(.tmp 22),(.const (.int i64 0)),(.const (.int i64 1099511627776))] #[3,3,3] (some (6,true)),
 oP 24 19 23 false,
 oM 25 24,
 oF 26 65 5 0 (some (12,true)),
 oF 27 61 26 1 (some (12,true)),
 oL 28 3 27 (some (12,true)),
 oC 29 20 #[(.tmp 28),(.const (.int i64 0)),(.const (.int i64 1099511627776))] #[3,3,3] (some (12,true)),
 oP 30 25 29 false,
 oA 7 30]:=by kernel_rfl
def acS:bK TJ=[oF 31 65 5 1,
 oF 32 63 31 0,
 oL 33 3 32,
 oF 34 65 5 1,
 oF 35 63 34 1,
 oL 36 3 35,
 oC 37 22 #[(.tmp 33),(.tmp 36)] #[3,3],
 oA 8 37]:=by kernel_rfl
def acR:bK N0=[oM 38 7,
 (some 39,.unOp .not 4 (.tmp 38),none),
 oM 40 39,
 oM 41 8 (some (2,false)),
 (some 42,.binOp .eql 90 (.tmp 41) (.const (.pointer none)) 90,some (2,false)),
 (some 43,.pick (.tmp 40) (.const (.bool true)) (.tmp 42),none),
 oM 44 43,
 oF 45 65 5 1 (some (6,false)),
 oF 46 63 45 0 (some (6,false)),
 oL 47 3 46 (some (6,false)),
 (some 48,.binOp .gtr 3 (.tmp 47) (.const (.int i64 0)) 3,some (6,false)),
 oM 49 48 (some (6,false)),
 oF 50 65 5 1 (some (11,true)),
 oF 51 63 50 2 (some (11,true)),
 oL 52 31 51 (some (11,true)),
 oC 53 21 #[(.tmp 52)] #[31] (some (11,true)),
 (some 54,.unOp .not 4 (.tmp 53),some (11,true)),
 oM 55 54 (some (11,true)),
 oF 56 65 5 1 (some (17,false)),
 oF 57 63 56 3 (some (17,false)),
 oL 58 27 57 (some (17,false)),
 oE 59 58 27 (some (17,false)),
 oC 60 20 #[(.tmp 59),(.const (.int i64 1)),(.const (.int i64 1048576))] #[3,3,3] (some (17,false)),
 (some 61,.unOp .not 4 (.tmp 60),some (17,false)),
 (some 62,.pick (.tmp 55) (.const (.bool true)) (.tmp 61),some (11,true)),
 oP 63 49 62 false (some (6,false)),
 (some 64,.pick (.tmp 44) (.const (.bool true)) (.tmp 63),none)]:=by kernel_rfl
def acQ:bK TI=[oM 66 8,
 oF 67 65 5 1,
 oF 68 63 67 0,
 oL 69 3 68,
 oF 70 65 5 1,
 oF 71 63 70 1,
 oL 72 3 71,
 oF 73 65 5 2,
 oL 74 28 73,
 oC 75 23 #[(.tmp 66),(.tmp 69),(.tmp 72),(.tmp 74)] #[90,3,3,28],
 oM 65 75,
 (some 76,.extract (.tmp 65) 0,none),
 (some 77,.extract (.tmp 65) 1,none),
 oA 9 76,
 oA 10 77]:=by kernel_rfl
def acP:bK TH=[oM 78 10,
 (some 79,.unOp .not 4 (.tmp 78),none),
 oM 80 79,
 oF 81 65 5 2 (some (2,false)),
 oL 82 28 81 (some (2,false)),
 oC 83 24 #[(.tmp 82)] #[28] (some (2,false)),
 (some 84,.unOp .not 4 (.tmp 83),some (2,false)),
 (some 85,.pick (.tmp 80) (.const (.bool true)) (.tmp 84),none)]:=by kernel_rfl
def acO:bK TG=[oM 87 8,
 oC 88 25 #[(.tmp 87)] #[90],
 oM 86 88,
 (some 89,.extract (.tmp 86) 0,none),
 (some 90,.extract (.tmp 86) 1,none),
 oA 11 89,
 oA 12 90]:=by kernel_rfl
def acN:bK TF=[oM 91 12,
 oF 92 65 5 0,
 oF 93 61 92 0,
 oL 94 3 93,
 oB 95 .gtr 3 91 94]:=by kernel_rfl
def Yq:cA Try.f11=(.seq (.region 0 TN false) (.seq (.region 1 TK false) (.seq (.region 2 TJ false) (.seq (.seq (.region 3 N0 false) (.cond (.tmp 64) (.seq (.region 4 adk false) .ret) .skip)) (.seq (.seq (.region 5 TI false) (.seq (.region 6 TH false) (.cond (.tmp 85) (.seq (.region 7 adj false) .ret) .skip))) (.seq (.seq (.region 8 TG false) (.seq (.region 9 TF false) (.cond (.tmp 95) (.seq (.region 10 Xs false) .ret) .skip))) (.seq (.region 11 OO true) .ret))))))):=by kernel_rfl
def OE:Try.f11.body=some (cA Try.f11):=by kernel_rfl
def agT:Try.f11.ntmps=110:=by kernel_rfl
def abm:Try.f11.results=#[.tmp 6]:=by kernel_rfl
def J4(a:Tbe Tao)(w:Tan):(callFunc 11 a).run Try.prog w=.ok (.enter 11 a) w:=by
 unfold callFunc
 have b:Try.f11.name≠ "runtime.NumGoroutine" :=by decide+kernel
 simp[Try.func11,OE,b]
def N8:List ((Nat×Nat)×Nat):=[((31,0),0),((31,1),1),((44,0),0),((49,2),2),((49,3),3),((49,4),4),((49,7),7),((49,8),8),((51,0),0),((51,1),1),((51,3),3),((51,4),49),((59,0),0),((59,1),2),((59,2),3),((59,3),4),((59,4),5),((59,5),6),((59,6),7),((59,7),8),((59,9),10),((61,0),0),((61,1),1),((63,0),0),((63,1),1),((63,2),2),((63,3),4),((65,0),0),((65,1),2),((65,2),7),((67,0),0),((67,1),1),((67,2),2),((67,3),4),((67,4),5),((67,5),6),((75,0),0),((75,1),1),((75,2),3),((75,3),4),((75,4),5),((75,5),6),((78,0),0),((78,1),1),((78,2),2)]
def adI:(N8.all fun x=>(kj Try.prog x.1.1 x.1.2).map (fun y=>(y.1.offset,decide (0<y.2)))==some (x.2,true))=true:=by kernel_rfl
def ahl{t f off:Nat}(h:lk N8 (t,f)=some off):(kj Try.prog t f).map (fun y=>(y.1.offset,decide (0<y.2)))=some (off,true):=by have:=bU.1 adI _ (iw h);simpa using this
end
attribute [local irreducible] TL
def SZ:Tai:=[22,27,28,29,54,56]
def abh:(SZ.all fun t=>slB Try.prog t)=true:=by kernel_rfl
def aaQ(m:Tac)(f:Callee):List Tbc->List Tbb->Tap Tao
 | [x],[t]=>match f with
  |.builtin .len=>match lq m x with
   |some (.slice _ nn _)=>if SZ.contains t then some (.int i64 nn) else none
   |_=>none
  |_=>none
 |_,_=>none
def smV(m:Tac):Op->Tap Tao
 |.move x=>lq m x
 |.assign x=>lq m x
 |.nilCheck x=>match lq m x with
  |some (.pointer (some ad))=>some (.pointer (some ad))
  |_=>none
 |.fieldAddr t x fl=>match lq m x with
  |some (.pointer (some ⟨b,o,none⟩))=>match lk N8 (t,fl) with
   |some off=>some (.pointer (some ⟨b,o+off,none⟩))
   |none=>none
  |_=>none
 |.call c=>aaQ m c.callee c.args.toList c.argTypes.toList
 |_=>none
section
variable{ops:Tae}{Q:O3}{S:Taf}{n n0 i d:Nat}{a:Act}{w:Tan}{m:Tac}{gd:Tap (Nat×Bool)}{L r:List OK}{v:Tao}{x:Tbc}
def sm{op:Op}{b:Bool}(k:Kn n a m)(h:∀y,Kn n y ((d,v)::m)->TL Try.prog ops Q S n0 L r (i+1) y w)(l:S w:=by assumption)(g:qd L m gd=some b:=by rfl)(j:d<n:=by decide)(e:(match b with|true=>smV m op|false=>some undef)=some v:=by rfl):TL Try.prog ops Q S n0 L ((some d,op,gd)::r) i a w:=by
 cases b with
 |false=>injection e with e;subst e;exact afP k l g j h
 |true=>
 replace e:smV m op=some v:=e;unfold smV at e;split at e
 .exact QH k l g j e h
 .exact xn k l g j e h
 .split at e
  .rename_i o;injection e with e;subst e;exact Wz k l g j o h
  cases e
 .split at e
  .rename_i o;split at e
   .rename_i q;injection e with e;subst e;exact SK k l g j o (ahl q) h
   cases e
  cases e
 .rename_i c;obtain⟨f,⟨A⟩,⟨z⟩⟩:=c;unfold aaQ at e;split at e
  .rename_i x t D C;split at e
   .rename_i q;split at e
    .rename_i o;split at e
     .rename_i B;injection e with e;subst e;have u:A=[x]:=D;have s:z=[t]:=C;have p:f=.builtin .len:=q;subst u s p;exact DB k l g j o (bU.1 abh t (by simpa using B)) h
     cases e
    cases e
   cases e
  cases e
 cases e
def ld{t:Tbb}{c:Addr}(k:Kn n a m)(o:∀b,S b->b.cell? c=some v)(h:∀e,Kn n e ((d,v)::m)->TL Try.prog ops Q S n0 L r (i+1) e w)(q:S w:=by assumption)(j:qd L m gd=some true:=by rfl)(l:d<n:=by decide)(f:lq m x=some (.pointer (some c)):=by rfl)(p:iW Try.prog t=false:=by kernel_rfl)(g:(Try.prog.underlying t).isSome=true:=by kernel_rfl):TL Try.prog ops Q S n0 L ((some d,.load t x,gd)::r) i a w:=kx k q j l f p g o h
def pk{y z:Tbc}{c:Bool}(k:Kn n a m)(f:lq m x=some (.bool c))(e:lq m (if c then y else z)=some v)(h:∀b,Kn n b ((d,v)::m)->TL Try.prog ops Q S n0 L r (i+1) b w)(l:S w:=by assumption)(g:qd L m gd=some true:=by rfl)(j:d<n:=by decide):TL Try.prog ops Q S n0 L ((some d,.pick x y z,gd)::r) i a w:=JG k l g j f e h
def cm{y:Tbc}{t t2:Tbb}{b:BinOp}{kk:IntKind}{p q:Int}{c:Bool}(k:Kn n a m)(g:lq m x=some (.int kk p))(f:lq m y=some (.int kk q))(o:Hd b p q=some c)(h:∀e,Kn n e ((d,.bool c)::m)->TL Try.prog ops Q S n0 L r (i+1) e w)(s:S w:=by assumption)(j:qd L m gd=some true:=by rfl)(l:d<n:=by decide):TL Try.prog ops Q S n0 L ((some d,.binOp b t x y t2,gd)::r) i a w:=WD k s j l g f o h
def lN{t:Tbb}{b off nn:Nat}{vs:Tad}(k:Kn n a m)(f:lq m x=some (.pointer (some ⟨b,off,none⟩)))(g:vs.length=nn)(p:∀c,S c->∀(j:Nat) v,vs[j]?=some v->c.cell? ⟨b,off+j,none⟩=some v)(h:∀e,Kn n e ((d,.agg vs.toArray)::m)->TL Try.prog ops Q S n0 L r (i+1) e w)(s:S w:=by assumption)(l:qd L m gd=some true:=by rfl)(o:d<n:=by decide)(hs:ik Try.prog t=some nn:=by kernel_rfl)(q:iW Try.prog t=true:=by kernel_rfl):TL Try.prog ops Q S n0 L ((some d,.load t x,gd)::r) i a w:=WB k s l o f hs q g p h
def zg{y:Tbc}{t el:Tbb}{b nn e sz s:Nat}{kk:IntKind}(k:Kn n a m)(j:lq m x=some (.slice (some ⟨b,0,none⟩) nn e))(g:lq m y=some (.int kk (s:Int)))(u:s<nn)(h:∀f,Kn n f ((d,.pointer (some ⟨b,s*sz,none⟩))::m)->TL Try.prog ops Q S n0 L r (i+1) f w)(q:S w:=by assumption)(o:qd L m gd=some true:=by rfl)(p:d<n:=by decide)(l:Try.prog.underlying t=some (.slice el):=by kernel_rfl)(c:ik Try.prog el=some sz:=by kernel_rfl):TL Try.prog ops Q S n0 L ((some d,.indexAddr t x y,gd)::r) i a w:=DC k q o p j g l c u h
def rg{id:Nat}{b:Bool}{f:O3}(X:Taj)(l:QP Q)(g:bK ops=L)(h:∀e,zD w e->TL Try.prog ops f (SX X e) 0 L L 0 a e)(j:b=true->tOk ops 0=true:=by decide)(k:∀c a w,f (.panic c) a w=Q (.panic c) a w:=by intro _ _ _;rfl):(Code.region id ops b).wp Try.prog f a w:=
 fV 0 X mix (fun c a d v w h=>by rw[k]at h⊢;exact l c a d v w h) g j h
end
def dV(l:Tah)(n:Int):Tah:=l++List.replicate (n+1-l.length).toNat (.int i64 0)
def GJ{l:Tah}{n:Int}(h:(l.length:Int)<=n):dV (l++[.int i64 0]) n=dV l n:=by unfold dV;rw[cX,ah,ba];congr 1;rw[show(n+1-(l.length:Int)).toNat=(n+1-((l.length+1:Nat):Int)).toNat+1 by omega,List.replicate_succ];rfl
def GK{l:Tah}{n:Int}(h:n<(l.length:Int)):dV l n=l:=by unfold dV;rw[show(n+1-(l.length:Int)).toNat=0 by omega];simp
def Ls:I6.bytes=8:=rfl
def nh{n:Nat}(h:n<=100000000):mG I6 n:=by refine⟨by simp only[maxLen];omega,?_⟩;rw[Ls];omega
def yu{w:Tan}{S:bG}{ow:Ow}{iu:Nat}{v:Tao}{l:Tah}{n:Int}(h:dA w S ow iu 3 I6 v l)(C:Wf w S ow)(h0:0<=n)(hn:n<=1000000)(E:l.length<=2000000):
  Calls Try.prog 54 [v,.int i64 n].toArray w fun e w'=>∃B g,e=.returned B/\bB (iF iu) ax w S ow w' S g/\Wf w' S g/\dA w' S g iu 3 I6 B (dV l n)/\(dV l n).length<=2000001:=by
 refine lh Try.func54 Oz Yl agO (by show 2<=13;omega) ?_;intro a k;have O:=jw (P:=Try.prog) (fn:=Try.f54) (R:=fun e w'=>∃B g,e=.returned B/\bB (iF iu) ax w S ow w' S g/\Wf w' S g/\dA w' S g iu 3 I6 B (dV l n)/\(dV l n).length<=2000001);refine wp_seq (rg ax O ab6 ?_);intro H r;have N:=SX.refl ax H
 repeat refine sm k fun a k=>?_
 refine av ?_;have i:=bB.W r (iF iu) ax S ow;have f:Wf H S ow:=⟨fun b o hs=>by rw[r.heap];exact C.s b o hs,fun b l E=>by rw[r.heap];exact C.o b l E,C.d⟩;have Z:=h.O C (bB.W r ax ax S ow) (fun h=>h)
 refine wp_seq (wp_block (wp_loop_ghost (fun m a W=>∃Q t iT,m=(n+1-(t.length:Int)).toNat/\Kn 13 a [(0,Q),(1,.int i64 n)]/\bB (iF iu) ax w S ow W S iT/\Wf W S iT/\dA W S iT iu 3 I6 Q t/\dV t n=dV l n/\t.length<=2000001) (n+1-(l.length:Int)).toNat
  ⟨v,l,ow,rfl,k.sb,i,f,Z,rfl,by omega⟩ ?_))
 clear k i f Z N r H;rintro m a W ⟨Q,t,iT,rfl,k,Vm,Km,ho,hg,hlen⟩;obtain⟨A,a1,rfl⟩:=ho.slice;refine wp_seq (wp_seq (rg ax O ab5 ?_));intro H r;have N:=SX.refl ax H
 repeat refine sm k fun a k=>?_
 refine cm (c:=decide ((t.length:Int)<=n)) k rfl rfl rfl fun a k=>?_;refine av ?_;have i:=Vm.Di C Km (bB.W r (iF iu) ax S iT) nE;have f:Wf H S iT:=⟨fun b o hs=>by rw[r.heap];exact Km.s b o hs,fun b l E=>by rw[r.heap];exact Km.o b l E,Km.d⟩;have M:=ho.O Km (bB.W r ax ax S iT) (fun h=>h);refine bw k rfl ?_;by_cases y:(t.length:Int)<=n
 .rw[if_pos (by simpa using y)];refine wp_skip ?_;refine wp_block (rg (fun b=>iT b=some iu) O ab4 ?_);intro F z;have N:=SX.refl (fun b=>iT b=some iu) F;have x:Wf F S iT:=⟨fun b o hs=>by rw[z.heap];exact f.s b o hs,fun b l E=>by rw[z.heap];exact f.o b l E,f.d⟩;have G:=M.O f (bB.W z ax ax S iT) (fun h=>h);have q:=i.Di C f (bB.W z (iF iu) ax S iT) nE
  repeat refine sm k fun a k=>?_
  refine lX (kk:=1) (T:=3) k (by decide) rfl (by decide) rfl (by kernel_rfl) rfl (fun _=>SX.alloc _ _ _) fun a k=>?_;obtain⟨K,I⟩:=bB.alloc x (.cells (Value.int i64 0).cells 3);have X:=G.O x K (fun h=>h);refine tO k (by decide) rfl (by decide) fun ty a0 af=>?_
  obtain⟨B,w',L,g,p,U,V⟩:=X.Fa (P:=Try.prog) (tt:=29) (by kernel_rfl) rfl I ty F.heap.size (d:=.int i64 0) ⟨0,rfl,by decide⟩ (us:=[.int i64 0]) rfl (heap_alloc_new F _) (by
   intro j u c J y
   match j,J,y with
   |0,J,y=>injection J with J;injection y with y;subst J y;exact .int _ _) (nh (by omega))
  refine⟨B,w',jj (k.op rfl) (k.op rfl) L,fun _=>(SX.alloc _ _ _).trans (SX.iu (fun _ h=>h) p),fun a k=>?_⟩;have s1:SX (fun b=>iT b=some iu) F w':=(SX.alloc _ _ _).trans (SX.iu (fun _ h=>h) p)
  repeat refine sm k fun a k=>?_
  refine av ?_;refine⟨_,?_,B,t++[.int i64 0],g,rfl,k.sb,q.Di C x (bB.trN x I K p nE) nE,U,V,(GJ y).trans hg,by rw[ah,ba];omega⟩;rw[ah,ba];omega
 rw[if_neg (by simpa using y)];refine wp_exit ?_;refine wp_seq (rg ax O ab3 ?_);intro F z;have N:=SX.refl ax F
 repeat refine sm k fun a k=>?_
 refine av ?_;have q:=i.Di C f (bB.W z (iF iu) ax S iT) nE;have Y:=GK (l:=t) (n:=n) (by omega);have G:=M.O f (bB.W z ax ax S iT) (fun h=>h);refine wp_ret (rQ abi k rfl ⟨_,iT,rfl,q,⟨fun b o hs=>by rw[z.heap];exact f.s b o hs,fun b l E=>by rw[z.heap];exact f.o b l E,f.d⟩,?_,?_⟩).1
 .rw[<-hg,Y];exact G
 rw[<-hg,Y];exact hlen
def bS(g:GS)(i:Nat):RS:=g.eT.getD i dK
def iU(l:Tah)(i:Nat):Int:=(l.getD i .top).J
def Fl(i:Nat)(x:RS)(g:GS):GS:=
 let ld:=dV g.br x.term;let a:=iU ld x.term.toNat
 {g with br:=ld.set x.term.toNat (.int i64 (i+1)),bad:=g.bad||(a !=0&&a !=(i+1:Int))}
def pw(i:Nat)(x:RS)(g:GS):GS:=
 let l:=dV (g.aT.getD i []) x.term;let a:=iU l x.term.toNat
 {g with aT:=g.aT.set i (l.set x.term.toNat (.int i64 x.vote)),bad:=g.bad||(a !=0&&x.vote !=a)}
def lz(i:Nat)(g:GS):GS:=
 let x:=bS g i
 if x.term<iU g.cu i\/5000<x.term then{g with bad:=g.bad||decide (x.term<iU g.cu i)}
 else
  let a:=pw i x {g with cu:=g.cu.set i (.int i64 x.term)}
  if x.role=2 then Fl i x a else a
def LG(l:Nat):Prop:=l<60\/100<=l
structure wZ(g:GS):Prop where
 n5:g.eT.length<=5
 cu:g.cu.length=g.eT.length
 aT:g.aT.length=g.eT.length
 saved:g.saved.length=g.eT.length
 lead:g.br.length<=2000000
 vl:∀l∈g.aT,l.length<=2000000
def X6{d:D}(h:Has I6 d):d=.int i64 d.J/\kL i64 d.J:=by obtain⟨n,rfl,a⟩:=h;exact⟨rfl,a⟩
def vZ{l:Tah}(h:∀x∈l,Has I6 x){i:Nat}(a:i<l.length):l[i]?=some (.int i64 (iU l i)):=by have e:l[i]?=some l[i]:=aR a;obtain⟨b,_⟩:=X6 (h _ (bT e));rw[e];unfold iU;rw[ag,e,bq];exact congrArg some b
def GM.zA{w:Tan}{S:bG}{ow:Ow}{b:Nat}{R:GR}{g:GS}{c:Bool}(h:GM w S ow b (R.cells c) R g)(v:Bool):bB (iF 0) ax w S ow (w.setRow b ((R.cells c).set 10 (.bool v)).toArray) S ow/\GM (w.setRow b ((R.cells c).set 10 (.bool v)).toArray) S ow b (R.cells v) R {g with bad:=v}:=by obtain⟨d,f,e⟩:=h.obj.set h.wf (us:=(R.cells c).set 10 (.bool v));have:=h.setObj d f e;exact⟨d,this.wf,this.obj,this.fv,this.fl,this.arr,this.qV,this.eT,this.saved,this.eI,this.told,this.br,this.cu,this.read,this.tL,this.wM,this.oa⟩
def qR(w:Tan)(S:bG)(ow:Ow)(b:Nat)(g':GS)(e:Ending)(w':Tan):Prop:=∃d c,e=.returned (.tuple #[])/\bB LG ax w S ow w' d c/\iA w' d c b g'
def FL(w:Tan)(S:bG)(ow:Ow)(b:Nat)(g':GS):O3:=bodyPost Try.prog Try.f19 (qR w S ow b g')
def G5(x:RS)(v1 v2:Tao):Tad:=[.int i64 x.role,.int i64 x.br,.int i64 x.term,.int i64 x.vote,.int i64 x.bH,.int i64 (x.li+x.le.length),.int i64 x.li,v1,v2]
section
variable{w0 w:Tan}{S0 S:bG}{kJ ow:Ow}{b b4 i:Nat}{g0 g g':GS}{R:GR}{x:RS}{v1 v2:Tao}{Q:O3}{a:Act}
def FK(G:QP Q)(j:∀a w,FL w0 S0 kJ b g' .ret a w->Q .ret a w)(f:Wf w0 S0 kJ)(A:bB LG ax w0 S0 kJ w S ow)(t:GM w S ow b (R.cells g.bad) R g)(p:R.la=R.lb)(o:R.va=R.vv)(B:fU w S ow b4 67 (G5 x v1 v2))(l:i<g.cu.length)(F:g'={g with bad:=g.bad||decide (x.term<iU g.cu i)})(k:Kn 160 a [(4,.pointer (some ⟨b4,0,none⟩)),(0,bM b),(1,.int i64 i)]):
  (Code.seq (.region 2 Jw true) .ret).wp Try.prog Q a w:=by
 have D:=vZ (fun y C=>t.cu.all y C) l;refine wp_seq (fV (n0:=18) ax mix (by exact G) acp (fun _=>by kernel_rfl) ?_);intro w1 u;have d:=t.W u;have e:=B.W u;have n:=A.eN f t.wf u;have J:=SX.refl ax w1;obtain⟨K,v,s,r,E,q⟩:=dA.vY d.cu D
 repeat (first|refine sm k fun a k=>?_|refine ld k (e.cell id rfl) fun a k=>?_|refine ld k (d.cell id rfl) fun a k=>?_)
 have m:∀(z:List OK) (a:Act),Kn 160 a [(51,.pointer (some ⟨b,10,none⟩)),(49,.bool (g.bad||decide (x.term<iU g.cu i)))]->TL Try.prog Jw (Exit.then (Code.wp Try.prog Code.ret Q) Q) (SX ax w1) 18 z [oS 4 51 49] 20 a w1:=by intro z a k;refine jV (cur:=R.cells g.bad) k (by decide) rfl (by kernel_rfl) rfl rfl rfl d.obj.heap (by show 10<11;omega) rfl (fun h=>absurd rfl h) fun a k=>?_;refine av (wp_ret (j _ _ (na MN k ?_).1));obtain⟨I,H⟩:=d.zA (g.bad||decide (x.term<iU g.cu i));exact⟨S,ow,rfl,n.fF f d.wf I (.inl (by decide)),R,by rw[F];exact H,p,o⟩
 cases hb:g.bad with
 |true=>
  rw[hb]at k
  repeat (first|refine sm k fun a k=>?_|refine ld k (e.cell id rfl) fun a k=>?_|refine ld k (d.cell id rfl) fun a k=>?_)
  refine pk k rfl rfl fun a k=>?_
  repeat (first|refine sm k fun a k=>?_|refine ld k (e.cell id rfl) fun a k=>?_|refine ld k (d.cell id rfl) fun a k=>?_)
  refine m _ a (k.sub ⟨rfl,?_,trivial⟩);rw[hb];rfl
 |false=>
  rw[hb]at k
  repeat (first|refine sm k fun a k=>?_|refine ld k (e.cell id rfl) fun a k=>?_|refine ld k (d.cell id rfl) fun a k=>?_)
  rw[s]at k;refine zg (el:=3) (sz:=1) k rfl rfl l fun a k=>?_;refine ld k (eP r (fun h=>h) q) fun a k=>?_;refine cm (c:=decide (x.term<iU g.cu i)) k rfl rfl rfl fun a k=>?_;refine pk k rfl rfl fun a k=>?_
  repeat (first|refine sm k fun a k=>?_|refine ld k (e.cell id rfl) fun a k=>?_|refine ld k (d.cell id rfl) fun a k=>?_)
  refine m _ a (k.sub ⟨rfl,?_,trivial⟩);rw[hb];rfl
end
def xC{n:Int}(e:0<=n)(h:n<=4000000000000000000):kL i64 n:=by
 have d:i64.min=-9223372036854775808:=by decide
 have c:i64.max=9223372036854775807:=by decide
 exact⟨by rw[d];omega,by rw[c];omega⟩
def FX{l:Tah}{n:Int}(h:0<=n):n.toNat<(dV l n).length:=by unfold dV;rw[ah,List.length_replicate];omega
def D7{n:Int}:∀(j:Nat) u c,[Value.int i64 n][j]?=some u->(D.int i64 n).cells[j]?=some c->∀{w:Tan} {S:bG},bV w S u c:=by
 intro j u c d e w S
 match j,d,e with
 |0,d,e=>injection d with d;injection e with e;subst d e;exact .int _ _
section
variable{w0 w:Tan}{S0 S:bG}{kJ ow:Ow}{b b4 i:Nat}{g0 g g':GS}{R:GR}{x:RS}{v1 v2:Tao}{Q:O3}{a:Act}
def Ld(hQ:QP Q)(a0:∀a w,FL w0 S0 kJ b g' .normal a w->Q .normal a w)(m:Wf w0 S0 kJ)(st:bB LG ax w0 S0 kJ w S ow)(K:GM w S ow b (R.cells g.bad) R g)(b6:R.la=R.lb)(b2:R.va=R.vv)(lx:fU w S ow b4 67 (G5 x v1 v2))(H:0<=x.term)(b9:x.term<=5000)(b5:g.br.length<=2000000)(hi:i<5)(hg:g'=Fl i x g)(k:Kn 160 a [(4,.pointer (some ⟨b4,0,none⟩)),(0,bM b),(1,.int i64 i)]):
  (Code.seq (.region 10 DP true) (.seq (.region 11 DO true) (.seq (.seq (.region 12 DN false) (.cond (.tmp 146) (.region 13 DM false) .skip)) (.region 14 Aj true)))).wp Try.prog Q a w:=by
 refine wp_seq (fV (n0:=8) (fun bb=>ow bb=some 13) mix (by exact hQ) WZ (fun _=>by kernel_rfl) ?_);intro w1 e1;have p:=K.W e1;have G:=lx.W e1;have a9:=st.eN m K.wf e1;have M:=SX.refl (fun bb=>ow bb=some 13) w1;have T:¬ow b=some 13:=by rw[p.obj.ow];decide
 have U:¬ow b4=some 13:=by rw[G.ow];decide
 repeat (first|refine sm k fun a k=>?_|refine ld k (G.cell U rfl) fun a k=>?_|refine ld k (p.cell T rfl) fun a k=>?_)
 refine iB (vs:=[R.br,.int i64 x.term]) k (by decide) rfl (by decide) J3 rfl (yu p.br p.wf H (by omega) b5) ?_;rintro e w2 ⟨v',cE,rfl,pZ,wJ,L3,hlen⟩;obtain⟨Av,cv,Z⟩:=L3.slice;refine⟨_,rfl,fun _=>SX.iu (fun _ h=>h) pZ,fun a k=>?_⟩;have s1:=SX.iu (X:=fun bb=>ow bb=some 13) (fun _ h=>h) pZ;have C:=p.Bk pZ wJ L3;have P:=G.O pZ id;have E:=a9.fF m p.wf pZ (.inl (by decide))
 repeat refine sm k fun a k=>?_
 refine jV (cur:=R.cells g.bad) k (by decide) rfl (by kernel_rfl) rfl rfl (by rw[Z];rfl) C.obj.heap (by show 6<11;omega) (by rw[Z];rfl) (fun h=>absurd rfl h) fun a k=>?_;refine av ?_;obtain⟨v,Y,a2⟩:=C.obj.set wJ (us:=(R.cells g.bad).set 6 v');have B:GM _ S cE b ({R with br:=v'}.cells g.bad) {R with br:=v'} {g with br:=dV g.br x.term}:=C.setObj v Y a2;have O:=P.O v id;have D:=E.fF m wJ v (.inl (by decide));have k:=k.sb (l:=[(4,.pointer (some ⟨b4,0,none⟩)),(0,bM b),(1,.int i64 i)]);generalize w2.setRow b _=w3 at B O D⊢;clear v Y a2 E P C s1 pZ wJ L3 M T U;have z:=FX (l:=g.br) H;have b7:=vZ (fun y hy=>B.br.all y hy) z;have hN:((x.term.toNat:Nat):Int)=x.term:=Int.toNat_of_nonneg H;refine wp_seq (fV (n0:=9) ax mix (by exact hQ) WY (fun _=>by kernel_rfl) ?_);intro w4 e4;have A:=B.W e4;have N:=O.W e4;have a8:=D.eN m B.wf e4;have M:=SX.refl ax w4
 repeat (first|refine sm k fun a k=>?_|refine ld k (N.cell id rfl) fun a k=>?_|refine ld k (A.cell id rfl) fun a k=>?_)
 obtain⟨bt,a6,o,I,a1,a5⟩:=dA.vY A.br b7;rw[show({R with br:=v'}:GR).br=v' from rfl]at o;rw[<-hN]at k;rw[o]at k;refine zg (el:=3) (sz:=1) k rfl rfl z fun a k=>?_;refine ld k (eP I (fun h=>h) a5) fun a k=>?_
 repeat refine sm k fun a k=>?_
 refine av ?_;have k:=k.sb (l:=[(6,.int i64 (iU (dV g.br x.term) x.term.toNat)),(4,.pointer (some ⟨b4,0,none⟩)),(0,bM b),(1,.int i64 i)]);generalize V:iU (dV g.br x.term) x.term.toNat=n at k;clear o I a1 a5;have F:i64.wrap ((i:Int)+1)=i+1:=wrap64 (by omega) (by omega)
 have last:∀(a:Act) (W:Tan) (c:Bool) (K:GM W S cE b ({R with br:=v'}.cells c) {R with br:=v'} {g with br:=dV g.br x.term,bad:=c}) (lx:fU W S cE b4 67 (G5 x v1 v2)) (st:bB LG ax w0 S0 kJ W S cE),
   c=(g.bad||(n !=0&&n !=(i+1:Int)))->Kn 160 a [(4,.pointer (some ⟨b4,0,none⟩)),(0,bM b),(1,.int i64 i)]->(Code.region 14 Aj true).wp Try.prog Q a W:=by
  intro a W c K lx st hc k;refine fV (n0:=10) ax mix hQ WV (fun _=>by kernel_rfl) ?_;intro w5 J;have f:=K.W J;have r:=lx.W J;have q:=st.eN m K.wf J;have M:=SX.refl ax w5
  repeat (first|refine sm k fun a k=>?_|refine ld k (r.cell id rfl) fun a k=>?_|refine ld k (f.cell id rfl) fun a k=>?_)
  refine iK (s:=(i:Int)+1) k (by assumption) rfl (by decide) rfl rfl F fun a k=>?_;obtain⟨bt,a6,b8,o,a4,a3,I,a1,L,b1,b3⟩:=f.br.set (i:=x.term.toNat) (d:=.int i64 (i+1)) (us:=[.int i64 (i+1)]) f.wf z ⟨_,rfl,xC (by omega) (by omega)⟩ rfl (fun j u c h1 h2=>D7 j u c h1 h2);rw[show({R with br:=v'}:GR).br=v' from rfl]at o;rw[<-hN]at k;rw[o]at k;refine zg (el:=3) (sz:=1) k rfl rfl z fun a k=>?_;refine lv (vs:=[.int i64 (i+1)]) (cur:=b8) k (by decide) rfl (by kernel_rfl) rfl rfl rfl a4 a3 (by simp[Value.oneCell']) (fun h=>absurd rfl h) fun a k=>?_;refine av (a0 _ _ (na MN k ?_).2);have t:=f.Bk L b1 b3;refine⟨S,cE,rfl,q.fF m f.wf L (.inl (by decide)),{R with br:=v'},?_,b6,b2⟩;rw[hg]
  have:Fl i x g={g with br:=(dV g.br x.term).set x.term.toNat (.int i64 (i+1)),bad:=c}:=by unfold Fl;simp only;rw[V,hc]
  rw[this];exact t
 refine wp_seq (wp_seq (rg ax hQ WX ?_));intro w5 J;have f:=A.W J;have r:=N.W J;have q:=a8.eN m A.wf J;have M:=SX.refl ax w5
 repeat refine sm k fun a k=>?_
 by_cases hz:n=0
 .refine cm (c:=false) k rfl rfl (by rw[hz];rfl) fun a k=>?_
  repeat refine sm k fun a k=>?_
  refine pk k rfl rfl fun a k=>?_;refine av (bw k rfl (wp_skip ?_));exact last _ _ g.bad f r q (by rw[hz];cases g.bad<;>rfl) (k.sb)
 refine cm (c:=true) k rfl rfl (congrArg some (by simpa using hz)) fun a k=>?_
 repeat refine sm k fun a k=>?_
 refine iK (s:=(i:Int)+1) k (by assumption) rfl (by decide) rfl rfl F fun a k=>?_;refine cm (c:=n !=(i+1:Int)) k rfl rfl rfl fun a k=>?_;refine pk k rfl rfl fun a k=>?_;refine av (bw k rfl ?_);by_cases hq:(n !=(i+1:Int))=true
 .rw[if_pos hq];refine rg ax hQ WW ?_;intro w6 e6;have t:=f.W e6;have b0:=r.W e6;have a7:=q.eN m f.wf e6;have M:=SX.refl ax w6
  repeat refine sm k fun a k=>?_
  refine jV (cur:={R with br:=v'}.cells g.bad) k (by decide) rfl (by kernel_rfl) rfl rfl rfl t.obj.heap (by show 10<11;omega) rfl (fun h=>absurd rfl h) fun a k=>?_;obtain⟨h1,h2⟩:=t.zA true;refine av (last _ _ true h2 (b0.O h1 id) (a7.fF m t.wf h1 (.inl (by decide))) ?_ (k.sb));rw[hq,show(n !=0)=true by simpa using hz];cases g.bad<;>rfl
 rw[if_neg hq];refine wp_skip (last _ _ g.bad f r q ?_ (k.sb));rw[show(n !=(i+1:Int))=false by simpa using hq];cases g.bad<;>simp
end
section
variable{w0 w:Tan}{S0 S:bG}{kJ ow:Ow}{b b4 i:Nat}{g0 g g':GS}{R:GR}{x:RS}{v1 v2:Tao}{Q:O3}{a:Act}
noncomputable def vV:Code:=.seq (.region 9 NI false) (.cond (.tmp 118) (.seq (.region 10 DP true) (.seq (.region 11 DO true) (.seq (.seq (.region 12 DN false) (.cond (.tmp 146) (.region 13 DM false) .skip)) (.region 14 Aj true)))) .skip)
def Lc(hQ:QP Q)(b9:∀a w S ow R,Kn 160 a [(4,.pointer (some ⟨b4,0,none⟩)),(0,bM b),(1,.int i64 i)]->bB LG ax w0 S0 kJ w S ow->GM w S ow b (R.cells (pw i x g).bad) R (pw i x g)->R.la=R.lb->R.va=R.vv->fU w S ow b4 67 (G5 x v1 v2)->vV.wp Try.prog Q a w)(m:Wf w0 S0 kJ)(st:bB LG ax w0 S0 kJ w S ow)(gm:GM w S ow b (R.cells g.bad) R g)(d9:R.la=R.lb)(a5:R.va=R.vv)(lx:fU w S ow b4 67 (G5 x v1 v2))(a6:0<=x.term)(e7:x.term<=5000)(d6:∀l∈g.aT,l.length<=2000000)(P:i<g.aT.length)(e8:i<5)(d5:kL i64 x.vote)(k:Kn 160 a [(4,.pointer (some ⟨b4,0,none⟩)),(0,bM b),(1,.int i64 i)]):
  (Code.seq (.region 4 NM true) (.seq (.region 5 NL true) (.seq (.seq (.region 6 NK false) (.cond (.tmp 98) (.region 7 NJ false) .skip)) (.seq (.region 8 Jv true) vV)))).wp Try.prog Q a w:=by
 obtain⟨l,a7⟩:∃l,g.aT[i]?=some l:=⟨_,aR P⟩;have e0:g.aT.getD i []=l:=by rw[ag,a7,bq]
 have d8:=d6 l (bT a7);refine wp_seq (fV (n0:=15) (fun bb=>ow bb=some (100+i)) mix (by exact hQ) acn (fun _=>by kernel_rfl) ?_);intro w1 e1;have p:=gm.W e1;have N:=lx.W e1;have d1:=st.eN m gm.wf e1;have s0:=SX.refl (fun bb=>ow bb=some (100+i)) w1;have a3:¬ow b=some (100+i):=by rw[p.obj.ow];intro e;injection e with e;omega
 have a4:¬ow b4=some (100+i):=by rw[N.ow];intro e;cases e
 obtain⟨v,o,t⟩:=p.oa i l a7;obtain⟨bv,a0,s,A,I,z⟩:=p.tL.elem (i:=i) (u:=v) (by rw[a5];exact o);have n:R.va.length=g.aT.length:=by rw[a5];exact p.wM
 have b3:¬ow bv=some (100+i):=by rw[I];intro e;injection e with e;omega
 repeat (first|refine sm k fun a k=>?_|refine ld k (N.cell a4 rfl) fun a k=>?_|refine ld k (p.cell a3 rfl) fun a k=>?_)
 rw[s]at k;refine zg (el:=29) (sz:=1) k rfl rfl (by rw[n];exact P) fun a k=>?_;refine kx k (by assumption) rfl (by decide) rfl (by kernel_rfl) (by kernel_rfl) (eP A b3 (by rw[bL];exact z)) fun a k=>?_
 repeat (first|refine sm k fun a k=>?_|refine ld k (N.cell a4 rfl) fun a k=>?_|refine ld k (p.cell a3 rfl) fun a k=>?_)
 refine iB (vs:=[v,.int i64 x.term]) k (by decide) rfl (by decide) J3 rfl (yu t p.wf a6 (by omega) d8) ?_;rintro e w2 ⟨v',cE,rfl,pZ,wJ,L3,hlen⟩;obtain⟨Av,cv,b7⟩:=L3.slice;refine⟨_,rfl,fun _=>SX.iu (fun _ h=>h) pZ,fun a k=>?_⟩;have s1:=SX.iu (X:=fun bb=>ow bb=some (100+i)) (fun _ h=>h) pZ;have a9:=p.JK pZ wJ P L3 (by omega);have b2:=N.O pZ id;have V:=d1.fF m p.wf pZ (.inr (by omega));refine zg (el:=29) (sz:=1) k rfl rfl (by rw[n];exact P) fun a k=>?_;obtain⟨f0,e3,b0,Z,E,D,c5,c1,M,b6,b8⟩:=a9.tL.set (i:=i) (u:=v') wJ (by show i<R.va.length;rw[n];exact P);have J:R.aT=_:=Z;rw[s]at J;injection J with L _ h3;injection L with L;injection L with L _;subst L;rw[bL]at k;refine lv (vs:=[v']) (cur:=b0) k (by decide) rfl (by kernel_rfl) rfl rfl (by rw[b7];rfl) E D (by rw[b7];simp[Value.oneCell']) (fun h=>absurd rfl h) fun a k=>?_;refine av ?_;have K:=a9.OG M b6 b8;have b1:=b2.O M id;have U:=V.fF m wJ M (.inl (by decide));have k:=k.sb (l:=[(4,.pointer (some ⟨b4,0,none⟩)),(0,bM b),(1,.int i64 i)]);have O:=FX (l:=l) a6;have e2:=vZ (fun y hy=>L3.all y hy) O;have hN:((x.term.toNat:Nat):Int)=x.term:=Int.toNat_of_nonneg a6;have F:∃R3:GR,R3=({R with aT:=R.aT,va:=R.va.set i v',vv:=R.vv.set i v'}:GR):=⟨_,rfl⟩;obtain⟨R3,F⟩:=F;generalize w2.setRow bv _=w3 at K b1 U⊢;have K:GM w3 S cE b (R3.cells g.bad) R3 {g with aT:=g.aT.set i (dV l x.term)}:=by rw[F];exact K
 have c2:R3.la=R3.lb:=by rw[F];exact d9
 have r:R3.va=R3.vv:=by rw[F];show R.va.set i v'=R.vv.set i v';rw[a5]
 have Y:({g with aT:=g.aT.set i (dV l x.term)}:GS).aT[i]?=some (dV l x.term):=by show(g.aT.set i (dV l x.term))[i]?=_;rw[bF,if_pos rfl,if_pos P]
 clear F;clear b8 M b6 E D Z c1 c5 V b2 a9 s1 pZ L3 s0 a3 a4 s A I z n b3 t o;refine wp_seq (fV (n0:=12) ax mix (by exact hQ) acm (fun _=>by kernel_rfl) ?_);intro w4 e4;have C:=K.W e4;have a2:=b1.W e4;have d0:=U.eN m K.wf e4;have s0:=SX.refl ax w4;obtain⟨v4,o,t⟩:=C.oa i _ Y;obtain⟨bv,a0,s,A,I,z⟩:=C.tL.elem (i:=i) (u:=v4) (by rw[r];exact o);have n:R3.va.length=g.aT.length:=by rw[r,C.wM];show(g.aT.set i _).length=_;rw[aK]
 obtain⟨bt,c7,T,a8,c0,c4⟩:=dA.vY t e2
 repeat (first|refine sm k fun a k=>?_|refine ld k (a2.cell id rfl) fun a k=>?_|refine ld k (C.cell id rfl) fun a k=>?_)
 rw[s]at k;refine zg (el:=29) (sz:=1) k rfl rfl (by rw[n];exact P) fun a k=>?_;refine kx (v:=v4) k (by assumption) rfl (by decide) rfl (by kernel_rfl) (by kernel_rfl) (eP A (fun h=>h) (by rw[bL];exact z)) fun a k=>?_
 repeat (first|refine sm k fun a k=>?_|refine ld k (a2.cell id rfl) fun a k=>?_|refine ld k (C.cell id rfl) fun a k=>?_)
 rw[<-hN]at k;rw[T]at k;refine zg (el:=3) (sz:=1) k rfl rfl O fun a k=>?_;refine ld k (eP a8 (fun h=>h) c4) fun a k=>?_
 repeat refine sm k fun a k=>?_
 refine av ?_;have k:=k.sb (l:=[(5,.int i64 (iU (dV l x.term) x.term.toNat)),(4,.pointer (some ⟨b4,0,none⟩)),(0,bM b),(1,.int i64 i)]);generalize b5:iU (dV l x.term) x.term.toNat=B at k;clear T a8 c0 c4 s A I z n t o s0
 have last:∀(a:Act) (W:Tan) (c:Bool) (gm:GM W S cE b (R3.cells c) R3 {g with aT:=g.aT.set i (dV l x.term),bad:=c}) (lx:fU W S cE b4 67 (G5 x v1 v2)) (st:bB LG ax w0 S0 kJ W S cE),
   c=(g.bad||(B !=0&&x.vote !=B))->Kn 160 a [(4,.pointer (some ⟨b4,0,none⟩)),(0,bM b),(1,.int i64 i)]->(Code.seq (.region 8 Jv true) vV).wp Try.prog Q a W:=by
  intro a W c gm lx st hc k;refine wp_seq (fV (n0:=13) ax mix (by exact hQ) aci (fun _=>by kernel_rfl) ?_);intro w5 e5;have f:=gm.W e5;have q:=lx.W e5;have H:=st.eN m gm.wf e5;have s0:=SX.refl ax w5;obtain⟨v5,o,t⟩:=f.oa i (dV l x.term) Y;obtain⟨bv,a0,s,A,I,z⟩:=f.tL.elem (i:=i) (u:=v5) (by rw[r];exact o);have n:R3.va.length=g.aT.length:=by rw[r,f.wM];show(g.aT.set i _).length=_;rw[aK]
  obtain⟨bt,c7,b0,T,E,D,a8,c0,a1,d3,d7⟩:=t.set (i:=x.term.toNat) (d:=.int i64 x.vote) (us:=[.int i64 x.vote]) f.wf O ⟨_,rfl,d5⟩ rfl (fun j u c L h2=>D7 j u c L h2)
  repeat (first|refine sm k fun a k=>?_|refine ld k (q.cell id rfl) fun a k=>?_|refine ld k (f.cell id rfl) fun a k=>?_)
  rw[s]at k;refine zg (el:=29) (sz:=1) k rfl rfl (by rw[n];exact P) fun a k=>?_;refine kx (v:=v5) k (by assumption) rfl (by decide) rfl (by kernel_rfl) (by kernel_rfl) (eP A (fun h=>h) (by rw[bL];exact z)) fun a k=>?_
  repeat (first|refine sm k fun a k=>?_|refine ld k (q.cell id rfl) fun a k=>?_|refine ld k (f.cell id rfl) fun a k=>?_)
  rw[<-hN]at k;rw[T]at k;refine zg (el:=3) (sz:=1) k rfl rfl O fun a k=>?_;refine lv (vs:=[.int i64 x.vote]) (cur:=b0) k (by decide) rfl (by kernel_rfl) rfl rfl rfl E D (by simp[Value.oneCell']) (fun h=>absurd rfl h) fun a k=>?_;refine av ?_;have G:=f.JK a1 d3 (by show i<(g.aT.set i _).length;rw[aK];exact P) d7 (by omega)
  have e6:pw i x g={g with aT:=(g.aT.set i (dV l x.term)).set i ((dV l x.term).set x.term.toNat (.int i64 x.vote)),bad:=c}:=by unfold pw;simp only;rw[e0,b5,hc,List.set_set]
  have d4:R3.vv.set i v5=R3.vv:=by
   apply eH;intro j;rw[bF];by_cases c3:i=j
   .subst c3;rw[if_pos rfl];have:=(aD.1 o).1;rw[if_pos this,o]
   rw[if_neg c3]
  rw[d4]at G;refine b9 _ _ S cE R3 (k.sb) (H.fF m f.wf a1 (.inr (by omega))) ?_ c2 r (q.O a1 id);rw[e6];exact G
 refine wp_seq (wp_seq (rg ax hQ ack ?_));intro w5 e5;have f:=C.W e5;have q:=a2.W e5;have H:=d0.eN m C.wf e5;have s0:=SX.refl ax w5
 repeat refine sm k fun a k=>?_
 by_cases hz:B=0
 .refine cm (c:=false) k rfl rfl (by rw[hz];rfl) fun a k=>?_
  repeat refine sm k fun a k=>?_
  refine pk k rfl rfl fun a k=>?_;refine av (bw k rfl (wp_skip ?_));exact last _ _ g.bad f q H (by rw[hz];cases g.bad<;>rfl) (k.sb)
 refine cm (c:=true) k rfl rfl (congrArg some (by simpa using hz)) fun a k=>?_
 repeat (first|refine sm k fun a k=>?_|refine ld k (q.cell id rfl) fun a k=>?_)
 refine cm (c:=x.vote !=B) k rfl rfl rfl fun a k=>?_;refine pk k rfl rfl fun a k=>?_;refine av (bw k rfl ?_);by_cases hq:(x.vote !=B)=true
 .rw[if_pos hq];refine rg ax hQ acj ?_;intro w6 e6;have G:=f.W e6;have d2:=q.W e6;have c9:=H.eN m f.wf e6;have s0:=SX.refl ax w6
  repeat refine sm k fun a k=>?_
  refine jV (cur:=R3.cells g.bad) k (by decide) rfl (by kernel_rfl) rfl rfl rfl G.obj.heap (by show 10<11;omega) rfl (fun h=>absurd rfl h) fun a k=>?_;obtain⟨L,h2⟩:=G.zA true;refine av (last _ _ true h2 (d2.O L id) (c9.fF m G.wf L (.inl (by decide))) ?_ (k.sb));rw[hq,show(B !=0)=true by simpa using hz];cases g.bad<;>rfl
 rw[if_neg hq];refine wp_skip (last _ _ g.bad f q H ?_ (k.sb));rw[show(x.vote !=B)=false by simpa using hq];cases g.bad<;>simp
end
def Iy{w:Tan}{S:bG}{ow:Ow}{b i:Nat}{g:GS}(h:iA w S ow b g)(hl:wZ g)(hi:i<g.eT.length)(t:Ok (bS g i) 0):
  Calls Try.prog 19 [bM b,.int i64 i].toArray w (qR w S ow b (lz i g)):=by
 obtain⟨R,p,z,N⟩:=h;have d4:=p;have n5:=hl.n5;have hx:g.eT[i]?=some (bS g i):=by unfold bS;rw[ag,aR hi,bq]
 generalize b6:bS g i=x at hx t;have q:i<g.cu.length:=by rw[hl.cu];exact hi
 have ht:=vZ (fun y Q=>p.cu.all y Q) q;refine lh Try.func19 OB Yn agQ (by show 2<=160;omega) ?_;intro a k;have H:=jw (P:=Try.prog) (fn:=Try.f19) (R:=qR w S ow b (lz i g));refine wp_seq (rg ax H acr ?_);intro w1 e1;have o:=p.W e1;have M:=bB.W e1 LG ax S ow;have V:=SX.refl ax w1
 repeat (first|refine sm k fun a k=>?_|refine ld k (o.cell id rfl) fun a k=>?_)
 obtain⟨bs,c4,b9,a0⟩:=o.eT i x hx;obtain⟨bl,d5,c9,c5,d2,c3⟩:=o.arr.elem (i:=i) (u:=bM bs) (by rw[z,ab,c4];rfl);have c7:(R.la.map bM).length=g.eT.length:=by rw[aj,z];exact o.qV
 rw[c9]at k;refine zg (el:=52) (sz:=1) k rfl rfl (by rw[c7];exact hi) fun a k=>?_;refine kx (v:=bM bs) k (by assumption) rfl (by decide) rfl (by kernel_rfl) (by kernel_rfl) (eP c5 (fun h=>h) (by rw[bL];exact c3)) fun a k=>?_;refine iB (vs:=[bM bs]) k (by decide) rfl (by decide) P9.enter rfl (kF b9 o.wf t) ?_;rintro e T ⟨A1,n1,c1,A2,n2,c2,rfl,-,pZ,wJ⟩;refine⟨_,rfl,fun _=>pZ.xL _,fun a k=>?_⟩;have a7:=o.O pZ wJ;have s1:=pZ.xL ax;refine mn (nn:=9) k (by decide) rfl (by decide) (by kernel_rfl) (fun I _=>s1.trans (SX.alloc _ _ _)) fun I b5 a k=>?_;refine lv (vs:=[.int i64 x.role,.int i64 x.br,.int i64 x.term,.int i64 x.vote,.int i64 x.bH,.int i64 (x.li+x.le.length),.int i64 x.li,.slice A1 n1 c1,.slice A2 n2 c2]) k (by decide) rfl (by kernel_rfl) rfl rfl rfl (heap_alloc_new T _) (by show 0+9<=I.toArray.size;rw[cb];omega) (by simp[Value.oneCell']) (fun h=>absurd rfl h) fun a k=>?_;refine av ?_
 have e0:(I.toArray.toList.take 0++[Value.int i64 x.role,.int i64 x.br,.int i64 x.term,.int i64 x.vote,.int i64 x.bH,.int i64 (x.li+x.le.length),.int i64 x.li,.slice A1 n1 c1,.slice A2 n2 c2]++I.toArray.toList.drop (0+9))=[Value.int i64 x.role,.int i64 x.br,.int i64 x.term,.int i64 x.vote,.int i64 x.bH,.int i64 (x.li+x.le.length),.int i64 x.li,.slice A1 n1 c1,.slice A2 n2 c2]:=by have:I.toArray.toList.drop (0+9)=[]:=bQ (by simp[b5]);rw[this];simp
 rw[show List.length [Value.int i64 x.role,.int i64 x.br,.int i64 x.term,.int i64 x.vote,.int i64 x.bH,.int i64 (x.li+x.le.length),.int i64 x.li,.slice A1 n1 c1,.slice A2 n2 c2]=9 from rfl,e0];obtain⟨J,C⟩:=bB.alloc wJ (.cells I.toArray 67);have Z:=fU.new wJ 67 I;obtain⟨m,B,lx⟩:=Z.set C (us:=[.int i64 x.role,.int i64 x.br,.int i64 x.term,.int i64 x.vote,.int i64 x.bH,.int i64 (x.li+x.le.length),.int i64 x.li,.slice A1 n1 c1,.slice A2 n2 c2]);have E:=(a7.O J C).O m B;have L:bB LG ax w S ow _ S ow:=(((M.tr p.wf o.wf pZ nE).tr p.wf wJ J nE).tr p.wf C m (fun bb hb=>.inr (by rw[show bb=_ from hb];exact aY M.size pZ.size))).mono (fun _ h=>h.elim (fun h=>h.elim (fun h=>h.elim id (fun h=>h.elim)) (fun h=>h.elim)) (fun h=>h.elim)) (fun _ h=>h);generalize d3:T.heap.size=b4 at k lx E L⊢;generalize hW:(T.alloc _).setRow b4 _=W at lx E L⊢;clear e0 m B Z J C a7 s1 pZ wJ M V hW;have k:=k.sb (l:=[(4,.pointer (some ⟨b4,0,none⟩)),(0,bM b),(1,.int i64 i)]);have lx:fU W S ow b4 67 (G5 x (.slice A1 n1 c1) (.slice A2 n2 c2)):=lx
 have f:lz i g=if x.term<iU g.cu i\/5000<x.term then{g with bad:=g.bad||decide (x.term<iU g.cu i)} else(if x.role=2 then Fl i x (pw i x {g with cu:=g.cu.set i (.int i64 x.term)}) else pw i x {g with cu:=g.cu.set i (.int i64 x.term)}):=by unfold lz;simp only;rw[b6]
 refine wp_seq (wp_seq (fV (n0:=17) ax mix (by exact H) acq (fun _=>by kernel_rfl) ?_));intro T e2;have r:=E.W e2;have s:=lx.W e2;have K:=bB.eC p.wf E.wf L (bB.W e2 ax ax S ow) nE;have V:=SX.refl ax T
 repeat (first|refine sm k fun a k=>?_|refine ld k (r.cell id rfl) fun a k=>?_|refine ld k (s.cell id rfl) fun a k=>?_)
 obtain⟨bt,a8,D,O,a1,a4⟩:=dA.vY r.cu ht;rw[D]at k;refine zg (el:=3) (sz:=1) k rfl rfl q fun a k=>?_;refine ld k (eP O (fun h=>h) a4) fun a k=>?_;by_cases h1:x.term<iU g.cu i
 .refine cm (c:=true) k rfl rfl (Yi h1) fun a k=>?_
  repeat refine sm k fun a k=>?_
  refine pk k rfl rfl fun a k=>?_;refine av (bw k rfl ?_);refine FK (g':=lz i g) (by exact H) (fun a w h=>h) p.wf K r z N s q ?_ (k.sb);rw[f,if_pos (.inl h1)]
 refine cm (c:=false) k rfl rfl (Yj h1) fun a k=>?_
 repeat (first|refine sm k fun a k=>?_|refine ld k (s.cell id rfl) fun a k=>?_)
 by_cases h2:5000<x.term
 .refine cm (c:=true) k rfl rfl (HZ h2) fun a k=>?_;refine pk k rfl rfl fun a k=>?_;refine av (bw k rfl ?_);refine FK (g':=lz i g) (by exact H) (fun a w h=>h) p.wf K r z N s q ?_ (k.sb);rw[f,if_pos (.inr h2)]
 refine cm (c:=false) k rfl rfl (DY h2) fun a k=>?_;refine pk k rfl rfl fun a k=>?_;refine av (bw k rfl (wp_skip ?_));rw[if_neg (by omega)]at f;have k:=k.sb (l:=[(4,.pointer (some ⟨b4,0,none⟩)),(0,bM b),(1,.int i64 i)]);clear D O a1 a4 V;refine wp_seq (fV (n0:=8) ax mix (by exact H) aco (fun _=>by kernel_rfl) ?_);intro w3 e3;have A:=r.W e3;have Y:=s.W e3;have b1:=bB.eC p.wf r.wf K (bB.W e3 ax ax S ow) nE;have V:=SX.refl ax w3;have c0:=xC (n:=x.term) t.tm (by omega);obtain⟨bt,a8,d1,D,a3,a2,O,a1,m,B,b8⟩:=A.cu.set (i:=i) (d:=.int i64 x.term) (us:=[.int i64 x.term]) A.wf q ⟨_,rfl,c0⟩ rfl (fun j u c h1 h2=>D7 j u c h1 h2)
 repeat (first|refine sm k fun a k=>?_|refine ld k (A.cell id rfl) fun a k=>?_|refine ld k (Y.cell id rfl) fun a k=>?_)
 rw[D]at k;refine zg (el:=3) (sz:=1) k rfl rfl q fun a k=>?_;refine lv (vs:=[.int i64 x.term]) (cur:=d1) k (by decide) rfl (by kernel_rfl) rfl rfl rfl a3 a2 (by simp[Value.oneCell']) (fun h=>absurd rfl h) fun a k=>?_;refine av ?_;have d0:=A.CG m B b8;have b0:=b1.fF p.wf A.wf m (.inl (by decide))
 have b7:kL i64 x.vote:=by obtain⟨bs,_,_,a0⟩:=p.eT i x hx;obtain⟨y,Q,hh⟩:=dh a0 12 I6 (by rw[Ty.dT];rfl);have e:(encS x)[12]?=some (.int i64 x.vote):=rfl;rw[e]at Q;injection Q with Q;subst Q;obtain⟨n,hn,hk⟩:=hh;injection hn with _ hn;rw[hn];exact hk
 refine Lc (R:={R with cu:=R.cu}) (g:={g with cu:=g.cu.set i (.int i64 x.term)}) (by exact H) ?_ p.wf b0 d0 z N (Y.O m id) t.tm (by omega) hl.vl (by show i<g.aT.length;rw[hl.aT];exact hi) (by omega) b7 (k.sb);intro a w7 S7 b2 R7 k a9 a6 G F b3;unfold vV;refine wp_seq (rg ax H ach ?_);intro w8 e8;have a5:=a6.W e8;have X:=b3.W e8;have U:=a9.eN p.wf a6.wf e8;have V:=SX.refl ax w8
 repeat (first|refine sm k fun a k=>?_|refine ld k (X.cell id rfl) fun a k=>?_)
 refine cm (c:=x.role==2) k rfl rfl rfl fun a k=>?_;refine av (bw k rfl ?_);by_cases hr:x.role=2
 .rw[if_pos (by simpa using hr)];refine Ld (g':=lz i g) (by exact H) (fun a w h=>h) p.wf U a5 G F X t.tm (by omega) hl.lead (by omega) ?_ (k.sub ⟨rfl,rfl,rfl,trivial⟩);rw[f,if_pos hr]
 rw[if_neg (by simpa using hr)];refine wp_skip (na MN k ⟨S7,b2,rfl,U,R7,?_,G,F⟩).2;rw[f,if_neg hr];exact a5
def mF(ow:Ow):Prop:=∀b l,ow b=some l->LG l
def mF.O{L X:Taj}{w w':Tan}{S S':bG}{ow cE:Ow}(h:mF ow)(c:bB L X w S ow w' S' cE)(e:∀l,L l->LG l):mF cE:=fun b l d=>(c.iu b l d).elim (h b l) (e l)
def bB.lg{X:Taj}{w w':Tan}{S S':bG}{ow cE:Ow}(h:mF ow)(k:mF cE)(c:bB (fun l=>LG l\/60<=l) X w S ow w' S' cE):bB LG X w S ow w' S' cE:=by have p:∀l,LG l->(LG l\/60<=l):=fun _ h=>.inl h;exact⟨c.size,c.os,c.tape,c.output,fun b l n e d=>absurd (h b l e) d,c.free,c.jx,c.cell,fun b l e d=>absurd (h b l e) d,fun b o hs=>(c.new b o hs).imp id (fun j=>j.imp id (fun⟨l,f,_⟩=>⟨l,f,h b l f⟩)),c.qT,fun b l d=>.inr (k b l d)⟩
def mh(es:Tah)(f:Int):Tah:=es.filter fun e=>decide ((cD 0 e).J<f)
def C5:∀{a b:Tam} {n:Nat} {x:Tah},a.length=n->dr (.Y (a++b)) x->dr (.Y a) (x.take n)
 |[],b,n,x,hn,h=>by subst hn;exact dk.2 (by simp)
 |t::a,b,n,x,hn,h=>by obtain⟨d,r,rfl,e,c⟩:=aA.1 h;subst hn;rw[bu,dF];exact aA.2 ⟨d,_,rfl,e,C5 (b:=b) rfl c⟩
def xD:∀{a b:Tam} {x:Tah},dr (.Y (a++b)) x->dr (.Y b) (x.drop a.length)
 |[],b,x,h=>h
 |t::a,b,x,h=>by obtain⟨d,r,rfl,_,c⟩:=aA.1 (show dr (.cons t (.Y (a++b))) x from h);show dr (.Y b) (r.drop a.length);exact xD (a:=a) c
def ov(es:Tah)(i:Int)(c:Bool):Tah:=es.filter fun e=>decide ((cD 0 e).J>i)&&c
def xh(last:Int)(x o:D):Tah:=match cD 4 o with
 |.ptr l=>ov (cD 7 x).V (l.getD 0 .top).J (decide (last>(l.getD 0 .top).J))
 |_=>(cD 7 x).V
def Au(x o:D):Tah:=match cD 4 o with
 |.ptr l=>l
 |_=>[cD 2 x,cD 3 x,cD 4 x,cD 5 x,cD 6 x]
def D5(last:Int)(x o:D):Tah:=if(cD 3 o).V=[] then xh last x o else mh (xh last x o) (cD 0 ((cD 3 o).V.getD 0 .top)).J++(cD 3 o).V
def nD(i:Nat)(o:D)(g:GS):GS:=
 let x:=g.saved.getD i .top
 {g with saved:=g.saved.set i (.agg (cD 1 o::cD 2 o::(Au x o++[.list (D5 ((bS g i).li+(bS g i).le.length) x o)])))}
def IE{es:Tah}{f:Int}{c:Bool}{j:Nat}{e:D}(h:es[j]?=some e):ov (es.take (j+1)) f c=if(decide ((cD 0 e).J>f)&&c)=true then ov (es.take j) f c++[e] else ov (es.take j) f c:=by
 have k:es.take (j+1)=es.take j++[e]:=by rw[ca,h];rfl
 unfold ov;rw[k,List.filter_append];by_cases d:(decide ((cD 0 e).J>f)&&c)=true
 .rw[if_pos d];simp only[List.filter_cons,d,if_true,List.filter_nil]
 rw[if_neg d];simp only[List.filter_cons,d,if_false,List.filter_nil,aX];simp
def FR{es:Tah}{f:Int}{c:Bool}:(ov es f c).length<=es.length:=List.length_filter_le _ _
def II{es:Tah}{f:Int}{j:Nat}{e:D}(h:es[j]?=some e):mh (es.take (j+1)) f=if(cD 0 e).J<f then mh (es.take j) f++[e] else mh (es.take j) f:=by
 have d:es.take (j+1)=es.take j++[e]:=by rw[ca,h];rfl
 unfold mh;rw[d,List.filter_append];by_cases c:(cD 0 e).J<f
 .rw[if_pos c];simp[c]
 rw[if_neg c];simp[c]
def FV{es:Tah}{f:Int}:(mh es f).length<=es.length:=List.length_filter_le _ _
def RU{d:D}(h:Has eD d):d.cells[0]?=some (.int i64 (cD 0 d).J):=by obtain⟨l,rfl,e⟩:=eA.1 h;obtain⟨x,r,rfl,c,_⟩:=aA.1 e;obtain⟨n,rfl,_⟩:=c;rfl
def jF:eD.cells.length=29:=rfl
def tE{n:Nat}(h:n<=400000000000):mG eD n:=by refine⟨by simp only[maxLen];omega,?_⟩;rw[nT];omega
section
variable{w0 w:Tan}{S0 S:bG}{kJ ow:Ow}{b b5 b6 i:Nat}{g:GS}{R:GR}{o:D}{Q:O3}{a:Act}{m:Tac}
def zm{v:Tao}{l:Tah}{j:Nat}{d:D}(h:bV w S v (.list l))(x:l[j]?=some d)(p:Has eD d):
  ∃(k off f:Nat) (us:Tad),v=.slice (some ⟨k,off,none⟩) l.length f/\S k (off+j*29)/\us.length=29/\(∀(q:Nat) u,us[q]?=some u->w.cell? ⟨k,off+j*29+q,none⟩=some u)/\(∀(q:Nat) u c,us[q]?=some u->d.cells[q]?=some c->bV w S u c)/\us[0]?=some (.int i64 (cD 0 d).J)/\
   w.cell? ⟨k,off+j*29+0,none⟩=some (.int i64 (cD 0 d).J):=by obtain⟨k,off,f,us,y,t,s,n,r⟩:=h.Fs x p (by rw[jF];decide);rw[jF]at t s n;obtain⟨u0,e⟩:∃u0,us[0]?=some u0:=⟨_,aR (by omega)⟩;have:=(r 0 u0 _ e (RU p)).dj;subst this;exact⟨k,off,f,us,y,t,s,n,r,e,n 0 _ e⟩
def J6{x:D}{us:Tad}(h:Has eD x)(s:us.length=29)(n:∀(q:Nat) u c,us[q]?=some u->x.cells[q]?=some c->bV w S u c):∀u∈us,u.oneCell'=true:=by
 intro u l;obtain⟨q,k⟩:=au l;have p:q<us.length:=(aD.1 k).1;obtain⟨r,e⟩:=cZ h;have d:q<eD.cells.length:=by rw[jF];omega
 obtain⟨c,j,f⟩:=e q (eD.cells[q]'d) (aR d);exact(n q u c k j).iH f (bU.1 (show eD.cells.all Ty.scalar=true from rfl) _ (aF d))
def TT(l:Nat):Prop:=LG l\/60<=l
def TT.all(l:Nat):TT l:=by unfold TT LG;omega
def qX{L X:Taj}{w0 w d:Tan}{S0 S e:bG}{kJ ow iT:Ow}(c:Wf w0 S0 kJ)(f:Wf w S ow)(h:bB TT ax w0 S0 kJ w S ow)(k:bB L X w S ow d e iT)(j:∀b,X b->w0.heap.size<=b):bB TT ax w0 S0 kJ d e iT:=
 (h.tr c f k (fun b h=>.inr (j b h))).mono (fun l _=>TT.all l) (fun _ h=>h)
def FF(w:Tan)(S:bG)(ow:Ow)(b:Nat)(g':GS):O3:=bodyPost Try.prog Try.f30 (qR w S ow b g')
def Pb{xs:Tad}{d:D}(hQ:QP Q)(p:∀a w,FF w0 S0 kJ b {g with saved:=g.saved.set i d} .normal a w->Q .normal a w)(n:Wf w0 S0 kJ)(F:mF kJ)(P:bB TT ax w0 S0 kJ w S ow)(X:mF ow)(L:GM w S ow b (R.cells g.bad) R g)(G:R.la=R.lb)(C:R.va=R.vv)(T:fU w S ow b6 65 xs)(f:xs.length=8)(V:∀(j:Nat) u c,xs[j]?=some u->d.cells[j]?=some c->bV w S u c)(Y:Has jm d)(q:∀v∈xs,v.oneCell'=true)(K:i<g.saved.length)(k:Kn 119 a [(6,.pointer (some ⟨b6,0,none⟩)),(0,bM b),(1,.int i64 i)]):
  (Code.region 21 Ae true).wp Try.prog Q a w:=by
 refine fV (n0:=6) ax mix hQ WI (fun _=>by kernel_rfl) ?_;intro N t;have e:=L.W t;have z:=T.W t;have y:=qX n L.wf P (bB.W t ax ax S ow) nE;have s0:=SX.refl ax N;obtain⟨bt,M,J,H,s,r,Z,W,l,A,E⟩:=e.saved.set (i:=i) (d:=d) (us:=xs) e.wf K Y f (fun j u c h1 h2=>(V j u c h1 h2).O (bB.W t ax ax S ow))
 repeat (first|refine sm k fun a k=>?_|refine ld k (e.cell id rfl) fun a k=>?_)
 refine lN (vs:=xs) k rfl f (fun O B j v U=>by rw[aq];exact z.cell id U O B) fun a k=>?_;rw[H]at k;refine zg (el:=65) (sz:=8) k rfl rfl K fun a k=>?_;refine lv (vs:=xs) (cur:=J) k (by decide) rfl (by rw[f];kernel_rfl) rfl rfl rfl s r q (fun h=>absurd rfl h) fun a k=>?_;refine av (p _ _ (na abj k ?_).2);have I:=e.CH l A E;have x:=qX n e.wf y l nE;exact⟨S,ow,rfl,bB.lg F X x,R,I,G,C⟩
end
end Go.Proofs.Ytjhmkaninmgilaa
namespace Go.dG
open Go Go.RowKit
def gl(ops:Tae)(p:Tai):Tae:=(p.filterMap (ops[·]?)).toArray
def iN(n:Nat)(p:Tai)(k:Nat):Tbe Bool:=((List.range n).map fun j=>decide (j∈p.take k)).toArray
def SD(ops:Tae)(i:Nat):Tai:=(List.range ops.size).foldl (fun acc j=>match ops[j]? with
 |some oj=>if decide (i<j)&&oj.after.toList.any (fun e=>Region.binds .any e&&(e.on==i||acc.contains e.on)) then acc++[j] else acc
 |none=>acc) []
def Cr(ops:Tae)(p:Tai)(n0:Nat):Nat:=if n0=ops.size then ops.size else p.getD (ops.size-1) 0
def Qr(ops:Tae)(p:Tai)(n0:Nat):Bool:=
 Region.noSelect ops&&decide (p.length=ops.size)&&p.all (fun i=>decide (i<ops.size))&&ops.toList.all (fun o=>match o.guard with|none=>true|some g=>p[g.1]?==some g.1)&&(List.range ops.size).all (fun j=>decide (j∈p))&&decide (n0<=ops.size)&&(List.range ops.size).all fun k=>
  match p[k]? with
  |none=>false
  |some i=>if k<n0 then Region.free .any ops (iN ops.size p k) i&&(Region.ready .any ops (iN ops.size p k)).contains i&&decide (i≠Cr ops p n0)&&
    (decide (n0=ops.size)||((SD ops i).contains (Cr ops p n0)&&(SD ops i).all fun j=> !(p.take k).contains j&&match ops[j]? with
     |some oj=>oj.after.toList.any fun e=>Region.binds .any e&&(e.on==i||(SD ops i).contains e.on)
     |none=>false))
   else Region.ready .any ops (iN ops.size p k)==[i]
def pC{ops:Tae}:∀{p:Tai} (h:∀i∈p,i<ops.size) (k:Nat),(p.filterMap (ops[·]?))[k]?=(p[k]?).bind (ops[·]?)
 |[],_,k=>by simp
 |i::p,h,k=>by
  have a:ops[i]?=some (ops[i]'(h i aZ)):=dq _;rw[List.filterMap_cons,a];cases k with
  |zero=>simp[a]
  |succ k=>
   simp only[df];exact pC (fun j b=>h j (ao _ b)) k
def Bt{n i k:Nat}{p:Tai}(d:p[k]?=some i):(iN n p k).setIfInBounds i true=iN n p (k+1):=by
 apply Array.ext
 .simp[iN]
 intro j c e;simp only[iN,Array.size_setIfInBounds,cb,aj,dW]at c;rw[Array.getElem_setIfInBounds (by simpa [iN]using c)];have b:p.take (k+1)=p.take k++[i]:=by rw[ca,d];rfl
 by_cases a:i=j
 .subst a;simp[iN,b]
 rw[if_neg a];simp only[iN,List.getElem_toArray,List.getElem_map,List.getElem_range,b,aQ,aG];congr 1;exact propext ⟨fun h=>.inl h,fun h=>h.resolve_right (Ne.symm a)⟩
def GL(n:Nat)(p:Tai):Array.replicate n false=iN n p 0:=by
 apply Array.ext
 .simp[iN]
 intro j b a;simp[iN]
section
variable{P:Tba}{ops ops':Tae}{Q:O3}{S:Taf}
def CB{o:Tbd}{a:Act}(b:∀g,o.guard=some g->ops'[g.1]?=ops[g.1]?):Region.wanted o (yielded ops' a.tmps)=Region.wanted o (yielded ops a.tmps):=by
 unfold Region.wanted;cases e:o.guard with
 |none=>rfl
 |some g=>simp only[yielded,b g e]
def YieldsIf.plain{o:Tbd}{v:Tao}{a:Act}(b:∀g,o.guard=some g->ops'[g.1]?=ops[g.1]?)(h:YieldsIf P ops' S o v a):YieldsIf P ops S o v a:=by unfold YieldsIf at h⊢;rw[<-CB b];exact h
def uG{o:Tbd}{i k:Nat}{K:Act->Taf}{a:Act}{w:Tan}(d:∀g,o.guard=some g->ops'[g.1]?=ops[g.1]?)(b:ops'[k]?=some o)(c:ops[i]?=some o)(h:wpOp P ops' Q k K a w):wpOp P ops Q i K a w:=by unfold wpOp at h⊢;rw[b]at h;rw[c];simp only[CB d]at h⊢;exact h
def tZ{L i:Nat}{B:Tai}{A:Tbd}{v:Tao}(hi:ops[i]?=some A)(a3:i≠L)(hL:L∈B)(hB:∀j∈B,∃m,ops[j]?=some m/\∃e∈m.after,Region.binds .any e=true/\(e.on=i\/e.on∈B))(u:∀(j:Nat) (o:Tbd) T b,ops[j]?=some o->o.op≠ .select T b)(hQ:∀c a w,Q (.panic c) (a.put A.dst v) w->Q (.panic c) a w):
  ∀(g:Nat) (d:Tbe Bool) (a:Act) (w:Tan),
   (∀j m,ops[j]?=some m->j≠i->d.getD j true=false->(∀e∈m.after,Region.binds .any e=true->e.on≠i)->A.apart ops m=true)->(∀x∈B,d.getD x true=false)->
   i∈Region.ready .any ops d->YieldsIf P ops S A v a->S w->
   nF P ops Q S L g (d.setIfInBounds i true) (a.put A.dst v) w->nF P ops Q S L (g+1) d a w:=by
 intro g
 induction g with
 |zero=>
  intro d a w _ _ C U M H;refine⟨fun h=>(by rw[h]at C;cases C),fun j V=>?_⟩;by_cases f:j=i
  .subst f;exact U.wpOp hi M ⟨fun _=>M,H⟩
  have:=ready_mono V f;rw[H.1]at this;cases this
 |succ g ih=>
  intro d a w q O C U M H;refine⟨fun h=>(by rw[h]at C;cases C),fun j V=>?_⟩;by_cases f:j=i
  .subst f;exact U.wpOp hi M ⟨fun _=>M,H⟩
  have z:=H.2 j (ready_mono V f);obtain⟨y,m,r,K⟩:=mem_ready.1 V
  have n:∀e∈m.after,Region.binds .any e=true->d.getD e.on true=true:=fun e E F=>by
   have z:=K e E F;rcases eK e.on d.size with h'|h'
   .simp[h']at z⊢;exact z
   simp[Array.getElem?_eq_none h']at z
  have J:=(mem_ready.1 C).1
  have p:∀e∈m.after,Region.binds .any e=true->e.on≠i:=fun e E F a1=>by have z:=n e E F;rw[a1,J]at z;cases z
  have s:j∉B:=fun s=>by
   obtain⟨a2,l,e,E,F,W⟩:=hB j s;rw[r]at l;injection l with l;subst l;rcases W with R|R
   .exact p e E F R
   have D:=n e E F;rw[O _ R]at D;cases D
  have a0:j≠L:=fun e=>s (e▸hL);have R:=wpOp_putIf r (q j m r f y p) (fun T b=>u i A T b hi) (fun T b=>u j m T b r) hQ U z
  have t:∀k ok,ops[k]?=some ok->k≠i->(d.setIfInBounds j true).getD k true=false->
    (∀e∈ok.after,Region.binds .any e=true->e.on≠i)->A.apart ops ok=true:=fun k ok hk Z G X=>by
   refine q k ok hk Z ?_ X;by_cases I:j=k
   .subst I;exact y
   rw[getD_set_ne true I]at G;exact G
  have N:∀x∈B,(d.setIfInBounds j true).getD x true=false:=fun x hx=>by rw[getD_set_ne true (fun e:j=x=>s (by rw[e];exact hx))];exact O x hx
  refine wpOp_mono (fun a' w' D=>⟨fun Y=>D.2.1 Y,ih (d.setIfInBounds j true) a' w' t N (ready_mono C (Ne.symm f)) D.1 (D.2.1 a0) ?_⟩) R;rw[Array.setIfInBounds_comm _ _ f];exact D.2.2
def KO{p:Tai}{n0:Nat}(r:Qr ops p n0=true)(hQ:∀c a d v w,Q (.panic c) (a.put d v) w->Q (.panic c) a w):
  ∀(f k:Nat) (a:Act) (w:Tan),k+f=ops.size->mg P (gl ops p) Q S n0 f k a w->nF P ops Q S (Cr ops p n0) f (iN ops.size p k) a w:=by
 have Z:=r;unfold Qr at r;simp only[aP,bg,bU,cz]at r;obtain⟨⟨⟨⟨⟨⟨H,a0⟩,G⟩,X⟩,L⟩,a1⟩,M⟩:=r
 have u:∀k:Nat,(gl ops p)[k]?=(p[k]?).bind (ops[·]?):=fun k=>by unfold gl;rw[da];exact pC G k
 intro f
 induction f with
 |zero=>
  intro k a w V h;refine⟨?_,h⟩;rw[eZ];intro j E;obtain⟨O,R,l,_⟩:=mem_ready.1 E;have K:j<ops.size:=(aI.1 l).1;have ht:p.take k=p:=dz (by omega);have:=L j K;simp[iN,K,ht,this]at O
 |succ f ih=>
  intro k a w V h;have hk:k<ops.size:=by omega
  have C:=M k hk;have b:p[k]?=some (p[k]'(by omega)):=aR _;generalize p[k]'(by omega)=i at b;rw[b]at C;simp only at C;have hi:i<ops.size:=G i (bT b);have D:ops[i]?=some ops[i]:=dq hi
  have hg:∀g,ops[i].guard=some g->(gl ops p)[g.1]?=ops[g.1]? :=by intro g e;have:=X ops[i] (by simp);rw[e]at this;rw[u,eq_of_beq this];rfl
  have t:(gl ops p)[k]?=some ops[i]:=by rw[u,b];exact D
  unfold mg at h;rw[t]at h;simp only at h;by_cases I:k<n0
  .rw[if_pos I]at h C;obtain⟨hS,v,hy,N⟩:=h;simp only[aP,bg]at C;obtain⟨⟨⟨q,m⟩,s⟩,o⟩:=C
   have n:nF P ops Q S (Cr ops p n0) f ((iN ops.size p k).setIfInBounds i true) (a.put ops[i].dst v) w:=by rw[Bt b];exact ih (k+1) _ w (by omega) N
   have F:=YieldsIf.plain (ops':=gl ops p) hg hy;by_cases Y:n0=ops.size
   .refine qD D s (fun oL A=>?_) (Region.noSelect_spec H) (fun c a w=>hQ c a _ _ w) f (iN ops.size p k) a w (Region.free_spec D q) (by simpa using m) F hS n;exfalso;unfold Cr at A;rw[if_pos Y]at A;simp at A
   rw[bI,bg]at o;have J:=o.resolve_left Y;simp only[aP,bU]at J;obtain⟨W,y⟩:=J;refine tZ (B:=SD ops i) D s (by simpa using W) ?_ (Region.noSelect_spec H) (fun c a w=>hQ c a _ _ w) f (iN ops.size p k) a w (Region.free_spec D q) ?_ (by simpa using m) F hS n
   .intro j E;have z:=(y j E).2;cases l:ops[j]? with
    |none=>rw[l]at z;cases z
    |some R=>
     rw[l]at z;simp only[fp,aP,bI,beq_iff_eq]at z;obtain⟨e,he,hb,U⟩:=z;exact⟨R,rfl,e,by simpa using he,hb,U.imp id (fun h=>by simpa using h)⟩
   intro x hx;obtain⟨h1,z⟩:=y x hx
   have T:x<ops.size:=by
    cases l:ops[x]? with
    |none=>rw[l]at z;cases z
    |some R=>exact(aI.1 l).1
   simp only[cI,List.contains_eq_mem,decide_eq_false_iff_not]at h1;simp[iN,T,h1]
  rw[if_neg I]at h C;have N:Region.ready .any ops (iN ops.size p k)=[i]:=by simpa using C
  refine⟨fun O=>(by rw[N]at O;cases O),fun j E=>?_⟩;rw[N,aG]at E;subst E;refine wpOp_mono (fun a' w' h'=>⟨fun s=>h'.1 (fun hf=>s ?_),?_⟩) (uG hg t D h)
  .rw[Bt b];exact ih (k+1) a' w' (by omega) h'.2
  unfold Cr;rw[if_neg (by omega),ag,show ops.size-1=k by omega,b];rfl
def Td{id n0:Nat}{p:Tai}{L:List OK}(X:Taj)(t:P.follows .mixedOrders=true)(y:QP Q)(k:bK (gl ops p)=L)(l:Qr ops p n0=true){w:Tan}{a:Act}(h:∀d,zD w d->TL P (gl ops p) Q (SX X d) n0 L L 0 a d):(Code.region id ops true).wp P Q a w:=by
 have b:=l;unfold Qr at b;simp only[aP,bg,bU,cz]at b;obtain⟨⟨⟨⟨⟨⟨r,e⟩,f⟩,x⟩,m⟩,s⟩,n⟩:=b
 have c:L.length=ops.size:=by
  rw[<-k,<-e];unfold bK gl;rw[aj]
  have:∀(q:Tai),(∀i∈q,i<ops.size)->(q.filterMap (ops[·]?)).length=q.length:=by
   intro q
   induction q with
   |nil=>intro _;rfl
   |cons i q ih=>
    intro g;have v:ops[i]?=some (ops[i]'(g i aZ)):=dq _;rw[List.filterMap_cons,v];simp only[bu];rw[ih (fun j u=>g j (ao _ u))]
  exact this p f
 refine wp_region_any t ?_;have o:=KO l y ops.size 0 a _ (by omega) (c▸h _ (zD.drew w) k rfl);rw[<-GL]at o;exact nQ _ _ _ _ o
end
def V0(ops:Tae)(n0:Nat):Bool:=
 decide (n0<=ops.size)&&Region.noSelect ops&&(List.range ops.size).all fun i=>
  if i<n0 then Region.free .any ops (gP ops.size i) i&&(Region.ready .any ops (gP ops.size i)).contains i&&decide (i+1<ops.size)&&
   (SD ops i).contains (ops.size-1)&&(SD ops i).all (fun j=>decide (i<j)&&match ops[j]? with
    |some oj=>oj.after.toList.any fun e=>Region.binds .any e&&(e.on==i||(SD ops i).contains e.on)
    |none=>false)
  else Region.ready .any ops (gP ops.size i)==[i]
section
variable{P:Tba}{ops:Tae}{Q:O3}{S:Taf}
def xp{n0:Nat}(k:V0 ops n0=true)(H:∀c a d v w,Q (.panic c) (a.put d v) w->Q (.panic c) a w):
  ∀(f i:Nat) (a:Act) (w:Tan),i+f=ops.size->mg P ops Q S n0 f i a w->nF P ops Q S (ops.size-1) f (gP ops.size i) a w
 |0,i,a,w,hif,h=>by
  refine⟨?_,h⟩;have:i=ops.size:=by omega
  subst this;rw[eZ];intro j q;obtain⟨z,A,b,_⟩:=mem_ready.1 q;have G:j<ops.size:=(aI.1 b).1;simp[gP,G]at z
 |f+1,i,a,w,hif,h=>by
  have l:=k;unfold V0 at k;simp only[aP,bg,bU,cz]at k;obtain⟨⟨N,F⟩,t⟩:=k;have y:i<ops.size:=by omega
  have s:=t i y;unfold mg at h;have E:ops[i]?=some ops[i]:=dq y;rw[E]at h;simp only at h;by_cases r:i<n0
  .rw[if_pos r]at h s;obtain⟨U,v,K,u⟩:=h;simp only[aP,bg,bU]at s;obtain⟨⟨⟨⟨p,g⟩,O⟩,o⟩,m⟩:=s;refine tZ (B:=SD ops i) E (by omega) (by simpa using o) ?_ (Region.noSelect_spec F) (fun c a w=>H c a _ _ w) f (gP ops.size i) a w (Region.free_spec E p) ?_ (by simpa using g) K U ?_
   .intro j q;obtain⟨_,n⟩:=m j q;cases b:ops[j]? with
    |none=>rw[b]at n;cases n
    |some A=>
     rw[b]at n;simp only[fp,aP,bI,beq_iff_eq]at n;obtain⟨e,R,T,D⟩:=n;exact⟨A,rfl,e,by simpa using R,T,D.imp id (fun h=>by simpa using h)⟩
   .intro x L;obtain⟨W,n⟩:=m x L
    have C:x<ops.size:=by
     cases b:ops[x]? with
     |none=>rw[b]at n;cases n
     |some A=>exact(aI.1 b).1
    simp[gP,C];omega
   rw[qB y];exact xp l H f (i+1) _ w (by omega) u
  rw[if_neg r]at h s;have u:Region.ready .any ops (gP ops.size i)=[i]:=by simpa using s
  refine⟨fun z=>(by rw[u]at z;cases z),fun j q=>?_⟩;rw[u,aG]at q;subst q;refine wpOp_mono (fun V J I=>⟨fun M=>I.1 (by omega),?_⟩) h;rw[qB y];exact xp l H f (j+1) V J (by omega) I.2
def MO{id n0:Nat}{L:List OK}(X:Taj)(f:P.follows .mixedOrders=true)(i:QP Q)(d:bK ops=L)(g:V0 ops n0=true){w:Tan}{a:Act}(h:∀c,zD w c->TL P ops Q (SX X c) n0 L L 0 a c):(Code.region id ops true).wp P Q a w:=by
 have b:L.length=ops.size:=by rw[<-d];simp[bK]
 refine wp_region_any f ?_;have e:=xp g i ops.size 0 a _ (by omega) (b▸h _ (zD.drew w) d rfl);rw[<-yw]at e;exact nQ _ _ _ _ e
end
def pj{P:Tba}{ops:Tae}{Q:O3}{S:Taf}{n n0 i d j:Nat}{a:Act}{w:Tan}{m:Tac}{gd:Tap (Nat×Bool)}{L r:List OK}{x:Tbc}{vs:Tad}{v:Tao}(k:Kn n a m)(o:S w)(g:qd L m gd=some true)(l:d<n)(e:lq m x=some (.tuple vs.toArray))(f:vs[j]?=some v)(h:∀b,Kn n b ((d,v)::m)->TL P ops Q S n0 L r (i+1) b w):TL P ops Q S n0 L ((some d,.extract x j,gd)::r) i a w:=by refine qe k o g l (fun s c t q _=>?_) h;have p:=k.op e;unfold execOp;simp only[p,Instr.extract];simp[f]
def WC{P:Tba}{ops:Tae}{Q:O3}{S:Taf}{n n0 i d:Nat}{a:Act}{w:Tan}{m:Tac}{gd:Tap (Nat×Bool)}{L r:List OK}{x y:Tbc}{t t2:Tbb}{p:Tap Addr}(k:Kn n a m)(z:S w)(s:qd L m gd=some true)(u:d<n)(q:lq m x=some (.pointer p))(o:lq m y=some (.pointer none))(c:ptB P t=true)(h:∀g,Kn n g ((d,.bool p.isNone)::m)->TL P ops Q S n0 L r (i+1) g w):TL P ops Q S n0 L ((some d,.binOp .eql t x y t2,gd)::r) i a w:=by
 refine qe k z s u (fun l e D j _=>?_) h;have C:=k.op q;have B:=k.op o
 obtain⟨f,c⟩:∃f,P.underlying t=some (.pointer f):=by
  unfold ptB at c;split at c
  .exact⟨_,by assumption⟩
  cases c
 have A:=pz (w:=j) c p x y;have b:(execOp a.eval ⟨some d,.binOp .eql t x y t2,l,e,D,gd⟩)=(do let v<-(do eqGuard .eql t x y (a.eval x) (a.eval y);binOp .eql t (a.eval x) (a.eval y):Sem Tao);pure (.value v)):=by unfold execOp;rfl
 rw[b,bz,C,B,A];rfl
end Go.dG
namespace Go.Proofs.Ytjhmkaninmgilaa
open Go Go.RowKit Go.dG Go.Proofs
attribute [local irreducible] TL
def KE{w:Tan}{S:bG}{v:Tao}{d:D}{ts:Tam}(h:bV w S v d)(s:Has (.agg (.Y ts)) d)(hs:ts.all Ty.scalar=true):∃(cs:Tad) (ds:Tah),v=.agg cs.toArray/\d=.agg ds/\cs.length=ts.length/\ds.length=ts.length/\(∀(j:Nat) u c,cs[j]?=some u->ds[j]?=some c->bV w S u c)/\dr (.Y ts) ds/\∀u∈cs,u.oneCell'=true:=by
 obtain⟨ds,rfl,e⟩:=eA.1 s;obtain⟨cs,rfl,t,k⟩:=h.zt;have f:ds.length=ts.length:=by rw[gh e,Ty.dT]
 refine⟨cs,ds,rfl,rfl,by omega,f,k,e,?_⟩;intro u p;obtain⟨j,l⟩:=au p;have q:j<cs.length:=(aD.1 l).1;obtain⟨x,n,r⟩:=dh e j (ts[j]'(by omega)) (by rw[Ty.dT];exact aR _);exact(k j u x l n).iH r (bU.1 hs _ (aF _))
def th{w:Tan}{S:bG}{v:Tao}{d:D}{t:Ty}(h:bV w S v d)(c:Has (.list t) d):d=.list d.V/\∃A cap,v=.slice A d.V.length cap:=by obtain⟨l,rfl,_⟩:=bO.1 c;exact⟨rfl,h.pQ⟩
def mQ{t:Ty}{l:Tah}(h:Has (.list t) (.list l)):∀x∈l,Has t x:=by obtain⟨e,c,_,d⟩:=bO.1 h;injection c with c;subst c;exact d
section
variable{w0 w:Tan}{S0 S:bG}{kJ ow:Ow}{b b5 b6 i:Nat}{g:GS}{R:GR}{o:D}{Q:O3}{a:Act}{m:Tac}
noncomputable def AD:Code:=(.seq (.seq (.region 14 Hy false) (.block 2 (.loop (.seq (.seq (.region 15 Hx false) (.cond (.tmp 83) .skip (.exit 2))) (.seq (.block 3 (.seq (.region 17 Hw true) (.cond (.tmp 97) (.region 18 Hv false) .skip))) (.region 16 DL false)))))) (.seq (.region 19 Ag false) (.region 20 Af false)))
def KW{A3 A7:Tap Addr}{c3 c7:Nat}{oe es:Tah}{vo xs:Tad}(hQ:QP Q)(b2:Wf w0 S0 kJ)(st:bB TT ax w0 S0 kJ w S ow)(hn:mF ow)(O:GM w S ow b (R.cells g.bad) R g)(lo:fU w S ow b5 75 vo)(lx:fU w S ow b6 65 xs)(h6:w0.heap.size<=b6)(j2:b5≠b6)(d2:vo[3]?=some (.slice A3 oe.length c3))(d4:bV w S (.slice A3 oe.length c3) (.list oe))(b8:Has (.list eD) (.list oe))(b3:xs[7]?=some (.slice A7 es.length c7))(i9:xs.length=8)(g9:bV w S (.slice A7 es.length c7) (.list es))(h9:Has (.list eD) (.list es))(j1:es.length+oe.length<=300000000000)(d5:oe≠[])(k:Kn 119 a [(9,.slice none 0 0),(5,.pointer (some ⟨b5,0,none⟩)),(6,.pointer (some ⟨b6,0,none⟩)),(0,bM b),(1,.int i64 i)])(K:∀a W S' cE v7,Kn 119 a [(6,.pointer (some ⟨b6,0,none⟩)),(0,bM b),(1,.int i64 i)]->bB TT ax w0 S0 kJ W S' cE->(∀u d,bV w S u d->bV W S' u d)->GM W S' cE b (R.cells g.bad) R g->fU W S' cE b6 65 (xs.set 7 v7)->mF cE->v7.oneCell'=true->
   bV W S' v7 (.list (mh es (cD 0 (oe.getD 0 .top)).J++oe))->Has (.list eD) (.list (mh es (cD 0 (oe.getD 0 .top)).J++oe))->Q .normal a W):AD.wp Try.prog Q a w:=by
 obtain⟨e0,a3⟩:∃e0,oe[0]?=some e0:=by
  cases oe with
  |nil=>exact absurd rfl d5
  |cons x r=>exact⟨x,rfl⟩
 have i1:oe.getD 0 .top=e0:=by rw[ag,a3,bq]
 have i0:=mQ b8 e0 (bT a3);generalize hf:(cD 0 (oe.getD 0 .top)).J=f at K;unfold AD;refine wp_seq (wp_seq (rg ax hQ WQ ?_));intro w1 e1;have s0:=SX.refl ax w1
 repeat refine sm k fun a k=>?_
 refine av ?_;have H:=O.W e1;have i2:=bB.W e1 ax ax S ow
 refine wp_block (wp_loop_ghost (fun mm a W=>∃(j:Nat) (V:Tao) (n:Ow),mm=es.length-j/\j<=es.length/\Kn 119 a [(9,V),(10,.int i64 j),(5,.pointer (some ⟨b5,0,none⟩)),(6,.pointer (some ⟨b6,0,none⟩)),(0,bM b),(1,.int i64 i)]/\
  bB (iF 60) ax w S ow W S n/\GM W S n b (R.cells g.bad) R g/\dA W S n 60 78 eD V (mh (es.take j) f)) (es.length-0)
  ⟨0,.slice none 0 0,ow,rfl,aB _,k.sb,bB.W e1 _ _ _ _,H,by rw[fN];exact dA.nil (by rw[jF];decide) (by decide)⟩ ?_)
 clear H i2 k s0 e1 w1;rintro mm a W ⟨j,V,n,rfl,hj,k,GX,H,EV⟩;have g1:=lo.O GX id;have g0:=lx.O GX id;refine wp_seq (wp_seq (rg ax hQ WO ?_));intro w2 e2;have G:=H.W e2;have c9:=g1.W e2;have a8:=g0.W e2;have c0:=GX.Di O.wf H.wf (bB.W e2 (iF 60) ax S n) nE;have J:=EV.O H.wf (bB.W e2 ax ax S n) (fun h=>h);have s0:=SX.refl ax w2
 repeat (first|refine sm k fun a k=>?_|refine ld k (a8.cell id b3) fun a k=>?_)
 refine cm (c:=decide ((j:Int)<(es.length:Int))) k rfl rfl rfl fun a k=>?_;refine av (bw k rfl ?_);by_cases e6:(j:Int)<(es.length:Int)
 .rw[if_pos (by simpa using e6)];refine wp_skip ?_;have h7:j<es.length:=by omega
  obtain⟨e,he⟩:∃e,es[j]?=some e:=⟨_,aR h7⟩;have L:=mQ h9 e (bT he);have k:=k.sb (l:=[(9,V),(10,.int i64 j),(5,.pointer (some ⟨b5,0,none⟩)),(6,.pointer (some ⟨b6,0,none⟩)),(0,bM b),(1,.int i64 i)])
  have next:∀(a:Act) (W':Tan) (U:Tao) (z:Ow),Kn 119 a [(9,U),(10,.int i64 j),(5,.pointer (some ⟨b5,0,none⟩)),(6,.pointer (some ⟨b6,0,none⟩)),(0,bM b),(1,.int i64 i)]->bB (iF 60) ax w S ow W' S z->GM W' S z b (R.cells g.bad) R g->dA W' S z 60 78 eD U (mh (es.take (j+1)) f)->
    (Code.region 16 DL false).wp Try.prog (Exit.then (fun a' w'=>∃n',n'<es.length-j/\∃(j:Nat) (V:Tao) (n:Ow),n'=es.length-j/\j<=es.length/\Kn 119 a' [(9,V),(10,.int i64 j),(5,.pointer (some ⟨b5,0,none⟩)),(6,.pointer (some ⟨b6,0,none⟩)),(0,bM b),(1,.int i64 i)]/\
     bB (iF 60) ax w S ow w' S n/\GM w' S n b (R.cells g.bad) R g/\dA w' S n 60 78 eD V (mh (es.take j) f)) (Exit.inBlock 2 (Exit.then (Code.wp Try.prog ((Code.region 19 Ag false).seq (.region 20 Af false)) Q) Q))) a W':=by
   intro a W' U z k y p t;refine rg ax hQ WN ?_;intro w4 M;have s0:=SX.refl ax w4
   repeat refine sm k fun a k=>?_
   refine iK (s:=((j+1:Nat):Int)) k (by assumption) rfl (by decide) rfl rfl (wrap64 (by omega) (by omega)) fun a k=>?_
   repeat refine sm k fun a k=>?_
   refine av ⟨es.length-(j+1),by omega,j+1,U,z,rfl,by omega,k.sb,y.Di O.wf p.wf (bB.W M (iF 60) ax S z) nE,p.W M,t.O p.wf (bB.W M ax ax S z) (fun h=>h)⟩
  refine wp_seq (wp_block (wp_seq (fV (n0:=12) ax mix (by exact hQ) WM (fun _=>by kernel_rfl) ?_)));intro w3 N;have p:=G.W N;have Z:=c9.W N;have Y:=a8.W N;have y:=c0.Di O.wf G.wf (bB.W N (iF 60) ax S n) nE;have t:=J.O G.wf (bB.W N ax ax S n) (fun h=>h);have s0:=SX.refl ax w3;obtain⟨bx,ox,cx,ux,a5,f3,a0,i3,a6,j3,f0⟩:=zm (g9.O y) he L;obtain⟨bo,oo,co,uo,d1,i5,j0,j5,i8,j4,f1⟩:=zm (d4.O y) a3 i0;have f2:=p.wf.s _ _ f3;have i4:=p.wf.s _ _ i5
  repeat (first|refine sm k fun a k=>?_|refine ld k (Y.cell id b3) fun a k=>?_)
  rw[a5]at k;refine ot (el:=78) (sz:=29) k (by assumption) rfl (by decide) rfl rfl (by kernel_rfl) (by kernel_rfl) (by omega) (by omega) fun a k=>?_;rw[cY]at k
  repeat refine sm k fun a k=>?_
  refine kx (v:=.int i64 (cD 0 e).J) k (by assumption) rfl (by decide) rfl (by kernel_rfl) (by kernel_rfl) (eP f2 (fun h=>h) f0) fun a k=>?_
  repeat (first|refine sm k fun a k=>?_|refine ld k (Z.cell id d2) fun a k=>?_)
  rw[d1]at k;refine ot (el:=78) (sz:=29) k (by assumption) rfl (by decide) rfl rfl (by kernel_rfl) (by kernel_rfl) (by omega) (by have:=(aD.1 a3).1;omega) fun a k=>?_
  repeat refine sm k fun a k=>?_
  refine kx (v:=.int i64 (cD 0 e0).J) k (by assumption) rfl (by decide) rfl (by kernel_rfl) (by kernel_rfl) (eP i4 (fun h=>h) f1) fun a k=>?_;refine cm (c:=decide ((cD 0 e).J<(cD 0 e0).J)) k rfl rfl rfl fun a k=>?_;refine av (bw k rfl ?_);have e7:f=(cD 0 e0).J:=by rw[<-hf,i1]
  have a1:=II (f:=f) he;by_cases hc:(cD 0 e).J<(cD 0 e0).J
  .rw[if_pos (by simpa using hc)];rw[if_pos (by rw[e7];exact hc)]at a1;refine rg (fun B=>n B=some 60) hQ WL ?_;intro w4 M;have F:=p.W M;have c4:=Y.W M;have f6:=y.Di O.wf p.wf (bB.W M (iF 60) ax S n) nE;have d7:=t.O p.wf (bB.W M ax ax S n) (fun h=>h);have s0:=SX.refl (fun B=>n B=some 60) w4;have g6:¬n b6=some 60:=by rw[c4.ow];intro e;cases e
   have g2:¬n bx=some 60:=F.wf.nx f3 (by decide);have k:=k.sb (l:=[(9,V),(10,.int i64 j),(5,.pointer (some ⟨b5,0,none⟩)),(6,.pointer (some ⟨b6,0,none⟩)),(0,bM b),(1,.int i64 i)])
   repeat (first|refine sm k fun a k=>?_|refine ld k (c4.cell g6 b3) fun a k=>?_)
   rw[a5]at k;refine ot (el:=78) (sz:=29) k (by assumption) rfl (by decide) rfl rfl (by kernel_rfl) (by kernel_rfl) (by omega) (by omega) fun a k=>?_;rw[cY]at k;refine lN (vs:=ux) k rfl a0 (fun w' g8 q v hv=>eP (by rw[M.heap];exact f2) g2 ((M.cell _).trans (i3 q v hv)) w' g8) fun a k=>?_;have h0:=J6 L a0 a6;refine lX (kk:=29) (T:=78) k (by decide) rfl (by decide) rfl (by kernel_rfl) (by show ux.toArray.size=29;rw[cb];exact a0) (fun _=>SX.alloc _ _ _) fun a k=>?_;obtain⟨a2,a9⟩:=bB.alloc F.wf (.cells (Value.agg ux.toArray).cells 78);have d6:=d7.O F.wf a2 (fun h=>h);have i7:=F.O a2 a9;refine tO k (by decide) rfl (by decide) fun ty f7 af=>?_;obtain⟨v',w',I,cE,C,b1,b7⟩:=d6.Fa (P:=Try.prog) (tt:=28) (by kernel_rfl) rfl a9 ty w4.heap.size (d:=e) L (us:=ux) (by rw[jF];exact a0) (heap_alloc_new w4 _) (fun q u c h1 h2=>((a6 q u c h1 h2).O (bB.W M ax ax S n)).O a2) (tE (by have:=FV (es:=es.take j) (f:=f);rw[aO]at this;omega));have s1:SX (fun B=>n B=some 60) w4 w':=(SX.alloc _ _ _).trans (SX.iu (fun _ h=>h) C);refine⟨v',w',jj (k.op rfl) (k.op rfl) I,fun _=>s1,fun a k=>?_⟩
   repeat refine sm k fun a k=>?_
   refine av ?_;refine next a w' v' cE (k.sb) (f6.Di O.wf F.wf (bB.trN F.wf a9 a2 C nE) nE) (i7.loc C b1 ⟨by decide,by decide⟩) ?_
   rw[a1];exact b7
  rw[if_neg (by simpa using hc)];rw[if_neg (by rw[e7];exact hc)]at a1;refine wp_skip (next a w3 V n (k.sb) y p ?_);rw[a1];exact t
 rw[if_neg (by simpa using e6)];refine wp_exit ?_;have h8:j=es.length:=by omega
 subst h8;rw[cH]at J;show(Code.seq (.region 19 Ag false) (.region 20 Af false)).wp Try.prog Q a w2;refine wp_seq (rg (fun B=>n B=some 60) hQ WK ?_);intro w3 N;have p:=G.W N;have Z:=c9.W N;have Y:=a8.W N;have y:=c0.Di O.wf G.wf (bB.W N (iF 60) ax S n) nE;have t:=J.O G.wf (bB.W N ax ax S n) (fun h=>h);have s0:=SX.refl (fun B=>n B=some 60) w3;have g7:¬n b5=some 60:=by rw[Z.ow];intro e;cases e
 repeat (first|refine sm k fun a k=>?_|refine ld k (Z.cell g7 d2) fun a k=>?_)
 refine tO k (by decide) rfl (by decide) fun ty f7 af=>?_;obtain⟨A,c,c1,g3,hA,h4,h5,h3⟩:=(d4.O y).source (fun d hd=>(cZ (mQ b8 d hd)).1);injection g3 with g5 _ g4;subst g5 g4;obtain⟨v',w',I,cE,C,b1,b7⟩:=t.sZ (P:=Try.prog) (tt:=28) (ys:=oe) (by kernel_rfl) rfl p.wf ty A3 c3 c1 hA h4 h5 (mQ b8) h3 (tE (by have:=FV (es:=es) (f:=f);omega));have s1:SX (fun B=>n B=some 60) w3 w':=SX.iu (fun _ h=>h) C;refine⟨v',w',jj (k.op rfl) (k.op rfl) I,fun _=>s1,fun a k=>?_⟩
 repeat refine sm k fun a k=>?_
 refine av ?_;have b9:=p.loc C b1 ⟨by decide,by decide⟩;have f9:=Y.O C id;have f5:=y.Di O.wf p.wf C nE;refine rg ax hQ WJ ?_;intro w8 e8;have a4:=b9.W e8;have c2:=f9.W e8;have a7:=f5.Di O.wf b9.wf (bB.W e8 (iF 60) ax S cE) nE;have d9:=b7.O b9.wf (bB.W e8 ax ax S cE) (fun h=>h);have s0:=SX.refl ax w8;obtain⟨Av,cv,b4⟩:=d9.slice
 repeat refine sm k fun a k=>?_
 refine jV (cur:=xs) k (by decide) rfl (by kernel_rfl) rfl rfl (by rw[b4];rfl) c2.heap (by omega) (by rw[b4];rfl) (fun h=>absurd rfl h) fun a k=>?_;refine av ?_;obtain⟨X,b0,f8⟩:=c2.set a4.wf (us:=xs.set 7 v');have i6:=a4.O X b0;have d8:=d9.O a4.wf X (fun h=>h);obtain⟨S',z,E,d0,d3,e5⟩:=d8.freeze b0;have f4:=i6.loc E d0 ⟨by decide,by decide⟩;have c5:=f8.O E id;have sa:bB TT ax w0 S0 kJ w8 S cE:=qX b2 O.wf st a7 nE;have sb:=qX b2 a4.wf sa X (fun B hb=>by rw[show B=b6 from hb];exact h6);have sc:=qX b2 b0 sb E nE;refine K a _ S' z v' (k.sb) sc (fun u d hr=>((hr.O a7).O X).O E) f4 c5 ?_ (by rw[b4];rfl) d3 d8.has;intro B l hl;have h1:=(E.iu B l hl);rcases h1 with h1|h1
 .rcases a7.iu B l h1 with h2|h2
  .exact hn B l h2
  rw[show l=60 from h2]at hl;exact absurd hl (e5 B)
 rw[show l=60 from h1]at hl;exact absurd hl (e5 B)
def OL{f:Nat}{l:Tah}(h:bV w S (.pointer (some ⟨f,0,none⟩)) (.ptr l)):∃c:Tad,c.length=l.length/\(∀q,q<l.length->S f q)/\(∀(q:Nat) u,c[q]?=some u->w.cell? ⟨f,q,none⟩=some u)/\∀(q:Nat) u d,c[q]?=some u->l[q]?=some d->bV w S u d:=by obtain⟨b,c,e,p,n,k,j⟩:=h.qu;injection e with e;injection e with e;injection e with e;subst e;exact⟨c,p,n,k,j⟩
def ac6:bK (gl ND [0,1,2,3,4,5,6,7,8,9,10,11,12,13,14,15,16,17,18,19,22,23,24,25,26,20,21,27,28])=[oF 31 65 6 2,
 oL 32 28 31,
 oM 33 8,
 oI 34 28 32 33,
 oF 35 78 34 0,
 oL 36 3 35,
 oF 37 75 5 3,
 oL 38 72 37,
 oN 39 38,
 oF 40 63 39 0,
 oL 41 3 40,
 oB 42 .gtr 3 36 41,
 oM 43 42,
 oM 44 0 (some (12,true)),
 oN 45 44 (some (12,true)),
 oF 46 59 45 1 (some (12,true)),
 oL 47 54 46 (some (12,true)),
 oM 48 1 (some (12,true)),
 oI 49 54 47 48 (some (12,true)),
 oL 50 52 49 (some (12,true)),
 oF 53 75 5 3 (some (12,true)),
 oL 54 72 53 (some (12,true)),
 oN 55 54 (some (12,true)),
 oF 56 63 55 0 (some (12,true)),
 oL 57 3 56 (some (12,true)),
 oC 51 12 #[(.tmp 50)] #[52] (some (12,true)),
 (some 52,.field 67 (.tmp 51) 4,some (12,true)),
 oB 58 .gtr 3 52 57 (some (12,true)),
 oP 59 43 58 false]:=by kernel_rfl
noncomputable def FC:Code:=(.seq (.region 4 NH false) (.seq (.seq (.region 5 NG false) (.block 0 (.loop (.seq (.seq (.region 6 NF false) (.cond (.tmp 28) .skip (.exit 0))) (.seq (.block 1 (.seq (.region 8 ND true) (.cond (.tmp 59) (.region 9 Jt false) .skip))) (.region 7 Ju false)))))) (.seq (.region 10 Ai false) (.region 11 Ah false))))
def KV{A7:Tap Addr}{c7 bp:Nat}{es pr:Tah}{si:Int}{vo:Tad}{x0 x1 x2 x3 x4 x5 x6:Tao}(hQ:QP Q)(a8:Wf w0 S0 kJ)(st:bB TT ax w0 S0 kJ w S ow)(hn:mF ow)(gm:GM w S ow b (R.cells g.bad) R g)(h7:R.la=R.lb)(lo:fU w S ow b5 75 vo)(lx:fU w S ow b6 65 [x0,x1,x2,x3,x4,x5,x6,.slice A7 es.length c7])(h6:w0.heap.size<=b6)(h0:b5≠b6)(hi:i<g.eT.length)(g6:Ok (bS g i) 0)(d9:vo[4]?=some (bM bp))(hp:bV w S (bM bp) (.ptr (.int i64 si::pr)))(j6:pr.length=4)(j7:dr (.Y ky) (.int i64 si::pr))(j5:bV w S (.slice A7 es.length c7) (.list es))(k3:Has (.list eD) (.list es))(l7:es.length<=300000000000)(k:Kn 119 a [(5,.pointer (some ⟨b5,0,none⟩)),(6,.pointer (some ⟨b6,0,none⟩)),(0,bM b),(1,.int i64 i)])(L:∀a W S' E K I H G F v7,Kn 119 a [(5,.pointer (some ⟨b5,0,none⟩)),(6,.pointer (some ⟨b6,0,none⟩)),(0,bM b),(1,.int i64 i)]->bB TT ax w0 S0 kJ W S' E->(∀u d,bV w S u d->bV W S' u d)->GM W S' E b (R.cells g.bad) R g->fU W S' E b5 75 vo->fU W S' E b6 65 [x0,x1,K,I,H,G,F,v7]->mF E->
   (∀(q:Nat) u d,[K,I,H,G,F][q]?=some u->(.int i64 si::pr)[q]?=some d->bV W S' u d)->bV W S' v7 (.list (ov es si (decide ((bS g i).li+(bS g i).le.length>si))))->Has (.list eD) (.list (ov es si (decide ((bS g i).li+(bS g i).le.length>si))))->Q .normal a W):FC.wp Try.prog Q a w:=by
 have hx:g.eT[i]?=some (bS g i):=by unfold bS;rw[ag,aR hi,bq]
 generalize bS g i=sv at hx g6 L;generalize k7:decide (sv.li+sv.le.length>si)=U at L;unfold FC;refine wp_seq (rg ax hQ acb ?_);intro i4 l4;have s0:=SX.refl ax i4
 repeat refine sm k fun a k=>?_
 refine av ?_;refine wp_seq (wp_seq (rg ax hQ aca ?_));intro w1 e1;have s0:=SX.refl ax w1
 repeat refine sm k fun a k=>?_
 refine av ?_
 have e1:zD w w1:=by obtain⟨a1,a2,a3,a4⟩:=l4;obtain⟨c1,U,c3,c4⟩:=e1;exact⟨c1.trans a1,U.trans a2,c3.trans a3,c4.trans a4⟩
 have Y:=gm.W e1
 let J:=fun(j:Nat) (a:Act) (W:Tan)=>∃(vk:Tao) (iT:Ow),j<=es.length/\Kn 119 a [(7,vk),(8,.int i64 j),(5,.pointer (some ⟨b5,0,none⟩)),(6,.pointer (some ⟨b6,0,none⟩)),(0,bM b),(1,.int i64 i)]/\
  bB (iF 60) ax w S ow W S iT/\GM W S iT b (R.cells g.bad) R g/\dA W S iT 60 78 eD vk (ov (es.take j) si U)
 refine wp_block (wp_loop_ghost (fun mm a W=>∃j:Nat,mm=es.length-j/\J j a W) (es.length-0)
  ⟨0,rfl,.slice none 0 0,ow,aB _,k.sb,bB.W e1 _ _ _ _,Y,by rw[fN];exact dA.nil (by rw[jF];decide) (by decide)⟩ ?_)
 clear Y k s0;rintro mm a W ⟨j,rfl,vk,iT,hj,k,GX,Y,ag1⟩;have j0:=lo.O GX id;have i7:=lx.O GX id;refine wp_seq (wp_seq (rg ax hQ ab9 ?_));intro w2 e2;have M:=Y.W e2;have f3:=j0.W e2;have d5:=i7.W e2;have d4:=GX.Di gm.wf Y.wf (bB.W e2 (iF 60) ax S iT) nE;have a9:=ag1.O Y.wf (bB.W e2 ax ax S iT) (fun h=>h);have s0:=SX.refl ax w2
 repeat (first|refine sm k fun a k=>?_|refine ld k (d5.cell id (j:=7) rfl) fun a k=>?_)
 refine cm (c:=decide ((j:Int)<(es.length:Int))) k rfl rfl rfl fun a k=>?_;refine av (bw k rfl ?_);by_cases h5:(j:Int)<(es.length:Int)
 .rw[if_pos (by simpa using h5)];refine wp_skip ?_;have k1:j<es.length:=by omega
  obtain⟨e,he⟩:∃e,es[j]?=some e:=⟨_,aR k1⟩;have b0:=mQ k3 e (bT he);have b3:=IE (f:=si) (c:=U) he;have k:=k.sb (l:=[(7,vk),(8,.int i64 j),(5,.pointer (some ⟨b5,0,none⟩)),(6,.pointer (some ⟨b6,0,none⟩)),(0,bM b),(1,.int i64 i)])
  have next:∀(a:Act) (W':Tan) (t:Tao) (p:Ow),Kn 119 a [(7,t),(8,.int i64 j),(5,.pointer (some ⟨b5,0,none⟩)),(6,.pointer (some ⟨b6,0,none⟩)),(0,bM b),(1,.int i64 i)]->bB (iF 60) ax w S ow W' S p->GM W' S p b (R.cells g.bad) R g->dA W' S p 60 78 eD t (ov (es.take (j+1)) si U)->
    (Code.region 7 Ju false).wp Try.prog (Exit.then (fun a' w'=>∃n',n'<es.length-j/\∃j:Nat,n'=es.length-j/\J j a' w') (Exit.inBlock 0 (Exit.then (Code.wp Try.prog ((Code.region 10 Ai false).seq (.region 11 Ah false)) Q) Q))) a W':=by
   intro a W' t p k A n B;refine rg ax hQ ab8 ?_;intro w4 e4;have s0:=SX.refl ax w4
   repeat refine sm k fun a k=>?_
   refine iK (s:=((j+1:Nat):Int)) k (by assumption) rfl (by decide) rfl rfl (wrap64 (by omega) (by omega)) fun a k=>?_
   repeat refine sm k fun a k=>?_
   refine av ⟨es.length-(j+1),by omega,j+1,rfl,t,p,by omega,k.sb,A.Di gm.wf n.wf (bB.W e4 (iF 60) ax S p) nE,n.W e4,B.O n.wf (bB.W e4 ax ax S p) (fun h=>h)⟩
  refine wp_seq (wp_block (wp_seq (Td (n0:=25) ax mix (by exact hQ) ac6 (by kernel_rfl) ?_)));intro w3 Z;have n:=M.W Z;have a7:=f3.W Z;have a6:=d5.W Z;have A:=d4.Di gm.wf M.wf (bB.W Z (iF 60) ax S iT) nE;have B:=a9.O M.wf (bB.W Z ax ax S iT) (fun h=>h);have s0:=SX.refl ax w3;obtain⟨bx,ox,cx,ux,c9,e6,b2,k5,d0,l9,i0⟩:=zm (j5.O A) he b0;have e0:=n.wf.s _ _ e6;obtain⟨cp,b1,b8,V,b7⟩:=OL (hp.O A);have e5:=n.wf.s _ _ (b8 0 (by simp));obtain⟨u0,f9⟩:∃u,cp[0]?=some u:=⟨_,aR (by rw[b1];simp)⟩;have f8:=(b7 0 u0 _ f9 rfl).dj;subst f8;have d2:=V 0 _ f9
  have tail:∀(Q2:O3),QP Q2->(∀(a:Act) (W':Tan) (t:Tao) (p:Ow),Kn 119 a [(7,t),(8,.int i64 j),(5,.pointer (some ⟨b5,0,none⟩)),(6,.pointer (some ⟨b6,0,none⟩)),(0,bM b),(1,.int i64 i)]->bB (iF 60) ax w S ow W' S p->GM W' S p b (R.cells g.bad) R g->dA W' S p 60 78 eD t (ov (es.take (j+1)) si U)->Q2 .normal a W')->
    ∀(a:Act) (W':Tan) (cc:Bool) (l:Tac),Kn 119 a ((59,.bool cc)::l)->Kn 119 a [(7,vk),(8,.int i64 j),(5,.pointer (some ⟨b5,0,none⟩)),(6,.pointer (some ⟨b6,0,none⟩)),(0,bM b),(1,.int i64 i)]->cc=(decide ((cD 0 e).J>si)&&U)->bB ax ax w3 S iT W' S iT->Wf W' S iT->
    (Code.cond (.tmp 59) (.region 9 Jt false) .skip).wp Try.prog Q2 a W':=by
   intro Q2 hQ next a W' cc l kc k V C j3
   have b9:=n.O C j3;have i5:=a6.O C id;have e7:=A.Di gm.wf n.wf (C.mono nE (fun _ h=>h)) nE;have d1:=B.O n.wf C (fun h=>h);refine bw kc rfl ?_;cases cc with
   |true=>
    rw[<-V,if_pos rfl]at b3;refine rg (fun N=>iT N=some 60) hQ ab7 ?_;intro w4 e4;have r:=b9.W e4;have a5:=i5.W e4;have z:=e7.Di gm.wf b9.wf (bB.W e4 (iF 60) ax S iT) nE;have O:=d1.O b9.wf (bB.W e4 ax ax S iT) (fun h=>h);have s0:=SX.refl (fun N=>iT N=some 60) w4;have j2:¬iT b6=some 60:=by rw[a5.ow];intro e;cases e
    have j1:¬iT bx=some 60:=r.wf.nx e6 (by decide)
    have i2:W'.heap[bx]?=w3.heap[bx]? :=by
     cases e:iT bx with
     |none=>exact C.free bx e0 e (fun h=>h)
     |some l=>exact C.E1 bx l e0 e (fun h=>h)
    have k6:∀(q:Nat) u,ux[q]?=some u->w4.cell? ⟨bx,ox+j*29+q,none⟩=some u:=fun q u hu=>(e4.cell _).trans ((bj i2).trans (k5 q u hu))
    repeat (first|refine sm k fun a k=>?_|refine ld k (a5.cell j2 (j:=7) rfl) fun a k=>?_)
    rw[c9]at k;refine ot (el:=78) (sz:=29) k (by assumption) rfl (by decide) rfl rfl (by kernel_rfl) (by kernel_rfl) (by omega) (by omega) fun a k=>?_;rw[cY]at k;refine lN (vs:=ux) k rfl b2 (fun w' d8 q v hv=>eP (r.wf.s _ _ e6) j1 (k6 q v hv) w' d8) fun a k=>?_;have j8:=J6 b0 b2 d0;refine lX (kk:=29) (T:=78) k (by decide) rfl (by decide) rfl (by kernel_rfl) (by show ux.toArray.size=29;rw[cb];exact b2) (fun _=>SX.alloc _ _ _) fun a k=>?_;obtain⟨b4,d6⟩:=bB.alloc r.wf (.cells (Value.agg ux.toArray).cells 78);have g5:=O.O r.wf b4 (fun h=>h);have l3:=r.O b4 d6;refine tO k (by decide) rfl (by decide) fun ty l5 af=>?_;obtain⟨v',w',g0,E,d3,j4,k0⟩:=g5.Fa (P:=Try.prog) (tt:=28) (by kernel_rfl) rfl d6 ty w4.heap.size (d:=e) b0 (us:=ux) (by rw[jF];exact b2) (heap_alloc_new w4 _) (fun q u c y X=>(((d0 q u c y X).O C).O (bB.W e4 ax ax S iT)).O b4) (tE (by have:=FR (es:=es.take j) (f:=si) (c:=U);rw[aO]at this;omega));have s1:SX (fun N=>iT N=some 60) w4 w':=(SX.alloc _ _ _).trans (SX.iu (fun _ h=>h) d3);refine⟨v',w',jj (k.op rfl) (k.op rfl) g0,fun _=>s1,fun a k=>?_⟩
    repeat refine sm k fun a k=>?_
    refine av ?_;refine next a w' v' E (k.sb) (z.Di gm.wf r.wf (bB.trN r.wf d6 b4 d3 nE) nE) (l3.loc d3 j4 ⟨by decide,by decide⟩) ?_
    rw[b3];exact k0
   |false=>
    rw[<-V,if_neg (by decide)]at b3;refine wp_skip (next a W' vk iT k e7 b9 ?_);rw[b3];exact d1
  repeat (first|refine sm k fun a k=>?_|refine ld k (a6.cell id (j:=7) rfl) fun a k=>?_)
  rw[c9]at k;refine ot (el:=78) (sz:=29) k (by assumption) rfl (by decide) rfl rfl (by kernel_rfl) (by kernel_rfl) (by omega) (by omega) fun a k=>?_;rw[cY]at k
  repeat refine sm k fun a k=>?_
  refine kx (v:=.int i64 (cD 0 e).J) k (by assumption) rfl (by decide) rfl (by kernel_rfl) (by kernel_rfl) (eP e0 (fun h=>h) i0) fun a k=>?_
  repeat (first|refine sm k fun a k=>?_|refine ld k (a7.cell id d9) fun a k=>?_)
  refine kx (v:=.int i64 si) k (by assumption) rfl (by decide) rfl (by kernel_rfl) (by kernel_rfl) (eP e5 (fun h=>h) d2) fun a k=>?_;by_cases y:(cD 0 e).J>si
  .refine cm (c:=true) k rfl rfl (HZ y) fun a k=>?_;obtain⟨bs,k8,j9,l6⟩:=n.eT i sv hx;obtain⟨bl,m0,l1,k9,l8,b1⟩:=n.arr.elem (i:=i) (u:=bM bs) (by rw[h7,ab,k8];rfl);have l0:(R.la.map bM).length=g.eT.length:=by rw[aj,h7];exact n.qV
   repeat (first|refine sm k fun a k=>?_|refine ld k (n.cell id rfl) fun a k=>?_)
   rw[l1]at k;refine zg (el:=52) (sz:=1) k rfl rfl (by rw[l0];exact hi) fun a k=>?_;refine kx (v:=bM bs) k (by assumption) rfl (by decide) rfl (by kernel_rfl) (by kernel_rfl) (eP k9 (fun h=>h) (by rw[bL];exact b1)) fun a k=>?_
   repeat (first|refine sm k fun a k=>?_|refine ld k (a7.cell id d9) fun a k=>?_)
   refine kx (v:=.int i64 si) k (by assumption) rfl (by decide) rfl (by kernel_rfl) (by kernel_rfl) (eP e5 (fun h=>h) d2) fun a k=>?_;refine iB (vs:=[bM bs]) k (by decide) rfl (by decide) P9.enter rfl (kF j9 n.wf g6) ?_;rintro e' w5 ⟨A1,n1,c1,A2,n2,c2',rfl,-,uV,Vi⟩;refine⟨_,rfl,fun _=>uV.xL _,fun a k=>?_⟩;have s1:=uV.xL ax;refine Az (off:=5) k (by assumption) rfl (by decide) rfl (by kernel_rfl) rfl fun a k=>?_;refine cm (c:=U) k rfl rfl (congrArg some k7) fun a k=>?_;refine pk k rfl rfl fun a k=>?_;refine av (tail _ (by exact hQ) (fun a W' t p y X h3 h4=>next a W' t p y X h3 h4) a w5 U _ k (k.sb) (by simp[y]) uV Vi)
  refine cm (c:=false) k rfl rfl (DY y) fun a k=>?_
  repeat refine sm k fun a k=>?_
  refine pk k rfl rfl fun a k=>?_;refine av (tail _ (by exact hQ) (fun a W' t p y X h3 h4=>next a W' t p y X h3 h4) a w3 false _ k (k.sb) (by simp[y]) (bB.refl _ _ _ _ _) n.wf)
 rw[if_neg (by simpa using h5)];refine wp_exit ?_;have k2:j=es.length:=by omega
 subst k2;rw[cH]at a9;show(Code.seq (.region 10 Ai false) (.region 11 Ah false)).wp Try.prog Q a w2;obtain⟨cp,b1,b8,V,b7⟩:=OL (hp.O d4);have e5:=M.wf.s _ _ (b8 0 (by simp));have i1:cp.length=5:=by rw[b1];simp[j6]
 obtain⟨K,I,H,G,F,rfl⟩:∃c0 c1 U c3 c4,cp=[c0,c1,U,c3,c4]:=by
  match cp,i1 with
  | [c0,c1,U,c3,c4],_=>exact⟨c0,c1,U,c3,c4,rfl⟩
 refine wp_seq (rg ax hQ WU ?_);intro w3 Z;have n:=M.W Z;have a7:=f3.W Z;have a6:=d5.W Z;have A:=d4.Di gm.wf M.wf (bB.W Z (iF 60) ax S iT) nE;have B:=a9.O M.wf (bB.W Z ax ax S iT) (fun h=>h);have s0:=SX.refl ax w3
 have g4:∀u∈[K,I,H,G,F],u.oneCell'=true:=by intro u hu;obtain⟨q,hq⟩:=au hu;have g3:q<5:=(aD.1 hq).1;obtain⟨d,hd,hh⟩:=dh j7 q (ky[q]'g3) (by rw[Ty.dT];exact aR _);exact(b7 q u d hq hd).iH hh (bU.1 (show ky.all Ty.scalar=true from rfl) _ (aF g3))
 repeat (first|refine sm k fun a k=>?_|refine ld k (a7.cell id d9) fun a k=>?_)
 refine lN (vs:=[K,I,H,G,F]) k rfl rfl (fun w' d8 q v hv=>by rw[aq];exact eP (n.wf.s _ _ (b8 0 (by simp))) (fun h=>h) ((Z.cell _).trans (V q v hv)) w' d8) fun a k=>?_
 repeat refine sm k fun a k=>?_
 refine lv (vs:=[K,I,H,G,F]) (cur:=[x0,x1,x2,x3,x4,x5,x6,.slice A7 es.length c7].toArray) k (by decide) rfl (by kernel_rfl) rfl rfl rfl a6.heap (by show 7<=8;omega) g4 (fun h=>absurd rfl h) fun a k=>?_;refine av ?_;obtain⟨z,f5,a5⟩:=a6.set n.wf (us:=[x0,x1,K,I,H,G,F,.slice A7 es.length c7]);have r:=n.O z f5;have f2:=a7.O z h0;have O:=B.O n.wf z (fun h=>h);have sA:bB TT ax w0 S0 kJ w3 S iT:=qX a8 gm.wf st A nE;have sB:=qX a8 n.wf sA z (fun N hb=>by rw[show N=b6 from hb];exact h6);have k:=k.sb (l:=[(7,vk),(5,.pointer (some ⟨b5,0,none⟩)),(6,.pointer (some ⟨b6,0,none⟩)),(0,bM b),(1,.int i64 i)]);have h9:∀u d,bV w S u d->bV (w3.setRow b6 [x0,x1,K,I,H,G,F,.slice A7 es.length c7].toArray) S u d:=fun u d hr=>(hr.O A).O z;have g2:∀(q:Nat) u d,[K,I,H,G,F][q]?=some u->(D.int i64 si::pr)[q]?=some d->bV (w3.setRow b6 [x0,x1,K,I,H,G,F,.slice A7 es.length c7].toArray) S u d:=fun q u d y X=>((b7 q u d y X).O (bB.W Z ax ax S iT)).O z;show Code.wp Try.prog _ _ a (w3.setRow b6 [x0,x1,K,I,H,G,F,.slice A7 es.length c7].toArray);generalize w3.setRow b6 [x0,x1,K,I,H,G,F,.slice A7 es.length c7].toArray=w4 at a5 r f2 O sB h9 g2 z f5⊢;refine rg ax hQ WT ?_;intro w8 e8;have c5:=r.W e8;have f0:=a5.W e8;have i9:=f2.W e8;have sC:=qX a8 r.wf sB (bB.W e8 ax ax S iT) nE;have g8:=O.O r.wf (bB.W e8 ax ax S iT) (fun h=>h);have s0:=SX.refl ax w8;obtain⟨Av,cv,f7⟩:=g8.slice
 repeat refine sm k fun a k=>?_
 refine jV (cur:=[x0,x1,K,I,H,G,F,.slice A7 es.length c7]) k (by decide) rfl (by kernel_rfl) rfl rfl (by rw[f7];rfl) f0.heap (by show 7<8;omega) (by rw[f7];rfl) (fun h=>absurd rfl h) fun a k=>?_;refine av ?_;obtain⟨a0,d7,i6⟩:=f0.set c5.wf (us:=[x0,x1,K,I,H,G,F,vk]);have l2:=c5.O a0 d7;have i8:=i9.O a0 h0;have g7:=g8.O c5.wf a0 (fun h=>h);obtain⟨S',p,x,f6,g1,g9⟩:=g7.freeze d7;have i3:=l2.loc x f6 ⟨by decide,by decide⟩;have f1:=i6.O x id;have f4:=i8.O x id;have sD:=qX a8 c5.wf sC a0 (fun N hb=>by rw[show N=b6 from hb];exact h6);have sE:=qX a8 d7 sD x nE;have h8:∀u d,bV w4 S u d->bV _ S' u d:=fun u d hr=>((hr.O (bB.W e8 ax ax S iT)).O a0).O x;refine L a _ S' p K I H G F vk (k.sb) sE (fun u d hr=>h8 u d (h9 u d hr)) i3 f4 f1 ?_ (fun q u d y X=>h8 u d (g2 q u d y X)) g1 g7.has;intro N l hl;have y:=(x.iu N l hl);rcases y with y|y
 .rcases A.iu N l y with X|X
  .exact hn N l X
  rw[show l=60 from X]at hl;exact absurd hl (g9 N)
 rw[show l=60 from y]at hl;exact absurd hl (g9 N)
end
def nV{w:Tan}{S:bG}{ow:Ow}{T:Tbb}{zs us:Tad}(k:Wf w S ow):bB ax (iF w.heap.size) w S ow ((w.alloc (.cells zs.toArray T)).setRow w.heap.size us.toArray) S ow/\Wf ((w.alloc (.cells zs.toArray T)).setRow w.heap.size us.toArray) S ow/\fU ((w.alloc (.cells zs.toArray T)).setRow w.heap.size us.toArray) S ow w.heap.size T us:=by obtain⟨f,d⟩:=bB.alloc k (.cells zs.toArray T);obtain⟨e,j,l⟩:=(fU.new k T zs).set d (us:=us);have c:bB ax (iF w.heap.size) w S ow _ S ow:=f.mono (fun _ h=>h) nE;exact⟨(c.tr k d e (fun _ h=>.inl h)).mono (fun _ h=>h.elim id id) (fun _ h=>h),j,l⟩
def fill_eq{zs us:Tad}{n:Nat}(c:zs.length=n)(d:us.length=n):(zs.toArray.toList.take 0++us++zs.toArray.toList.drop (0+us.length))=us:=by have:zs.toArray.toList.drop (0+us.length)=[]:=bQ (by simp;omega);rw[this];simp
noncomputable def FE:Code:=.seq (.seq (.region 12 HA false) (.cond (.tmp 78) (.seq (.region 13 Hz false) AD) .skip)) (.region 21 Ae true)
section
variable{w0 w:Tan}{S0 S:bG}{kJ ow:Ow}{b b5 b6 i:Nat}{g:GS}{R:GR}{o:D}{Q:O3}{a:Act}
def CJ{A3 A7:Tap Addr}{c3 c7:Nat}{oe bs:Tah}{vo:Tad}{y t E C B A z:Tao}{t1 t2 s2 s3 s4 s5 s6:D}(Z:QP Q)(p:Wf w0 S0 kJ)(b0:mF kJ)(O:∀a w,FF w0 S0 kJ b {g with saved:=g.saved.set i (.agg [t1,t2,s2,s3,s4,s5,s6,.list (if oe=[] then bs else mh bs (cD 0 (oe.getD 0 .top)).J++oe)])} .normal a w->Q .normal a w)(st:bB TT ax w0 S0 kJ w S ow)(hn:mF ow)(gm:GM w S ow b (R.cells g.bad) R g)(b1:R.la=R.lb)(a4:R.va=R.vv)(lo:fU w S ow b5 75 vo)(lx:fU w S ow b6 65 [y,t,E,C,B,A,z,.slice A7 bs.length c7])(h6:w0.heap.size<=b6)(a7:b5≠b6)(K:vo[3]?=some (.slice A3 oe.length c3))(a6:bV w S (.slice A3 oe.length c3) (.list oe))(b2:Has (.list eD) (.list oe))(r:∀(j:Nat) u c,[y,t,E,C,B,A,z][j]?=some u->[t1,t2,s2,s3,s4,s5,s6][j]?=some c->bV w S u c)(M:dr (.Y (zY++ky)) [t1,t2,s2,s3,s4,s5,s6])(N:bV w S (.slice A7 bs.length c7) (.list bs))(U:Has (.list eD) (.list bs))(a5:bs.length+oe.length<=300000000000)(hi:i<g.saved.length)(k:Kn 119 a [(5,.pointer (some ⟨b5,0,none⟩)),(6,.pointer (some ⟨b6,0,none⟩)),(0,bM b),(1,.int i64 i)]):FE.wp Try.prog Q a w:=by
 have T:∀u∈[y,t,E,C,B,A,z],u.oneCell'=true:=by intro u hu;obtain⟨q,hq⟩:=au hu;have P:q<7:=(aD.1 hq).1;obtain⟨d,hd,hh⟩:=dh M q ((zY++ky)[q]'P) (by rw[Ty.dT];exact aR _);exact(r q u d hq hd).iH hh (bU.1 (show(zY++ky).all Ty.scalar=true from rfl) _ (aF P))
 have X:∀(a:Act) (W:Tan) (s:bG) (f:Ow) (n:Tao),Kn 119 a [(6,.pointer (some ⟨b6,0,none⟩)),(0,bM b),(1,.int i64 i)]->bB TT ax w0 S0 kJ W s f->(∀u d,bV w S u d->bV W s u d)->GM W s f b (R.cells g.bad) R g->fU W s f b6 65 [y,t,E,C,B,A,z,n]->mF f->n.oneCell'=true->
   bV W s n (.list (if oe=[] then bs else mh bs (cD 0 (oe.getD 0 .top)).J++oe))->Has (.list eD) (.list (if oe=[] then bs else mh bs (cD 0 (oe.getD 0 .top)).J++oe))->(Code.region 21 Ae true).wp Try.prog Q a W:=by
  intro a W s f n k sG l b4 a1 a9 h7 h m;refine Pb Z O p b0 sG a9 b4 b1 a4 a1 rfl ?_ (eA.2 ⟨_,rfl,AV (a:=zY++ky) (x:=[t1,t2,s2,s3,s4,s5,s6]) rfl M (aA.2 ⟨_,_,rfl,m,dk.2 rfl⟩)⟩) ?_ hi k
  .intro j u c V h2;by_cases hj:j<7
   .refine l _ _ (r j u c ?_ ?_)
    .rw[<-V,show [y,t,E,C,B,A,z,n]=[y,t,E,C,B,A,z]++[n] from rfl,ak hj]
    rw[<-h2];show _=([t1,t2,s2,s3,s4,s5,s6]++[_])[j]?;rw[ak hj]
   have h8:j<8:=(aD.1 V).1;have:j=7:=by omega
   subst this;injection V with V;injection h2 with h2;subst V h2;exact h
  intro v L;rcases aQ.1 (show v∈[y,t,E,C,B,A,z]++[n] from L) with L|L
  .exact T v L
  rw[aG.1 L];exact h7
 unfold FE;refine wp_seq (wp_seq (rg ax Z WS ?_));intro w8 Y;have H:=gm.W Y;have J:=lo.W Y;have I:=lx.W Y;have sI:=qX p gm.wf st (bB.W Y ax ax S ow) nE;have s0:=SX.refl ax w8;have G:∀u d,bV w S u d->bV w8 S u d:=fun u d r=>r.O (bB.W Y ax ax S ow)
 repeat (first|refine sm k fun a k=>?_|refine ld k (J.cell id K) fun a k=>?_)
 refine cm (c:=decide ((oe.length:Int)>0)) k rfl rfl rfl fun a k=>?_;refine av (bw k rfl ?_);by_cases e:oe=[]
 .rw[if_neg (by subst e;simp)];refine wp_skip (X a w8 S ow _ (k.sb) sI G H I hn rfl ?_ ?_)
  .rw[if_pos e];exact G _ _ N
  rw[if_pos e];exact U
 have b8:0<oe.length:=eX.2 e;rw[if_pos (by simp;omega)];refine wp_seq (rg ax Z WR ?_);intro w9 e9;have b7:=H.W e9;have a3:=J.W e9;have a2:=I.W e9;have sJ:=qX p H.wf sI (bB.W e9 ax ax S ow) nE;have s0:=SX.refl ax w9;have F:∀u d,bV w S u d->bV w9 S u d:=fun u d r=>(G u d r).O (bB.W e9 ax ax S ow)
 repeat refine sm k fun a k=>?_
 refine av ?_;refine KW (g:=g) (i:=i) (by exact Z) p sJ hn b7 a3 a2 h6 a7 K (F _ _ a6) b2 rfl rfl (F _ _ N) U a5 e (k.sb) ?_;intro a W s f n k sK l b3 a0 a8 h7 h m;refine X a W s f n k sK (fun u d r=>l u d (F u d r)) b3 a0 a8 h7 ?_ ?_
 .rw[if_neg e];exact h
 rw[if_neg e];exact m
end
def Ih{w:Tan}{S:bG}{ow:Ow}{b i:Nat}{g:GS}{vo:Tao}{o:D}(h:iA w S ow b g)(hn:mF ow)(hi:i<g.saved.length)(ho:bV w S vo o)(j4:Has BP o)(j6:i<g.eT.length)(j5:Ok (bS g i) 0)(a8:(cD 7 (g.saved.getD i .top)).V.length+(cD 3 o).V.length<=300000000000):
  Calls Try.prog 30 [bM b,.int i64 i,vo].toArray w (qR w S ow b (nD i o g)):=by
 obtain⟨R,gm,f2,h0⟩:=h;obtain⟨co,g1,rfl,rfl,i5,i1,E,K,b3⟩:=KE ho j4 rfl;obtain⟨d,hd⟩:∃d,g.saved[i]?=some d:=⟨_,aR hi⟩;have f7:g.saved.getD i .top=d:=by rw[ag,hd,bq]
 have i0:Has jm d:=gm.saved.all d (bT hd);rw[f7]at a8
 obtain⟨y,m,f,z,t,C,c6,B,rfl⟩:∃y m f z t C c6 B,co=[y,m,f,z,t,C,c6,B]:=by
  have f9:co.length=8:=i5
  match co,f9 with
  | [y,m,f,z,t,C,c6,B],_=>exact⟨y,m,f,z,t,C,c6,B,rfl⟩
 obtain⟨d0,d1,d2,d3,d4,d5,d6,d7,rfl⟩:∃y m f z t C c6 B,g1=[y,m,f,z,t,C,c6,B]:=by
  have f8:g1.length=8:=i1
  match g1,f8 with
  | [y,m,f,z,t,C,c6,B],_=>exact⟨y,m,f,z,t,C,c6,B,rfl⟩
 obtain⟨x3,d9,f6⟩:=dh K 3 (.list eD) (by rw[Ty.dT];rfl);injection d9 with d9;subst d9;obtain⟨i4,A3,q3,k9⟩:=th (E 3 _ _ rfl rfl) f6;subst k9;have e8:=E 3 _ _ rfl rfl;have h9:(cD 3 (D.agg [d0,d1,d2,d3,d4,d5,d6,d7])).V=d3.V:=rfl;generalize l5:d3.V=I at i4 e8 h9 b3 E;subst i4;refine lh Try.func30 OA Ym agP (by show 3<=119;omega) ?_;intro a k;have hQ:=jw (P:=Try.prog) (fn:=Try.f30) (R:=qR w S ow b (nD i (D.agg [d0,d1,d2,.list I,d4,d5,d6,d7]) g));refine wp_seq (rg ax hQ acg ?_);intro w1 e1;refine uv (us:=[y,m,f,.slice A3 I.length q3,t,C,c6,B]) k (by decide) rfl (by decide) rfl rfl (fun h=>absurd rfl h) fun a k=>?_;refine av ?_;have a1:=gm.W e1;have sA:bB TT ax w S ow w1 S ow:=bB.W e1 TT ax S ow;obtain⟨a2,g9⟩:=bB.alloc a1.wf (.cells [y,m,f,.slice A3 I.length q3,t,C,c6,B].toArray 75);have a6:=fU.new a1.wf 75 [y,m,f,.slice A3 I.length q3,t,C,c6,B];have b1:=a1.O a2 g9;have sB:=qX gm.wf a1.wf sA a2 nE;have h5:w.heap.size<=w1.heap.size:=by rw[e1.heap];exact aM _
 generalize l2:w1.heap.size=b5 at k a6 h5;generalize w1.alloc _=w2 at a6 b1 sB a2 g9⊢;have k1:∀u d,bV w S u d->bV w2 S u d:=fun u d hr=>hr.O sB;clear a2 sA a1 l2 e1 w1;refine wp_seq (rg ax hQ acf ?_);intro w3 e3;have M:=b1.W e3;have a5:=a6.W e3;have sC:=qX gm.wf b1.wf sB (bB.W e3 ax ax S ow) nE;have s0:=SX.refl ax w3;obtain⟨bt,l7,us,i8,i6,k2,h3,e6,e4⟩:=M.saved.elem hd;have A:us.length=8:=h3;have h4:jm.cells.length=8:=rfl;rw[h4]at e6
 repeat (first|refine sm k fun a k=>?_|refine ld k (M.cell id rfl) fun a k=>?_)
 rw[i8]at k;refine zg (el:=65) (sz:=8) k rfl rfl hi fun a k=>?_;refine lN (vs:=us) k rfl A (fun w' a7 j v hv=>eP i6 (fun h=>h) (e6 j v hv) w' a7) fun a k=>?_;refine mn (nn:=8) k (by decide) rfl (by decide) (by kernel_rfl) (fun zs _=>SX.alloc _ _ _) fun zs g5 a k=>?_
 have V:∀u∈us,u.oneCell'=true:=by
  intro u hu;obtain⟨q,hq⟩:=au hu;have l9:q<us.length:=(aD.1 hq).1;obtain⟨m0,k6⟩:=cZ i0;have f0:q<jm.cells.length:=by rw[h4];omega
  obtain⟨c,l1,l0⟩:=k6 q (jm.cells[q]'f0) (aR f0);exact(e4 q u c hq l1).iH l0 (bU.1 (show jm.cells.all Ty.scalar=true from rfl) _ (aF f0))
 refine lv (vs:=us) (cur:=zs.toArray) k (by decide) rfl (by rw[A];kernel_rfl) rfl rfl rfl (heap_alloc_new w3 _) (by rw[cb];omega) V (fun h=>absurd rfl h) fun a k=>?_;refine av ?_;rw[fill_eq g5 A];obtain⟨O,g8,U⟩:=nV (T:=65) (zs:=zs) (us:=us) M.wf;have a0:=M.O O g8;have h6:w.heap.size<=w3.heap.size:=sC.size;have a4:=a5.O O (fun e=>by have:=a5.lt;rw[show b5=w3.heap.size from e]at this;omega);have X:b5≠w3.heap.size:=fun e=>by have:=a5.lt;omega
 have sD:=qX gm.wf M.wf sC O (fun bb hb=>by rw[show bb=_ from hb];exact h6);have s:∀(j:Nat) u c,us[j]?=some u->d.cells[j]?=some c->bV _ S u c:=fun j u c p r=>(e4 j u c p r).O O;generalize m7:w3.heap.size=b6 at k U h6 X sD a0 a4 s⊢;generalize l3:(w3.alloc _).setRow b6 _=w4 at U sD a0 a4 s⊢;have k0:∀u d,bV w S u d->bV w4 S u d:=fun u d hr=>hr.O sD;have k:=k.sb (l:=[(5,.pointer (some ⟨b5,0,none⟩)),(6,.pointer (some ⟨b6,0,none⟩)),(0,bM b),(1,.int i64 i)]);clear O g8 l3 i8 i6 k2 e6 e4 s0 sC a5 M k1 sB a6 b1 g5;obtain⟨dd,k5,Z⟩:=eA.1 i0;subst k5;have i2:dd.length=8:=by rw[gh Z,Ty.dT];rfl
 obtain⟨u0,u1,u2,u3,u4,u5,u6,u7,rfl⟩:∃y m f z t C c6 B,us=[y,m,f,z,t,C,c6,B]:=by
  match us,A with
  | [y,m,f,z,t,C,c6,B],_=>exact⟨y,m,f,z,t,C,c6,B,rfl⟩
 obtain⟨y0,y1,y2,y3,y4,y5,y6,y7,rfl⟩:∃y m f z t C c6 B,dd=[y,m,f,z,t,C,c6,B]:=by
  match dd,i2 with
  | [y,m,f,z,t,C,c6,B],_=>exact⟨y,m,f,z,t,C,c6,B,rfl⟩
 obtain⟨x7,d8,f5⟩:=dh Z 7 (.list eD) (by rw[Ty.dT];rfl);injection d8 with d8;subst d8;obtain⟨i3,A7,q7,k7⟩:=th (s 7 _ _ rfl rfl) f5;subst k7;have j8:=s 7 _ _ rfl rfl;have b2:(cD 7 (D.agg [y0,y1,y2,y3,y4,y5,y6,y7])).V=y7.V:=rfl;rw[b2,h9]at a8;generalize l6:y7.V=N at i3 j8 a8 U s b2 V;subst i3;refine wp_seq (rg ax hQ ace ?_);intro w5 e5;have b0:=a0.W e5;have a3:=a4.W e5;have b4:=U.W e5;have sE:=qX gm.wf a0.wf sD (bB.W e5 ax ax S ow) nE;have s0:=SX.refl ax w5
 repeat refine sm k fun a k=>?_
 refine lN (vs:=[m,f]) k rfl rfl (fun w' a7 j v hv=>by
  match j,hv with
  |0,hv=>exact a3.cell id (j:=1) hv w' a7
  |1,hv=>exact a3.cell id (j:=2) hv w' a7) fun a k=>?_
 repeat refine sm k fun a k=>?_
 have f1:∀u∈[m,f],u.oneCell'=true:=fun u hu=>b3 u (by simp at hu⊢;rcases hu with rfl|rfl<;>simp);refine lv (vs:=[m,f]) (cur:=[u0,u1,u2,u3,u4,u5,u6,.slice A7 N.length q7].toArray) k (by decide) rfl (by kernel_rfl) rfl rfl rfl b4.heap (by show 2<=8;omega) f1 (fun h=>absurd rfl h) fun a k=>?_;refine av ?_;obtain⟨L,e2,g3⟩:=b4.set b0.wf (us:=[m,f,u2,u3,u4,u5,u6,.slice A7 N.length q7]);have g0:=b0.O L e2;have g4:=a3.O L X;have sF:=qX gm.wf b0.wf sE L (fun bb hb=>by rw[show bb=b6 from hb];exact h6);have k:=k.sb (l:=[(5,.pointer (some ⟨b5,0,none⟩)),(6,.pointer (some ⟨b6,0,none⟩)),(0,bM b),(1,.int i64 i)]);have J:∀(j:Nat) u c,[u0,u1,u2,u3,u4,u5,u6,.slice A7 N.length q7][j]?=some u->(D.agg [y0,y1,y2,y3,y4,y5,y6,.list N]).cells[j]?=some c->bV (w5.setRow b6 [m,f,u2,u3,u4,u5,u6,.slice A7 N.length q7].toArray) S u c:=fun j u c p r=>((s j u c p r).O (bB.W e5 ax ax S ow)).O L;show Code.wp Try.prog _ _ a (w5.setRow b6 [m,f,u2,u3,u4,u5,u6,.slice A7 N.length q7].toArray);generalize w5.setRow b6 [m,f,u2,u3,u4,u5,u6,.slice A7 N.length q7].toArray=w6 at g3 g0 g4 sF J L e2⊢;have j9:∀u d,bV w S u d->bV w6 S u d:=fun u d hr=>hr.O sF;clear L e2 sE b4 a3 b0 e5 s0 s U a4 a0 sD k0;obtain⟨z1,c9,g7⟩:=dh K 1 I6 (by rw[Ty.dT];rfl);obtain⟨z2,b9,g6⟩:=dh K 2 I6 (by rw[Ty.dT];rfl);obtain⟨z4,b8,j3⟩:=dh K 4 (.ptr (.Y ky)) (by rw[Ty.dT];rfl);injection c9 with c9;injection b9 with b9;injection b8 with b8;subst c9 b9 b8;have j2:dr (.Y ky) [y2,y3,y4,y5,y6]:=C5 (a:=ky) (b:=[.list eD]) (n:=5) rfl (x:=[y2,y3,y4,y5,y6,.list N]) (xD (a:=zY) Z);have H:=E 4 _ _ rfl rfl;refine wp_seq (wp_seq (rg ax hQ acd ?_));intro w7 e7;have i9:=g0.W e7;have b7:=g4.W e7;have g2:=g3.W e7;have sH:=qX gm.wf g0.wf sF (bB.W e7 ax ax S ow) nE;have s0:=SX.refl ax w7;have F:∀u d,bV w S u d->bV w7 S u d:=fun u d hr=>(j9 u d hr).O (bB.W e7 ax ax S ow)
 repeat (first|refine sm k fun a k=>?_|refine ld k (b7.cell id rfl) fun a k=>?_)
 rcases kX.1 j3 with rfl|⟨pl,rfl,a9⟩
 ·
  have k8:=H.rT;subst k8;refine Ot (by kernel_rfl) k (by assumption) rfl (by decide) rfl rfl fun a k=>?_;refine av (bw k rfl (wp_skip ?_));refine CJ (t1:=d1) (t2:=d2) (s2:=y2) (s3:=y3) (s4:=y4) (s5:=y5) (s6:=y6) (bs:=N) (oe:=I) (by exact hQ) gm.wf hn ?_ sH hn i9 f2 h0 b7 g2 h6 X rfl (F _ _ e8) f6 ?_ (aA.2 ⟨_,_,rfl,g7,aA.2 ⟨_,_,rfl,g6,j2⟩⟩) ((J 7 _ _ rfl rfl).O (bB.W e7 ax ax S ow)) f5 a8 hi (k.sb)
  .intro a w' hp
   have:nD i (D.agg [d0,d1,d2,.list I,.gv,d5,d6,d7]) g={g with saved:=g.saved.set i (.agg [d1,d2,y2,y3,y4,y5,y6,.list (if I=[] then N else mh N (cD 0 (I.getD 0 .top)).J++I)])}:=by unfold nD;rw[f7];rfl
   rw[this];exact hp
  intro j u c p r
  match j,p,r with
  |0,p,r=>injection p with p;injection r with r;subst p r;exact F _ _ (E 1 _ _ rfl rfl)
  |1,p,r=>injection p with p;injection r with r;subst p r;exact F _ _ (E 2 _ _ rfl rfl)
  |j+2,p,r=>
   have hj:j+2<7:=(aD.1 p).1;refine(J (j+2) u c ?_ ?_).O (bB.W e7 ax ax S ow)
   .rw[<-p];show([u0,u1,u2,u3,u4,u5,u6]++[_])[j+2]?=_;rw[ak hj];rfl
   rw[<-r];show([y0,y1,y2,y3,y4,y5,y6]++[_])[j+2]?=_;rw[ak hj];rfl
 ·
  obtain⟨bp,cp,rfl,_⟩:=H.qu;refine Ot (by kernel_rfl) k (by assumption) rfl (by decide) rfl rfl fun a k=>?_;refine av (bw k rfl ?_);have h8:pl.length=5:=by rw[gh a9,Ty.dT];rfl
  obtain⟨q0,q1,q2,q3,q4,rfl⟩:∃y m f z t,pl=[y,m,f,z,t]:=by
   match pl,h8 with
   | [y,m,f,z,t],_=>exact⟨y,m,f,z,t,rfl⟩
  obtain⟨_,_,e0,⟨si,h7,_⟩,_⟩:=aA.1 a9;injection e0 with e0 _;subst e0 h7;refine KV (g:=g) (i:=i) (si:=si) (pr:=[q1,q2,q3,q4]) (by exact hQ) gm.wf sH hn i9 f2 b7 g2 h6 X j6 j5 rfl (F _ _ H) rfl a9 ((J 7 _ _ rfl rfl).O (bB.W e7 ax ax S ow)) f5 (by omega) (k.sb) ?_;intro a W S' l8 m2 m3 m4 m5 m6 v7 k sK f4 l4 j1 j0 k3 j7 G Y;have f3:∀u d,bV w S u d->bV W S' u d:=fun u d hr=>f4 u d (F u d hr);generalize i7:ov N si (decide ((bS g i).li+(bS g i).le.length>si))=bs at G Y;have m1:bs.length<=N.length:=by rw[<-i7];exact FR
  obtain⟨A',q',rfl⟩:=G.pQ;refine CJ (t1:=d1) (t2:=d2) (s2:=.int i64 si) (s3:=q1) (s4:=q2) (s5:=q3) (s6:=q4) (bs:=bs) (oe:=I) (by exact hQ) gm.wf hn ?_ sK k3 l4 f2 h0 j1 j0 h6 X rfl (f3 _ _ e8) f6 ?_ (aA.2 ⟨_,_,rfl,g7,aA.2 ⟨_,_,rfl,g6,a9⟩⟩) G Y (by omega) hi k
  .intro a w' hp
   have:nD i (D.agg [d0,d1,d2,.list I,.ptr [.int i64 si,q1,q2,q3,q4],d5,d6,d7]) g={g with saved:=g.saved.set i (.agg [d1,d2,.int i64 si,q1,q2,q3,q4,.list (if I=[] then bs else mh bs (cD 0 (I.getD 0 .top)).J++I)])}:=by unfold nD;rw[f7,<-i7];rfl
   rw[this];exact hp
  intro j u c p r
  match j,p,r with
  |0,p,r=>injection p with p;injection r with r;subst p r;exact f3 _ _ (E 1 _ _ rfl rfl)
  |1,p,r=>injection p with p;injection r with r;subst p r;exact f3 _ _ (E 2 _ _ rfl rfl)
  |j+2,p,r=>exact j7 j u c p r
end Go.Proofs.Ytjhmkaninmgilaa
