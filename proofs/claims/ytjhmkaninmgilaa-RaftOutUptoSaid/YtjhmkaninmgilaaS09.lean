/- Part 9 of the proof of RaftOut; no condition. -/
import Derived.Test.YtjhmkaninmgilaaS08
import Derived.Test.YtjhmkaninmgilaaS05
import Derived.KernelRfl
set_option linter.defProp false
set_option linter.unusedVariables false
set_option linter.unusedSimpArgs false
set_option maxHeartbeats 4000000
open Go.IntKind (i64)
namespace Go.Proofs.Ytjhmkaninmgilaa
open Go Go.RowKit Go.dI Go.Proofs
structure GS where
 fv:Taf
 fl:Taf
 eX:List RS
 saved:Taf
 eE:Taf
 told:Taf
 bM:Taf
 df:Taf
 read:Taf
 bc:List (Taf)
 bad:Bool
structure GR where
 fv:Tan
 fl:Tan
 l:Tan
 saved:Tan
 eE:Tan
 told:Tan
 bM:Tan
 df:Tan
 read:Tan
 bc:Tan
 la:Tah
 lb:Tah
 va:Tac
 vv:Tac
def az(b:Nat):Tan:=.pointer (some ⟨b,0,none⟩)
structure GM(w:Tam)(S:bz)(ow:Ow)(b:Nat)(vs:Tac)(R:GR)(g:GS):Prop where
 wf:Wf w S ow
 obj:wC w ow 0 b 59 vs
 fv:ca w S R.fv (.list g.fv)
 fl:ca w S R.fl (.list g.fl)
 arr:jX w ow 1 52 R.l (R.la.map az)
 qF:R.lb.length=g.eX.length
 eX: ∀(i:Nat) s,g.eX[i]? =some s-> ∃bs,R.lb[i]? =some bs∧ke w S ow (1000+i) (dC 0) bs [cR s,cL s] ∧dn (.V eR) (encS s)
 saved:dA w S ow 10 65 iI R.saved g.saved
 eE:dA w S ow 11 49 hH R.eE g.eE
 told:dA w S ow 12 78 dV R.told g.told
 bM:dA w S ow 13 3 I6 R.bM g.bM
 df:dA w S ow 14 3 I6 R.df g.df
 read:dA w S ow 15 3 I6 R.read g.read
 qP:jX w ow 2 29 R.bc R.va
 xg:R.vv.length=g.bc.length
 oU: ∀(i:Nat) l,g.bc[i]? =some l-> ∃v,R.vv[i]? =some v∧dA w S ow (100+i) 3 I6 v l
def GR.cells(R:GR)(bad:Bool):Tac:=[R.fv,R.fl,R.l,R.saved,R.eE,R.told,R.bM,R.bc,R.df,R.read,.bool bad]
def kg(w:Tam)(S:bz)(ow:Ow)(b:Nat)(g:GS):Prop:= ∃R:GR,GM w S ow b (R.cells g.bad) R g∧R.la=R.lb∧R.va=R.vv
section
variable{w w':Tam}{S S':bz}{ow bR:Ow}{b:Nat}{vs:Tac}{R:GR}{g:GS}{L X:Tai}
def GM.J(h:GM w S ow b vs R g)(a:bD ax X w S ow w' S' bR)(f:Wf w' S' bR):GM w' S' bR b vs R g:=
 ⟨f,h.obj.J a id,h.fv.J a,h.fl.J a,h.arr.J h.wf a (fun h=>h),h.qF,fun i s c=>let ⟨k,e,d,j⟩:=h.eX i s c;⟨k,e,d.J h.wf f a (fun h=>h) rfl,j⟩,h.saved.J h.wf a (fun h=>h),h.eE.J h.wf a (fun h=>h),h.told.J h.wf a (fun h=>h),h.bM.J h.wf a (fun h=>h),h.df.J h.wf a (fun h=>h),h.read.J h.wf a (fun h=>h),h.qP.J h.wf a (fun h=>h),h.xg,fun i l c=>let ⟨v,e,d⟩:=h.oU i l c;⟨v,e,d.J h.wf a (fun h=>h)⟩⟩
def GM.loc{l:Nat}(h:GM w S ow b vs R g)(a:bD (iE l) X w S ow w' S' bR)(f:Wf w' S' bR)(m:60<=l∧l<100):GM w' S' bR b vs R g:=
 ⟨f,h.obj.J a ct,h.fv.J a,h.fl.J a,h.arr.J h.wf a ct,h.qF,fun i s c=>let ⟨k,e,d,j⟩:=h.eX i s c;⟨k,e,d.J h.wf f a ct rfl,j⟩,h.saved.J h.wf a ct,h.eE.J h.wf a ct,h.told.J h.wf a ct,h.bM.J h.wf a ct,h.df.J h.wf a ct,h.read.J h.wf a ct,h.qP.J h.wf a ct,h.xg,fun i l c=>let ⟨v,e,d⟩:=h.oU i l c;⟨v,e,d.J h.wf a ct⟩⟩
def GM.setObj{c:Tac}(h:GM w S ow b vs R g)(a:bD (iE 0) X w S ow w' S' bR)(j:Wf w' S' bR)(k:wC w' bR 0 b 59 c):GM w' S' bR b c R g:=
 ⟨j,k,h.fv.J a,h.fl.J a,h.arr.J h.wf a ct,h.qF,fun i s d=>let ⟨n,f,e,m⟩:=h.eX i s d;⟨n,f,e.J h.wf j a ct rfl,m⟩,h.saved.J h.wf a ct,h.eE.J h.wf a ct,h.told.J h.wf a ct,h.bM.J h.wf a ct,h.df.J h.wf a ct,h.read.J h.wf a ct,h.qP.J h.wf a ct,h.xg,fun i l d=>let ⟨v,f,e⟩:=h.oU i l d;⟨v,f,e.J h.wf a ct⟩⟩
def GM.NL{v:Tan}{la:Tah}(h:GM w S ow b vs R g)(a:bD (iE 1) X w S ow w' S' bR)(f:Wf w' S' bR)(j:jX w' bR 1 52 v (la.map az)):GM w' S' bR b vs {R with l:=v,la:=la} g:=
 ⟨f,h.obj.J a ct,h.fv.J a,h.fl.J a,j,h.qF,fun i s c=>let ⟨m,e,d,k⟩:=h.eX i s c;⟨m,e,d.J h.wf f a ct rfl,k⟩,h.saved.J h.wf a ct,h.eE.J h.wf a ct,h.told.J h.wf a ct,h.bM.J h.wf a ct,h.df.J h.wf a ct,h.read.J h.wf a ct,h.qP.J h.wf a ct,h.xg,fun i l c=>let ⟨v,e,d⟩:=h.oU i l c;⟨v,e,d.J h.wf a ct⟩⟩
def GM.NJ{v:Tan}{va:Tac}(h:GM w S ow b vs R g)(a:bD (iE 2) X w S ow w' S' bR)(f:Wf w' S' bR)(j:jX w' bR 2 29 v va):GM w' S' bR b vs {R with bc:=v,va:=va} g:=
 ⟨f,h.obj.J a ct,h.fv.J a,h.fl.J a,h.arr.J h.wf a ct,h.qF,fun i s c=>let ⟨m,e,d,k⟩:=h.eX i s c;⟨m,e,d.J h.wf f a ct rfl,k⟩,h.saved.J h.wf a ct,h.eE.J h.wf a ct,h.told.J h.wf a ct,h.bM.J h.wf a ct,h.df.J h.wf a ct,h.read.J h.wf a ct,j,h.xg,fun i l c=>let ⟨v,e,d⟩:=h.oU i l c;⟨v,e,d.J h.wf a ct⟩⟩
def GM.BS{v:Tan}{xs:Taf}(h:GM w S ow b vs R g)(a:bD (iE 10) X w S ow w' S' bR)(f:Wf w' S' bR)(j:dA w' S' bR 10 65 iI v xs):GM w' S' bR b vs {R with saved:=v} {g with saved:=xs}:=
 ⟨f,h.obj.J a ct,h.fv.J a,h.fl.J a,h.arr.J h.wf a ct,h.qF,fun i s c=>let ⟨m,e,d,k⟩:=h.eX i s c;⟨m,e,d.J h.wf f a ct rfl,k⟩,j,h.eE.J h.wf a ct,h.told.J h.wf a ct,h.bM.J h.wf a ct,h.df.J h.wf a ct,h.read.J h.wf a ct,h.qP.J h.wf a ct,h.xg,fun i l c=>let ⟨v,e,d⟩:=h.oU i l c;⟨v,e,d.J h.wf a ct⟩⟩
def GM.oh{v:Tan}{xs:Taf}(h:GM w S ow b vs R g)(a:bD (iE 11) X w S ow w' S' bR)(f:Wf w' S' bR)(j:dA w' S' bR 11 49 hH v xs):GM w' S' bR b vs {R with eE:=v} {g with eE:=xs}:=
 ⟨f,h.obj.J a ct,h.fv.J a,h.fl.J a,h.arr.J h.wf a ct,h.qF,fun i s c=>let ⟨m,e,d,k⟩:=h.eX i s c;⟨m,e,d.J h.wf f a ct rfl,k⟩,h.saved.J h.wf a ct,j,h.told.J h.wf a ct,h.bM.J h.wf a ct,h.df.J h.wf a ct,h.read.J h.wf a ct,h.qP.J h.wf a ct,h.xg,fun i l c=>let ⟨v,e,d⟩:=h.oU i l c;⟨v,e,d.J h.wf a ct⟩⟩
def GM.EJ{v:Tan}{xs:Taf}(h:GM w S ow b vs R g)(a:bD (iE 12) X w S ow w' S' bR)(f:Wf w' S' bR)(j:dA w' S' bR 12 78 dV v xs):GM w' S' bR b vs {R with told:=v} {g with told:=xs}:=
 ⟨f,h.obj.J a ct,h.fv.J a,h.fl.J a,h.arr.J h.wf a ct,h.qF,fun i s c=>let ⟨m,e,d,k⟩:=h.eX i s c;⟨m,e,d.J h.wf f a ct rfl,k⟩,h.saved.J h.wf a ct,h.eE.J h.wf a ct,j,h.bM.J h.wf a ct,h.df.J h.wf a ct,h.read.J h.wf a ct,h.qP.J h.wf a ct,h.xg,fun i l c=>let ⟨v,e,d⟩:=h.oU i l c;⟨v,e,d.J h.wf a ct⟩⟩
def GM.Ao{v:Tan}{xs:Taf}(h:GM w S ow b vs R g)(a:bD (iE 13) X w S ow w' S' bR)(f:Wf w' S' bR)(j:dA w' S' bR 13 3 I6 v xs):GM w' S' bR b vs {R with bM:=v} {g with bM:=xs}:=
 ⟨f,h.obj.J a ct,h.fv.J a,h.fl.J a,h.arr.J h.wf a ct,h.qF,fun i s c=>let ⟨m,e,d,k⟩:=h.eX i s c;⟨m,e,d.J h.wf f a ct rfl,k⟩,h.saved.J h.wf a ct,h.eE.J h.wf a ct,h.told.J h.wf a ct,j,h.df.J h.wf a ct,h.read.J h.wf a ct,h.qP.J h.wf a ct,h.xg,fun i l c=>let ⟨v,e,d⟩:=h.oU i l c;⟨v,e,d.J h.wf a ct⟩⟩
def GM.BR{v:Tan}{xs:Taf}(h:GM w S ow b vs R g)(a:bD (iE 14) X w S ow w' S' bR)(f:Wf w' S' bR)(j:dA w' S' bR 14 3 I6 v xs):GM w' S' bR b vs {R with df:=v} {g with df:=xs}:=
 ⟨f,h.obj.J a ct,h.fv.J a,h.fl.J a,h.arr.J h.wf a ct,h.qF,fun i s c=>let ⟨m,e,d,k⟩:=h.eX i s c;⟨m,e,d.J h.wf f a ct rfl,k⟩,h.saved.J h.wf a ct,h.eE.J h.wf a ct,h.told.J h.wf a ct,h.bM.J h.wf a ct,j,h.read.J h.wf a ct,h.qP.J h.wf a ct,h.xg,fun i l c=>let ⟨v,e,d⟩:=h.oU i l c;⟨v,e,d.J h.wf a ct⟩⟩
def GM.ua{i bs:Nat}{s':RS}(h:GM w S ow b vs R g)(a:bD (iE (1000+i)) X w S ow w' S' bR)(m:Wf w' S' bR)(hi:i<g.eX.length)(o:R.lb[i]? =some bs)(n:ke w' S' bR (1000+i) (dC 0) bs [cR s',cL s'])(e:dn (.V eR) (encS s'))(r:g.bc.length<=5):GM w' S' bR b vs R {g with eX:=g.eX.set i s'}:=
 ⟨m,h.obj.J a ct,h.fv.J a,h.fl.J a,h.arr.J h.wf a ct,by rw[aM];exact h.qF,fun j s c=>(by
  rw[bI]at c;by_cases d:i=j
  ·subst d;rw[if_pos rfl,if_pos hi]at c;injection c with c;subst c;exact⟨bs,o,n,e⟩
  ·rw[if_neg d]at c;obtain⟨q,k,f,p⟩:=h.eX j s c;exact⟨q,k,f.J h.wf m a ct rfl,p⟩),h.saved.J h.wf a ct,h.eE.J h.wf a ct,h.told.J h.wf a ct,h.bM.J h.wf a ct,h.df.J h.wf a ct,h.read.J h.wf a ct,h.qP.J h.wf a ct,h.xg,fun j l c=>let ⟨v,k,f⟩:=h.oU j l c;⟨v,k,f.J h.wf a (by have t:j<g.bc.length:=(aG.1 c).1;simp only[iE];omega)⟩⟩
def GM.Jk{i:Nat}{v:Tan}{l:Taf}(h:GM w S ow b vs R g)(a:bD (iE (100+i)) X w S ow w' S' bR)(k:Wf w' S' bR)(hi:i<g.bc.length)(m:dA w' S' bR (100+i) 3 I6 v l)(q:i<100):GM w' S' bR b vs {R with vv:=R.vv.set i v} {g with bc:=g.bc.set i l}:=
 ⟨k,h.obj.J a ct,h.fv.J a,h.fl.J a,h.arr.J h.wf a ct,h.qF,fun i s hi=>let ⟨o,f,e,n⟩:=h.eX i s hi;⟨o,f,e.J h.wf k a ct rfl,n⟩,h.saved.J h.wf a ct,h.eE.J h.wf a ct,h.told.J h.wf a ct,h.bM.J h.wf a ct,h.df.J h.wf a ct,h.read.J h.wf a ct,h.qP.J h.wf a ct,by rw[aM,aM];exact h.xg,fun j x c=>(by
  rw[bI]at c;by_cases d:i=j
  ·subst d;rw[if_pos rfl,if_pos hi]at c;injection c with c;subst c;exact⟨v,by rw[bI,if_pos rfl,if_pos (by rw[h.xg];exact hi)],m⟩
  ·rw[if_neg d]at c;obtain⟨p,f,e⟩:=h.oU j x c;exact⟨p,by rw[bI,if_neg d];exact f,e.J h.wf a ct⟩)⟩
def GM.cell(h:GM w S ow b vs R g){X:Tai}(d: ¬X b){j:Nat}{v:Tan}(c:vs[j]? =some v): ∀w',SX X w w'->w'.cell? ⟨b,j,none⟩=some v:=by intro w' a;rw[bh (a.2 b h.obj.lt d)];exact jm h.obj.heap c
def GM.O{a:Tam}(h:GM w S ow b vs R g)(e:uH w a):GM a S ow b vs R g:=by refine h.J (bD.O e ax ax S ow) ⟨fun b o c=>by rw[e.heap];exact h.wf.s b o c,fun b l f=>by rw[e.heap];exact h.wf.o b l f,h.wf.d⟩
end
def Ox{ex:Bool}{w:Tam}{S p:bz}{T:Tba}{t:Ty}{v:Tan}{d:D}(h:tY ex w 0 S T t v d)(z: ∀b o,S b o->p b o)(y: ∀b,v.ownBlock=some b-> ∀o,p b o):ca w p v d:=by
 obtain⟨q,l,rfl,a,_,r⟩:=h.own;rcases a.2 with⟨rfl,hn⟩|⟨g,cap,cur,rfl,_,hg,ra,T9,FY,Pd⟩
 ·have:l=[] :=an hn;subst this;exact .nil _ _
 ·by_cases f:l=[]
  ·subst f;exact .nil _ _
  ·obtain⟨A,e,_,k⟩:=bL.1 h.has;injection e with e;subst e;refine .list g 0 cap t.cells.length q l h.sz f ra a.1 (fun i B=>y g rfl _) ?_ ?_ ?_
   ·intro i u m;have:=a.cells (g:=g) rfl i u m;rw[fJ,ao]at this;rw[ao];exact this
   ·intro i d n;exact(cd (k d (bU n))).1
   ·intro i d j u c n x m;exact(r i d j u c n x m).keep z (fun _ _ _=>rfl)
def uD{w:Tam}{S a:bz}{τ:Taj}{r:bB}{v:Tan}{d:D}(h:jF w 0 S τ r v d)(c: ∀b o,S b o->a b o)(f: ∀j T,r.2=some (j,T)-> ∀b,(τ j).ownBlock=some b-> ∀o,a b o):ca w a v d:=by
 obtain⟨t,e⟩:=r;cases e with
 |none=>exact h.1.keep c (fun _ _ _=>rfl)
 |some jT=>
  obtain⟨j,T⟩:=jT;obtain⟨rfl,g⟩:=h;exact Ox g c (f j T rfl)
def AG{w:Tam}{S:bz}{τ:Taj}{r:bB}{v:Tan}{d:D}(h:jF w 0 S τ r v d):Has (Ec r) d:=by
 obtain⟨t,a⟩:=r;cases a with
 |none=>exact h.2
 |some jT=>
  obtain⟨j,T⟩:=jT;exact h.2.has
def tf{w:Tam}{S:bz}{τ:Taj}{c:List bB}{b:Nat}{cells:Taf}(h:BK w S τ c b cells):cells.length=c.length∧dn (.V (c.map Ec)) cells:=by
 obtain⟨a,T,_,m,f,k,_⟩:=h;refine⟨f,iQ (by rw[ak];exact f) ?_⟩;intro j u x d g;rw[ab,cU]at d;obtain⟨r,e,rfl⟩:=d;have i:j<a.length:=by rw[m];exact(aG.1 e).1
 exact AG (k j r (a[j]'i) x e (aQ _) g)
def zS: ∀{a b:Tal} {x y:Taf},x.length=a.length->dn (.V a) x->dn (.V b) y->dn (.V (a++b)) (x++y)
 | [],b,x,y,hl,_,h2=>by have:x=[] :=an hl;subst this;exact h2
 |t::a,b,x,y,hl,h1,h2=>by obtain⟨u,r,rfl,d,c⟩:=ag.1 h1;exact ag.2 ⟨u,r++y,rfl,d,zS (by simpa using hl) c h2⟩
section
variable{w w':Tam}{S S':bz}{ow bR:Ow}{l b:Nat}{s:RS}
def fF(h:ke w S ow l (dC 0) b [cR s,cL s]):dn (.V eR) (encS s):=by obtain⟨g,f,_,a,_⟩:=h;obtain⟨e,d⟩:=tf (a.cB 0 lD (cR s) rfl rfl);obtain⟨i,c⟩:=tf (a.cB 1 jd (cL s) rfl rfl);exact zS (by rw[ak];exact e) d c
def KL(h:ke w S ow l (dC 0) b [cR s,cL s])(B:bz)(Q: ∀b o,S b o->B b o)(J: ∀b o,ow b=some l->B b o):ca w B (.pointer (some ⟨b,0,none⟩)) (Cu s)∧Has tC (Cu s):=by
 obtain⟨t,X,hb,g,q⟩:=h;obtain⟨C,T0,W,O,F,V,a5⟩:=g.cB 0 lD (cR s) rfl rfl;obtain⟨Y,T1,b1,R,b3,b4,b5⟩:=g.cB 1 jd (cL s) rfl rfl;have I:ow (t 0)=some l:=q _ (.inl ⟨0,by decide,rfl⟩);have H:ow (t 1)=some l:=q _ (.inl ⟨1,by decide,rfl⟩)
 have m: ∀(o:Nat) (D:List bB),(dC 0).cB[o]? =some D-> ∀(i:Nat) (r:bB),D[i]? =some r-> ∀j T,r.2=some (j,T)-> ∀b,(X j).ownBlock=some b-> ∀o,B b o:=by intro o D ho i r a j T M U N Z;exact J U Z (q U (.inr ⟨j,cZ.2 ⟨D,bU ho,bE.2 ⟨r,bU a,by rw[M];rfl⟩⟩,N⟩))
 have y:ca w B (.pointer (some ⟨t 1,0,none⟩)) (.ptr (cL s)):=by
  refine .ptr (t 1) Y (cL s) (by rw[R,b3]) (fun i _=>J _ i H) (fun i v f=>jm b1 f) ?_;intro i v d f k;have E:i<jd.length:=by rw[<-R];exact(aG.1 f).1
  have a:jd[i]? =some (jd[i]'E):=aQ _;exact uD (b4 i _ v d a f k) Q (m 1 jd rfl i _ a)
 have n:Cu s= .ptr ((cR s).set 13 (.ptr (cL s))):=rfl;have z:(cR s).length=C.length:=by rw[O];exact F
 constructor
 ·rw[n,<-hb];refine .ptr (t 0) C _ (by rw[aM];exact z.symm) (fun i _=>J _ i I) (fun i v f=>jm W f) ?_;intro i v d f k;have E:i<lD.length:=by rw[<-O];exact(aG.1 f).1
  rw[bI]at k;by_cases e:13=i
  ·subst e;rw[if_pos rfl,if_pos (by rw[F];exact E)]at k;injection k with k;subst k;have c:=g.link (by decide) 0 13 lD rfl rfl;rw[jm W f]at c;injection c with c;subst c;exact y
  ·rw[if_neg e]at k;have a:lD[i]? =some (lD[i]'E):=aQ _;exact uD (V i _ v d a f k) Q (m 0 lD rfl i _ a)
 ·rw[n];refine iF.2 ⟨_,rfl,iQ (by rw[aM,F,ak]) ?_⟩;intro j u x P p;rw[ab,cU]at P;obtain⟨r,a,rfl⟩:=P;rw[bI]at p;by_cases e:13=j
  ·subst e;rw[if_pos rfl,if_pos (by rw[F];decide)]at p;injection p with p;subst p
   have G:r=IL:=by have:lD[13]? =some IL:=rfl;rw[this]at a;injection a with a;exact a.symm
   subst G;rw[if_pos rfl];refine iF.2 ⟨_,rfl,?_⟩;exact(tf (g.cB 1 jd (cL s) rfl rfl)).2
  ·rw[if_neg e]at p;have M:j<C.length:=by rw[O];exact(aG.1 a).1
   have hc:=V j r (C[j]'M) x a (aQ _) p;by_cases c:r=IL
   ·exfalso;subst c;have L:=(aG.1 a).1;have K:j<51:=L;have A:((List.range 51).all fun j=>j==13|| !(lD[j]? ==some IL))=true:=by decide+kernel
    have:=bY.1 A j (db.2 K);rw[a]at this;simp only[beq_self_eq_true,Bool.not_true,Bool.or_false,beq_iff_eq]at this;exact e this.symm
   ·rw[if_neg c];exact AG hc
def kN(h:ke w S ow l (dC 0) b [cR s,cL s])(m:Wf w S ow)(y:Ok s 0):
  Calls Try.prog 12 #[.pointer (some ⟨b,0,none⟩)] w fun e w'=> ∃C G c1 B L c2,e= .returned (.agg [.int .i64 s.role,.int .i64 s.bM,.int .i64 s.term,.int .i64 s.vote,.int .i64 s.bF,.int .i64 (s.li+s.le.length),.int .i64 s.li,.slice C G c1,.slice B L c2].toArray)∧
   G=(vo (eZ s)).length∧bD ax ax w S ow w' S ow∧Wf w' S ow:=by
 obtain⟨P,T⟩:=KL h (fun b o=>S b o∨ow b=some l) (fun _ _ h=>.inl h) (fun _ _ h=>.inr h);refine(Rf.calls rfl w (fun b o=>S b o∨ow b=some l) [.pointer (some ⟨b,0,none⟩)] [Cu s] (fun b o q=>q.elim (m.s b o) (m.o b l)) rfl ?_ (ag.2 ⟨_,_,rfl,T,dg.2 rfl⟩) y).mono ?_
 ·intro i v d j f
  match i,j,f with
  |0,j,f=>injection j with j;injection f with f;subst j f;exact P
 ·rintro e t ⟨v,S',τ,rfl,hb,_,_,_,kR,_⟩
  have x:bD ax ax w S ow t S ow∧Wf t S ow:=⟨⟨hb.size,hb.os,hb.tape,hb.output,fun b _ k _ _=>hb.block b k,fun b k _ _=>hb.block b k,fun _ _ h=>h,fun b o q=>bh (hb.block b (m.s b o q)),fun _ _ h _=>h,fun _ _ h=>.inl h,fun _ _ h=>h,fun _ _ h=>.inl h⟩,
   ⟨fun b o q=>av (m.s b o q) hb.size,fun b l R=>av (m.o b l R) hb.size,m.d⟩⟩
  rcases kR with⟨c,r,hq⟩|⟨r,_⟩
  ·injection r with r;subst r;unfold gl at hq;rw[if_pos rfl]at hq;obtain⟨F,ds,rfl,f,u,U,a⟩:=hq
   have z:ds=[D.int .i64 s.role,.int .i64 s.bM,.int .i64 s.term,.int .i64 s.vote,.int .i64 s.bF,.int .i64 (s.li+s.le.length),.int .i64 s.li,cD 0 (eZ s),cD 1 (eZ s)] :=by have e:cz 12 [Cu s] = .agg [D.int .i64 s.role,.int .i64 s.bM,.int .i64 s.term,.int .i64 s.vote,.int .i64 s.bF,.int .i64 (s.li+s.le.length),.int .i64 s.li,cD 0 (eZ s),cD 1 (eZ s)] :=rfl;rw[e]at f;injection f with f;exact f.symm
   subst z;have p:F.length=9:=u
   match F,p with
   | [u0,u1,u2,u3,u4,u5,u6,u7,u8],_=>
    have g0:=(a 0 _ _ _ rfl rfl rfl).1.cn;have g1:=(a 1 _ _ _ rfl rfl rfl).1.cn;have g2:=(a 2 _ _ _ rfl rfl rfl).1.cn;have g3:=(a 3 _ _ _ rfl rfl rfl).1.cn;have Z:=(a 4 _ _ _ rfl rfl rfl).1.cn;have Y:=(a 5 _ _ _ rfl rfl rfl).1.cn;have X:=(a 6 _ _ _ rfl rfl rfl).1.cn;subst g0 g1 g2 g3 Z Y X;obtain⟨rfl,W⟩:=a 7 _ _ _ rfl rfl rfl;obtain⟨rfl,V⟩:=a 8 _ _ _ rfl rfl rfl;obtain⟨x7,l7,e7,K,_⟩:=W.own;obtain⟨x8,M,e8,J,_⟩:=V.own
    have j: ∀{v:Tan} {n:Nat} {E:Tac},t.ownsRow 0 3 1 v n E-> ∃A c,v= .slice A n c:=by
     intro v n E Q;rcases Q.2 with⟨rfl,hn⟩|⟨g,cap,cur,rfl,_⟩
     ·exact⟨none,0,by rw[hn]⟩
     ·exact⟨_,cap,rfl⟩
    obtain⟨C,I,O⟩:=j K;obtain⟨B,H,N⟩:=j J;refine⟨C,l7.length,I,B,M.length,H,by rw[O,N],?_,x⟩;have:(cD 0 (eZ s)).A=l7:=by rw[e7];rfl
    unfold vo iT;rw[ak];rw[<-this];rfl
  ·exact absurd rfl r
def qh{τ:Taj}{v:Tan}{d:D}{ts:Tal}(h:gU w 0 S τ [(true,pl ts)] v d):ca w S v d∧Has (.agg (.V ts)) d:=by
 rcases h with⟨c,k,hq⟩|⟨k,_⟩
 ·injection k with k;subst k;unfold gl at hq;rw[if_pos rfl]at hq;obtain⟨m,r,rfl,rfl,a,e,f⟩:=hq
  have g: ∀(i:Nat) u y,m[i]? =some u->r[i]? =some y-> ∃t,ts[i]? =some t∧ca w S u y∧Has t y:=by
   intro i u y n q;have o:i<ts.length:=by have:=(aG.1 n).1;rw[a]at this;simpa [pl]using this
   have B:(pl ts)[i]? =some (ts[i]'o,none):=by simp[pl,aQ o]
   exact⟨ts[i]'o,aQ o,f i _ u y B n q⟩
  refine⟨.agg m r (by rw[a];exact e.symm) (fun i u y n q=>(g i u y n q).choose_spec.2.1),dQ.2 ⟨r,rfl,iQ (by rw[e];simp[pl]) ?_⟩⟩;intro j t x A z;have C:j<m.length:=by have:=(aG.1 z).1;rw[a,<-e];exact this
  obtain⟨F,p,_,E⟩:=g j (m[j]'C) x (aQ _) z;rw[A]at p;injection p with p;subst p;exact E
 ·exact absurd rfl k
def UJ:Tal:=[.bool,I6,I6,.list dV,.ptr (.V ks),.list hH,.list dV,.list ue]
def yJ:Ty:=.agg (.V UJ)
def wO{x:Int}(h:ke w S ow l (dC 0) b [cR s,cL s])(p:Wf w S ow)(m:1000<=l)(o:jo .i64 x)(k:Ok s 20):
  Calls Try.prog 15 #[.pointer (some ⟨b,0,none⟩),.int .i64 x] w fun e w'=> ∃v S' bR,e= .returned v∧bD (iE l) ax w S ow w' S' bR∧Wf w' S' bR∧ke w' S' bR l (dC 0) b [cR (jW x s).2,cL (jW x s).2] ∧ca w' S' v (jW x s).1∧Has yJ (jW x s).1:=by
 have j:dn (.V s15.params) ([D.int .i64 x] ++[cR s,cL s].flatten):=ag.2 ⟨_,_,rfl,⟨x,rfl,o⟩,fF h⟩;refine(h.call (ob0:=dC 0) (vs:=[.int .i64 x]) (n:=1) XC rfl rfl rfl rfl rfl rfl (by decide) (.inl (by decide)) rfl m p rfl rfl ?_ j k).mono ?_
 ·intro i v d c g
  match i,c,g with
  |0,c,g=>injection c with c;injection g with g;subst c g;exact .int _ _
 ·rintro e q ⟨v,S',bR,τ,d0,outs,rfl,a,Po,Pn,T4,Pp,kR⟩;have e:cz 15 ([D.int .i64 x] ++[cR s,cL s].flatten)= .eS [(jW x s).1,.agg (cR (jW x s).2),.agg (cL (jW x s).2)] :=rfl;rw[e]at a;injection a with a;have f:outs.length=2:=Po
  match outs,f with
  | [o1,o2],_=>
   simp only[cE,List.map_nil,ev,D.agg.injEq,and_true]at a;obtain⟨rfl,rfl,rfl⟩:=a;exact⟨v,S',bR,rfl,Pn,T4,Pp,(qh kR).1,(qh kR).2⟩
def BQ{x:D}{u:Tan}(h:ke w S ow l (dC 0) b [cR s,cL s])(q:Wf w S ow)(o:1000<=l)(p:Has hH x)(r:ca w S u x)(m:Ok s (20+(cD 12 x).A.length))(g:(cD 12 x).A.length<=2147483648):
  Calls Try.prog 17 #[.pointer (some ⟨b,0,none⟩),u] w fun e w'=> ∃v S' bR,e= .returned v∧bD (iE l) ax w S ow w' S' bR∧Wf w' S' bR∧ke w' S' bR l (dC 0) b [cR (jy x s).2,cL (jy x s).2] ∧ca w' S' v (jy x s).1∧Has yJ (jy x s).1:=by
 have k:dn (.V s17.params) ([x] ++[cR s,cL s].flatten):=ag.2 ⟨_,_,rfl,p,fF h⟩;refine(h.call (ob0:=dC 0) (vs:=[u]) (n:=1) c17 rfl rfl rfl rfl rfl rfl (by decide) (.inl (by decide)) rfl o q rfl rfl ?_ k ⟨m,g⟩).mono ?_
 ·intro i v d c j
  match i,c,j with
  |0,c,j=>injection c with c;injection j with j;subst c j;exact r
 ·rintro e t ⟨v,S',bR,τ,d0,outs,rfl,a,Po,Pn,T4,Pp,kR⟩;have e:cz 17 ([x] ++[cR s,cL s].flatten)= .eS [(jy x s).1,.agg (cR (jy x s).2),.agg (cL (jy x s).2)] :=rfl;rw[e]at a;injection a with a;have f:outs.length=2:=Po
  match outs,f with
  | [o1,o2],_=>
   simp only[cE,List.map_nil,ev,D.agg.injEq,and_true]at a;obtain⟨rfl,rfl,rfl⟩:=a;exact⟨v,S',bR,rfl,Pn,T4,Pp,(qh kR).1,(qh kR).2⟩
end
noncomputable section
def aT(i:Nat)(f:Func):=yX i (iB f)
abbrev oM(d x:Nat)(g:Tao (Nat×Bool):=none):OK:=(some d,.move (.tmp x),g)
abbrev oA(d x:Nat)(g:Tao (Nat×Bool):=none):OK:=(some d,.assign (.tmp x),g)
abbrev oN(d x:Nat)(g:Tao (Nat×Bool):=none):OK:=(some d,.nilCheck (.tmp x),g)
abbrev oF(d t x i:Nat)(g:Tao (Nat×Bool):=none):OK:=(some d,.fieldAddr t (.tmp x) i,g)
abbrev oL(d t x:Nat)(g:Tao (Nat×Bool):=none):OK:=(some d,.load t (.tmp x),g)
abbrev oI(d t x y:Nat)(g:Tao (Nat×Bool):=none):OK:=(some d,.indexAddr t (.tmp x) (.tmp y),g)
abbrev oC(d f:Nat)(a:Tbd Tbb)(t:Tbd Nat)(g:Tao (Nat×Bool):=none):OK:=(some d,.call {callee:=.value (.func f),args:=a,argTypes:=t},g)
abbrev oE(d x t:Nat)(g:Tao (Nat×Bool):=none):OK:=(some d,.call {callee:=.builtin .len,args:=#[.tmp x],argTypes:=#[t]},g)
abbrev oP(d x y:Nat)(b:Bool)(g:Tao (Nat×Bool):=none):OK:=(some d,.pick (.tmp x) (.tmp y) (.const (.bool b)),g)
abbrev oB(d:Nat)(o:BinOp)(t x y:Nat)(g:Tao (Nat×Bool):=none):OK:=(some d,.binOp o t (.tmp x) (.tmp y) t,g)
abbrev oS(t x y:Nat)(g:Tao (Nat×Bool):=none):OK:=(none,.store t (.tmp x) (.tmp y),g)
def RK:=aT 0 Try.f54
def RJ:=aT 1 Try.f54
def RI:=aT 2 Try.f54
def RH:=aT 3 Try.f54
def Z6:bC RK=[(some 4,.assign (.const (.slice none 0 0)),none)] :=by kernel_rfl
def Z5:bC RJ=[oM 5 0,
 oE 6 5 29,
 oM 7 1,
 oB 8 .leq 3 6 7] :=by kernel_rfl
def Z4:bC RI=[oM 9 0,
 (some 10,.buildSlice 29 1 #[(0,.const (.int .i64 0))],none),
 (some 11,.call {callee:=.builtin .append,args:= #[(.tmp 9),(.tmp 10)],argTypes:= #[29,29]},none),
 oA 0 11] :=by kernel_rfl
def Z3:bC RH=[oM 12 0,
 oA 4 12] :=by kernel_rfl
def WN:iB Try.f54=(.seq (.region 0 RK false) (.seq (.block 0 (.loop (.seq (.seq (.region 1 RJ false) (.cond (.tmp 8) .skip (.exit 0))) (.block 1 (.region 2 RI false))))) (.seq (.region 3 RH false) .ret))):=by kernel_rfl
def NC:Try.f54.body=some (iB Try.f54):=by kernel_rfl
def aeG:Try.f54.ntmps=13:=by kernel_rfl
def ZP:Try.f54.results= #[.tmp 4] :=by kernel_rfl
def JF(a:Tbd Tan)(w:Tam):(callFunc 54 a).run Try.prog w= .ok (.enter 54 a) w:=by
 unfold callFunc
 have b:Try.f54.name≠ "runtime.NumGoroutine" :=by decide+kernel
 simp[Try.func54,NC,b]
def RU:=aT 0 Try.f19
def RT:=aT 1 Try.f19
def Ja:=aT 2 Try.f19
def RR:=aT 3 Try.f19
def MH:=aT 4 Try.f19
def MG:=aT 5 Try.f19
def MF:=aT 6 Try.f19
def ME:=aT 7 Try.f19
def I9:=aT 8 Try.f19
def MD:=aT 9 Try.f19
def CL:=aT 10 Try.f19
def CK:=aT 11 Try.f19
def CJ:=aT 12 Try.f19
def CI:=aT 13 Try.f19
def zf:=aT 14 Try.f19
def aav:bC RU=[oM 7 0,
 oN 8 7,
 oF 9 59 8 1,
 oL 10 54 9,
 oM 11 1,
 oI 12 54 10 11,
 oL 13 52 12,
 oC 14 12 #[(.tmp 13)] #[52],
 (some 4,.alloc 67,none),
 oS 67 4 14] :=by kernel_rfl
def aau:bC RT=[oF 15 67 4 2,
 oF 16 61 15 0,
 oL 17 3 16,
 oM 18 0,
 oN 19 18,
 oF 20 59 19 7,
 oL 21 29 20,
 oM 22 1,
 oI 23 29 21 22,
 oL 24 3 23,
 oB 25 .lss 3 17 24,
 oM 26 25,
 oF 27 67 4 2 (some (11,false)),
 oF 28 61 27 0 (some (11,false)),
 oL 29 3 28 (some (11,false)),
 (some 30,.binOp .gtr 3 (.tmp 29) (.const (.int .i64 5000)) 3,some (11,false)),
 (some 31,.pick (.tmp 26) (.const (.bool true)) (.tmp 30),none)] :=by kernel_rfl
def aat:bC Ja=[oM 32 0,
 oM 33 0,
 oN 34 33,
 oF 35 59 34 9,
 oL 36 4 35,
 oM 37 36,
 oF 38 67 4 2 (some (5,false)),
 oF 39 61 38 0 (some (5,false)),
 oL 40 3 39 (some (5,false)),
 oM 41 0 (some (5,false)),
 oN 42 41 (some (5,false)),
 oF 43 59 42 7 (some (5,false)),
 oL 44 29 43 (some (5,false)),
 oM 45 1 (some (5,false)),
 oI 46 29 44 45 (some (5,false)),
 oL 47 3 46 (some (5,false)),
 oB 48 .lss 3 40 47 (some (5,false)),
 (some 49,.pick (.tmp 37) (.const (.bool true)) (.tmp 48),none),
 oN 50 32,
 oF 51 59 50 9,
 oS 4 51 49] :=by kernel_rfl
def aas:bC RR=[oM 52 0,
 oN 53 52,
 oF 54 59 53 7,
 oL 55 29 54,
 oM 56 1,
 oF 57 67 4 2,
 oF 58 61 57 0,
 oL 59 3 58,
 oI 60 29 55 56,
 oS 3 60 59] :=by kernel_rfl
def aar:bC MH=[oM 61 0,
 oN 62 61,
 oF 63 59 62 6,
 oL 64 57 63,
 oM 65 1,
 oM 66 0,
 oN 67 66,
 oF 68 59 67 6,
 oL 69 57 68,
 oM 70 1,
 oI 71 57 69 70,
 oL 72 29 71,
 oF 73 67 4 2,
 oF 74 61 73 0,
 oL 75 3 74,
 oC 76 54 #[(.tmp 72),(.tmp 75)] #[29,3],
 oI 77 57 64 65,
 oS 29 77 76] :=by kernel_rfl
def aaq:bC MG=[oM 78 0,
 oN 79 78,
 oF 80 59 79 6,
 oL 81 57 80,
 oM 82 1,
 oI 83 57 81 82,
 oL 84 29 83,
 oF 85 67 4 2,
 oF 86 61 85 0,
 oL 87 3 86,
 oI 88 29 84 87,
 oL 89 3 88,
 oA 5 89] :=by kernel_rfl
def aap:bC MF=[oM 90 5,
 (some 91,.binOp .neq 3 (.tmp 90) (.const (.int .i64 0)) 3,none),
 oM 92 91,
 oF 93 67 4 2 (some (2,true)),
 oF 94 61 93 1 (some (2,true)),
 oL 95 3 94 (some (2,true)),
 oM 96 5 (some (2,true)),
 oB 97 .neq 3 95 96 (some (2,true)),
 oP 98 92 97 false] :=by kernel_rfl
def aao:bC ME=[oM 99 0,
 oN 100 99,
 oF 101 59 100 9,
 (none,.store 4 (.tmp 101) (.const (.bool true)),none)] :=by kernel_rfl
def aan:bC I9=[oM 102 0,
 oN 103 102,
 oF 104 59 103 6,
 oL 105 57 104,
 oM 106 1,
 oI 107 57 105 106,
 oL 108 29 107,
 oF 109 67 4 2,
 oF 110 61 109 0,
 oL 111 3 110,
 oF 112 67 4 2,
 oF 113 61 112 1,
 oL 114 3 113,
 oI 115 29 108 111,
 oS 3 115 114] :=by kernel_rfl
def aam:bC MD=[oF 116 67 4 0,
 oL 117 3 116,
 (some 118,.binOp .eql 3 (.tmp 117) (.const (.int .i64 2)) 3,none)] :=by kernel_rfl
def VH:bC CL=[oM 119 0,
 oM 120 0,
 oN 121 120,
 oF 122 59 121 5,
 oL 123 29 122,
 oF 124 67 4 2,
 oF 125 61 124 0,
 oL 126 3 125,
 oC 127 54 #[(.tmp 123),(.tmp 126)] #[29,3],
 oN 128 119,
 oF 129 59 128 5,
 oS 29 129 127] :=by kernel_rfl
def VG:bC CK=[oM 130 0,
 oN 131 130,
 oF 132 59 131 5,
 oL 133 29 132,
 oF 134 67 4 2,
 oF 135 61 134 0,
 oL 136 3 135,
 oI 137 29 133 136,
 oL 138 3 137,
 oA 6 138] :=by kernel_rfl
def VF:bC CJ=[oM 139 6,
 (some 140,.binOp .neq 3 (.tmp 139) (.const (.int .i64 0)) 3,none),
 oM 141 140,
 oM 142 6 (some (2,true)),
 oM 143 1 (some (2,true)),
 (some 144,.binOp .add 3 (.tmp 143) (.const (.int .i64 1)) 3,some (2,true)),
 oB 145 .neq 3 142 144 (some (2,true)),
 oP 146 141 145 false] :=by kernel_rfl
def VE:bC CI=[oM 147 0,
 oN 148 147,
 oF 149 59 148 9,
 (none,.store 4 (.tmp 149) (.const (.bool true)),none)] :=by kernel_rfl
def VD:bC zf=[oM 150 0,
 oN 151 150,
 oF 152 59 151 5,
 oL 153 29 152,
 oF 154 67 4 2,
 oF 155 61 154 0,
 oL 156 3 155,
 oM 157 1,
 (some 158,.binOp .add 3 (.tmp 157) (.const (.int .i64 1)) 3,none),
 oI 159 29 153 156,
 oS 3 159 158] :=by kernel_rfl
def WQ:iB Try.f19=(.seq (.region 0 RU false) (.seq (.seq (.region 1 RT true) (.cond (.tmp 31) (.seq (.region 2 Ja true) .ret) .skip)) (.seq (.region 3 RR true) (.seq (.region 4 MH true) (.seq (.region 5 MG true) (.seq (.seq (.region 6 MF false) (.cond (.tmp 98) (.region 7 ME false) .skip)) (.seq (.region 8 I9 true) (.seq (.region 9 MD false) (.cond (.tmp 118) (.seq (.region 10 CL true) (.seq (.region 11 CK true) (.seq (.seq (.region 12 CJ false) (.cond (.tmp 146) (.region 13 CI false) .skip)) (.region 14 zf true)))) .skip))))))))):=by kernel_rfl
def NF:Try.f19.body=some (iB Try.f19):=by kernel_rfl
def aeI:Try.f19.ntmps=160:=by kernel_rfl
def Mj:Try.f19.results= #[] :=by kernel_rfl
def JG(a:Tbd Tan)(w:Tam):(callFunc 19 a).run Try.prog w= .ok (.enter 19 a) w:=by
 unfold callFunc
 have b:Try.f19.name≠ "runtime.NumGoroutine" :=by decide+kernel
 simp[Try.func19,NF,b]
def RQ:=aT 0 Try.f30
def RP:=aT 1 Try.f30
def RO:=aT 2 Try.f30
def RN:=aT 3 Try.f30
def MC:=aT 4 Try.f30
def MB:=aT 5 Try.f30
def MA:=aT 6 Try.f30
def Mz:=aT 8 Try.f30
def I7:=aT 9 Try.f30
def I8:=aT 7 Try.f30
def ze:=aT 10 Try.f30
def zd:=aT 11 Try.f30
def GN:=aT 12 Try.f30
def GL:=aT 13 Try.f30
def GK:=aT 14 Try.f30
def GJ:=aT 15 Try.f30
def GH:=aT 17 Try.f30
def GG:=aT 18 Try.f30
def CH:=aT 16 Try.f30
def zc:=aT 19 Try.f30
def zb:=aT 20 Try.f30
def za:=aT 21 Try.f30
def aal:bC RQ=[(some 5,.box 75 (.tmp 2),none)] :=by kernel_rfl
def aak:bC RP=[oM 11 0,
 oN 12 11,
 oF 13 59 12 2,
 oL 14 55 13,
 oM 15 1,
 oI 16 55 14 15,
 oL 17 65 16,
 (some 6,.alloc 65,none),
 oS 65 6 17] :=by kernel_rfl
def aaj:bC RO=[oF 18 75 5 1,
 oL 19 61 18,
 oF 20 65 6 0,
 oS 61 20 19] :=by kernel_rfl
def aai:bC RN=[oF 21 75 5 3,
 oL 22 72 21,
 (some 23,.binOp .neq 72 (.tmp 22) (.const (.pointer none)) 72,none)] :=by kernel_rfl
def aah:bC MC=[(some 7,.assign (.const (.slice none 0 0)),none)] :=by kernel_rfl
def aag:bC MB=[(some 8,.assign (.const (.int .i64 0)),none)] :=by kernel_rfl
def aaf:bC MA=[oM 24 8,
 oF 25 65 6 2,
 oL 26 28 25,
 oE 27 26 28,
 oB 28 .lss 3 24 27] :=by kernel_rfl
def aad:bC I7=[oM 60 7,
 oF 61 65 6 2,
 oL 62 28 61,
 oM 63 8,
 oI 64 28 62 63,
 oL 65 78 64,
 (some 66,.buildSlice 28 1 #[(0,.tmp 65)],none),
 (some 67,.call {callee:=.builtin .append,args:= #[(.tmp 60),(.tmp 66)],argTypes:= #[28,28]},none),
 oA 7 67] :=by kernel_rfl
def aae:bC I8=[oM 29 8,
 (some 30,.binOp .add 3 (.tmp 29) (.const (.int .i64 1)) 3,none),
 oA 8 30] :=by kernel_rfl
def VB:bC ze=[oF 68 75 5 3,
 oL 69 72 68,
 oN 70 69,
 oL 71 63 70,
 oF 72 65 6 1,
 oS 63 72 71] :=by kernel_rfl
def VA:bC zd=[oM 73 7,
 oF 74 65 6 2,
 oS 28 74 73] :=by kernel_rfl
def Vz:bC GN=[oF 75 75 5 2,
 oL 76 28 75,
 oE 77 76 28,
 (some 78,.binOp .gtr 3 (.tmp 77) (.const (.int .i64 0)) 3,none)] :=by kernel_rfl
def Vy:bC GL=[(some 9,.assign (.const (.slice none 0 0)),none)] :=by kernel_rfl
def Vx:bC GK=[(some 10,.assign (.const (.int .i64 0)),none)] :=by kernel_rfl
def Vw:bC GJ=[oM 79 10,
 oF 80 65 6 2,
 oL 81 28 80,
 oE 82 81 28,
 oB 83 .lss 3 79 82] :=by kernel_rfl
def Vu:bC GH=[oF 86 65 6 2,
 oL 87 28 86,
 oM 88 10,
 oI 89 28 87 88,
 oF 90 78 89 0,
 oL 91 3 90,
 oF 92 75 5 2,
 oL 93 28 92,
 (some 94,.indexAddr 28 (.tmp 93) (.const (.int .i64 0)),none),
 oF 95 78 94 0,
 oL 96 3 95,
 oB 97 .lss 3 91 96] :=by kernel_rfl
def Vt:bC GG=[oM 98 9,
 oF 99 65 6 2,
 oL 100 28 99,
 oM 101 10,
 oI 102 28 100 101,
 oL 103 78 102,
 (some 104,.buildSlice 28 1 #[(0,.tmp 103)],none),
 (some 105,.call {callee:=.builtin .append,args:= #[(.tmp 98),(.tmp 104)],argTypes:= #[28,28]},none),
 oA 9 105] :=by kernel_rfl
def Vv:bC CH=[oM 84 10,
 (some 85,.binOp .add 3 (.tmp 84) (.const (.int .i64 1)) 3,none),
 oA 10 85] :=by kernel_rfl
def Vs:bC zc=[oM 106 9,
 oF 107 75 5 2,
 oL 108 28 107,
 (some 109,.call {callee:=.builtin .append,args:= #[(.tmp 106),(.tmp 108)],argTypes:= #[28,28]},none),
 oA 9 109] :=by kernel_rfl
def Vr:bC zb=[oM 110 9,
 oF 111 65 6 2,
 oS 28 111 110] :=by kernel_rfl
def Vq:bC za=[oM 112 0,
 oN 113 112,
 oF 114 59 113 2,
 oL 115 55 114,
 oM 116 1,
 oL 117 65 6,
 oI 118 55 115 116,
 oS 65 118 117] :=by kernel_rfl
def WO:iB Try.f30=(.seq (.region 0 RQ false) (.seq (.region 1 RP false) (.seq (.region 2 RO false) (.seq (.seq (.region 3 RN false) (.cond (.tmp 23) (.seq (.region 4 MC false) (.seq (.seq (.region 5 MB false) (.block 0 (.loop (.seq (.seq (.region 6 MA false) (.cond (.tmp 28) .skip (.exit 0))) (.seq (.block 1 (.seq (.region 8 Mz true) (.cond (.tmp 59) (.region 9 I7 false) .skip))) (.region 7 I8 false)))))) (.seq (.region 10 ze false) (.region 11 zd false)))) .skip)) (.seq (.seq (.region 12 GN false) (.cond (.tmp 78) (.seq (.region 13 GL false) (.seq (.seq (.region 14 GK false) (.block 2 (.loop (.seq (.seq (.region 15 GJ false) (.cond (.tmp 83) .skip (.exit 2))) (.seq (.block 3 (.seq (.region 17 GH true) (.cond (.tmp 97) (.region 18 GG false) .skip))) (.region 16 CH false)))))) (.seq (.region 19 zc false) (.region 20 zb false)))) .skip)) (.region 21 za true)))))):=by kernel_rfl
def ND:Try.f30.body=some (iB Try.f30):=by kernel_rfl
def aeH:Try.f30.ntmps=119:=by kernel_rfl
def ZQ:Try.f30.results= #[] :=by kernel_rfl
def QG(a:Tbd Tan)(w:Tam):(callFunc 30 a).run Try.prog w= .ok (.enter 30 a) w:=by
 unfold callFunc
 have b:Try.f30.name≠ "runtime.NumGoroutine" :=by decide+kernel
 simp[Try.func30,ND,b]
def RX:=aT 0 Try.f14
def RW:=aT 1 Try.f14
def RV:=aT 2 Try.f14
def MQ:=aT 3 Try.f14
def MP:=aT 4 Try.f14
def MO:=aT 5 Try.f14
def MN:=aT 6 Try.f14
def MK:=aT 8 Try.f14
def MI:=aT 9 Try.f14
def GU:=aT 10 Try.f14
def GQ:=aT 11 Try.f14
def GP:=aT 12 Try.f14
def GO:=aT 13 Try.f14
def CN:=aT 14 Try.f14
def zg:=aT 15 Try.f14
def ML:=aT 7 Try.f14
def CM:=aT 16 Try.f14
def aaF:bC RX=[(some 6,.box 75 (.tmp 2),none)] :=by kernel_rfl
def aaE:bC RW=[oF 12 75 6 0,
 oL 13 4 12] :=by kernel_rfl
def aaD:bC RV=[oM 14 0,
 oM 15 1,
 oL 16 75 6,
 oC 17 30 #[(.tmp 14),(.tmp 15),(.tmp 16)] #[24,3,75]] :=by kernel_rfl
def aaC:bC MQ=[oM 18 0,
 oN 19 18,
 oF 20 59 19 3,
 oL 21 56 20,
 oE 22 21 56,
 (some 23,.binOp .lss 3 (.tmp 22) (.const (.int .i64 400)) 3,none),
 oM 24 23,
 oM 25 3 (some (6,true)),
 (some 26,.unOp .not 4 (.tmp 25),some (6,true)),
 oP 27 24 26 false] :=by kernel_rfl
def aaB:bC MP=[oM 28 0,
 oM 29 0,
 oN 30 29,
 oF 31 59 30 3,
 oL 32 56 31,
 oF 33 75 6 4,
 oL 34 56 33,
 (some 35,.call {callee:=.builtin .append,args:= #[(.tmp 32),(.tmp 34)],argTypes:= #[56,56]},none),
 oN 36 28,
 oF 37 59 36 3,
 oS 56 37 35] :=by kernel_rfl
def aaA:bC MO=[(some 8,.assign (.const (.int .i64 0)),none)] :=by kernel_rfl
def aaz:bC MN=[oM 38 8,
 oF 39 75 6 5,
 oL 40 28 39,
 oE 41 40 28,
 oB 42 .lss 3 38 41] :=by kernel_rfl
def aax:bC MK=[oF 45 75 6 5,
 oL 46 28 45,
 oM 47 8,
 oI 48 28 46 47,
 oL 49 78 48,
 (some 9,.alloc 78,none),
 oS 78 9 49] :=by kernel_rfl
def aaw:bC MI=[oM 50 0,
 oN 51 50,
 oF 52 59 51 4,
 oL 53 28 52,
 oE 54 53 28,
 oF 55 78 9 0,
 oL 56 3 55,
 oB 57 .leq 3 54 56] :=by kernel_rfl
def VO:bC GU=[oM 58 0,
 oM 59 0,
 oN 60 59,
 oF 61 59 60 4,
 oL 62 28 61,
 (some 63,.build 78 #[],none),
 (some 64,.buildSlice 28 1 #[(0,.tmp 63)],none),
 (some 65,.call {callee:=.builtin .append,args:= #[(.tmp 62),(.tmp 64)],argTypes:= #[28,28]},none),
 oN 66 58,
 oF 67 59 66 4,
 oS 28 67 65] :=by kernel_rfl
def VN:bC GQ=[oM 68 0,
 oN 69 68,
 oF 70 59 69 4,
 oL 71 28 70,
 oF 72 78 9 0,
 oL 73 3 72,
 oI 74 28 71 73,
 oL 75 78 74,
 (some 10,.alloc 78,none),
 oS 78 10 75] :=by kernel_rfl
def VM:bC GP=[oF 76 78 9 2,
 oL 77 44 76,
 oF 78 78 10 2,
 oL 79 44 78,
 oC 80 31 #[(.tmp 77),(.tmp 79)] #[44,44],
 oA 11 80] :=by kernel_rfl
def VL:bC GO=[oF 81 78 10 0,
 oL 82 3 81,
 (some 83,.binOp .neq 3 (.tmp 82) (.const (.int .i64 0)) 3,none),
 oM 84 83,
 oF 85 78 10 1 (some (3,true)),
 oL 86 3 85 (some (3,true)),
 oF 87 78 9 1 (some (3,true)),
 oL 88 3 87 (some (3,true)),
 oB 89 .neq 3 86 88 (some (3,true)),
 oM 90 89 (some (3,true)),
 oM 91 11 (some (9,false)),
 (some 92,.unOp .not 4 (.tmp 91),some (9,false)),
 (some 93,.pick (.tmp 90) (.const (.bool true)) (.tmp 92),some (3,true)),
 oP 94 84 93 false] :=by kernel_rfl
def VK:bC CN=[oM 95 0,
 oN 96 95,
 oF 97 59 96 9,
 (none,.store 4 (.tmp 97) (.const (.bool true)),none)] :=by kernel_rfl
def VJ:bC zg=[oM 98 0,
 oN 99 98,
 oF 100 59 99 4,
 oL 101 28 100,
 oF 102 78 9 0,
 oL 103 3 102,
 oL 104 78 9,
 oI 105 28 101 103,
 oS 78 105 104] :=by kernel_rfl
def aay:bC ML=[oM 43 8,
 (some 44,.binOp .add 3 (.tmp 43) (.const (.int .i64 1)) 3,none),
 oA 8 44] :=by kernel_rfl
def VI:bC CM=[oM 106 0,
 oM 107 1,
 oC 108 19 #[(.tmp 106),(.tmp 107)] #[24,3]] :=by kernel_rfl
def WR:iB Try.f14=(.seq (.region 0 RX false) (.seq (.seq (.region 1 RW false) (.cond (.tmp 13) (.region 2 RV false) .skip)) (.seq (.seq (.region 3 MQ false) (.cond (.tmp 27) (.region 4 MP true) .skip)) (.seq (.seq (.region 5 MO false) (.block 0 (.loop (.seq (.seq (.region 6 MN false) (.cond (.tmp 42) .skip (.exit 0))) (.seq (.block 1 (.seq (.region 8 MK false) (.seq (.block 2 (.loop (.seq (.seq (.region 9 MI true) (.cond (.tmp 57) .skip (.exit 2))) (.block 3 (.region 10 GU false))))) (.seq (.region 11 GQ true) (.seq (.region 12 GP false) (.seq (.seq (.region 13 GO false) (.cond (.tmp 94) (.region 14 CN false) .skip)) (.region 15 zg true))))))) (.region 7 ML false)))))) (.region 16 CM false))))):=by kernel_rfl
def NG:Try.f14.body=some (iB Try.f14):=by kernel_rfl
def aeJ:Try.f14.ntmps=109:=by kernel_rfl
def ZR:Try.f14.results= #[] :=by kernel_rfl
def qk(a:Tbd Tan)(w:Tam):(callFunc 14 a).run Try.prog w= .ok (.enter 14 a) w:=by
 unfold callFunc
 have b:Try.f14.name≠ "runtime.NumGoroutine" :=by decide+kernel
 simp[Try.func14,NG,b]
def Zb:=aT 0 Try.f9
def Za:=aT 1 Try.f9
def Y9:=aT 2 Try.f9
def Y8:=aT 3 Try.f9
def Y6:=aT 5 Try.f9
def Y7:=aT 4 Try.f9
def UN:=aT 6 Try.f9
def UM:=aT 7 Try.f9
def Y4:=aT 9 Try.f9
def Y5:=aT 8 Try.f9
def Ms:=aT 10 Try.f9
def Mr:=aT 11 Try.f9
def Mp:=aT 13 Try.f9
def Mo:=aT 14 Try.f9
def Mn:=aT 15 Try.f9
def Mm:=aT 16 Try.f9
def Mq:=aT 12 Try.f9
def Ml:=aT 17 Try.f9
def ad2:bC Zb=[(some 4,.assign (.const (.pointer none)),none)] :=by kernel_rfl
def ad0:bC Za=[(some 9,.build 59 #[],none),
 (some 10,.box 59 (.tmp 9),none),
 oA 5 10] :=by kernel_rfl
def adZ:bC Y9=[(some 6,.assign (.const (.int .i64 1)),none)] :=by kernel_rfl
def adY:bC Y8=[oM 11 6,
 oM 12 1,
 oB 13 .leq 3 11 12] :=by kernel_rfl
def adW:bC Y6=[oM 16 5,
 oM 17 5,
 oN 18 17,
 oF 19 59 18 0,
 oF 20 31 19 0,
 oL 21 29 20,
 oM 22 6,
 (some 23,.buildSlice 29 1 #[(0,.tmp 22)],none),
 (some 24,.call {callee:=.builtin .append,args:= #[(.tmp 21),(.tmp 23)],argTypes:= #[29,29]},none),
 oN 25 16,
 oF 26 59 25 0,
 oF 27 31 26 0,
 oS 29 27 24] :=by kernel_rfl
def adX:bC Y7=[oM 14 6,
 (some 15,.binOp .add 3 (.tmp 14) (.const (.int .i64 1)) 3,none),
 oA 6 15] :=by kernel_rfl
def adV:bC UN=[oM 28 1,
 (some 29,.binOp .add 3 (.tmp 28) (.const (.int .i64 1)) 3,none),
 oA 7 29] :=by kernel_rfl
def adU:bC UM=[oM 30 7,
 oM 31 0,
 oB 32 .leq 3 30 31] :=by kernel_rfl
def Z2:bC Ms=[(some 8,.assign (.const (.int .i64 1)),none)] :=by kernel_rfl
def Z1:bC Mr=[oM 47 8,
 oM 48 0,
 oB 49 .leq 3 47 48] :=by kernel_rfl
def ZZ:bC Mp=[oM 52 5,
 oM 53 5,
 oN 54 53,
 oF 55 59 54 2,
 oL 56 55 55,
 (some 57,.build 65 #[],none),
 (some 58,.buildSlice 55 1 #[(0,.tmp 57)],none),
 (some 59,.call {callee:=.builtin .append,args:= #[(.tmp 56),(.tmp 58)],argTypes:= #[55,55]},none),
 oN 60 52,
 oF 61 59 60 2,
 oS 55 61 59] :=by kernel_rfl
def ZY:bC Mo=[oM 62 5,
 oM 63 5,
 oN 64 63,
 oF 65 59 64 1,
 oL 66 54 65,
 oM 67 8,
 oM 68 5,
 oN 69 68,
 oF 70 59 69 0,
 oL 71 31 70,
 (some 72,.build 65 #[],none),
 oC 73 11 #[(.tmp 67),(.tmp 71),(.tmp 72)] #[3,31,65],
 (some 74,.buildSlice 54 1 #[(0,.tmp 73)],none),
 (some 75,.call {callee:=.builtin .append,args:= #[(.tmp 66),(.tmp 74)],argTypes:= #[54,54]},none),
 oN 76 62,
 oF 77 59 76 1,
 oS 54 77 75] :=by kernel_rfl
def ZX:bC Mn=[oM 78 5,
 oM 79 5,
 oN 80 79,
 oF 81 59 80 6,
 oL 82 57 81,
 (some 83,.buildSlice 57 1 #[(0,.const (.slice none 0 0))],none),
 (some 84,.call {callee:=.builtin .append,args:= #[(.tmp 82),(.tmp 83)],argTypes:= #[57,57]},none),
 oN 85 78,
 oF 86 59 85 6,
 oS 57 86 84] :=by kernel_rfl
def ZW:bC Mm=[oM 87 5,
 oM 88 5,
 oN 89 88,
 oF 90 59 89 7,
 oL 91 29 90,
 (some 92,.buildSlice 29 1 #[(0,.const (.int .i64 0))],none),
 (some 93,.call {callee:=.builtin .append,args:= #[(.tmp 91),(.tmp 92)],argTypes:= #[29,29]},none),
 oN 94 87,
 oF 95 59 94 7,
 oS 29 95 93] :=by kernel_rfl
def Z0:bC Mq=[oM 50 8,
 (some 51,.binOp .add 3 (.tmp 50) (.const (.int .i64 1)) 3,none),
 oA 8 51] :=by kernel_rfl
def ZV:bC Ml=[oM 96 5,
 oA 4 96] :=by kernel_rfl
def abO:iB Try.f9=(.seq (.region 0 Zb false) (.seq (.region 1 Za false) (.seq (.seq (.region 2 Y9 false) (.block 0 (.loop (.seq (.seq (.region 3 Y8 false) (.cond (.tmp 13) .skip (.exit 0))) (.seq (.block 1 (.region 5 Y6 false)) (.region 4 Y7 false)))))) (.seq (.seq (.region 6 UN false) (.block 2 (.loop (.seq (.seq (.region 7 UM false) (.cond (.tmp 32) .skip (.exit 2))) (.seq (.block 3 (.region 9 Y4 false)) (.region 8 Y5 false)))))) (.seq (.seq (.region 10 Ms false) (.block 4 (.loop (.seq (.seq (.region 11 Mr false) (.cond (.tmp 49) .skip (.exit 4))) (.seq (.block 5 (.seq (.region 13 Mp false) (.seq (.region 14 Mo true) (.seq (.region 15 Mn false) (.region 16 Mm false))))) (.region 12 Mq false)))))) (.seq (.region 17 Ml false) .ret)))))):=by kernel_rfl
def Rn:Try.f9.body=some (iB Try.f9):=by kernel_rfl
def nt9:Try.f9.ntmps=97:=by kernel_rfl
def adQ:Try.f9.results= #[.tmp 4] :=by kernel_rfl
def N2(a:Tbd Tan)(w:Tam):(callFunc 9 a).run Try.prog w= .ok (.enter 9 a) w:=by
 unfold callFunc
 have b:Try.f9.name≠ "runtime.NumGoroutine" :=by decide+kernel
 simp[Try.func9,Rn,b]
def R5:=aT 0 Try.f13
def R4:=aT 1 Try.f13
def R1:=aT 2 Try.f13
def RZ:=aT 3 Try.f13
def MV:=aT 5 Try.f13
def RY:=aT 4 Try.f13
def MU:=aT 6 Try.f13
def MT:=aT 7 Try.f13
def MR:=aT 9 Try.f13
def MS:=aT 8 Try.f13
def GW:=aT 10 Try.f13
def GV:=aT 11 Try.f13
def aaP:bC R5=[(some 0,.assign (.const (.bool false)),none)] :=by kernel_rfl
def aaO:bC R4=[oC 5 9 #[(.const (.int .i64 3)),(.const (.int .i64 3))] #[3,3],
 oA 1 5] :=by kernel_rfl
def aaN:bC R1=[(some 2,.assign (.const (.int .i64 0)),none)] :=by kernel_rfl
def aaM:bC RZ=[oM 6 2,
 (some 7,.binOp .lss 3 (.tmp 6) (.const (.int .i64 10)) 3,none)] :=by kernel_rfl
def aaK:bC MV=[oM 10 1,
 oM 11 1,
 oN 12 11,
 oF 13 59 12 1,
 oL 14 54 13,
 (some 15,.indexAddr 54 (.tmp 14) (.const (.int .i64 0)),none),
 oL 16 52 15,
 oC 17 15 #[(.tmp 16),(.const (.int .i64 0))] #[52,3],
 oC 18 14 #[(.tmp 10),(.const (.int .i64 0)),(.tmp 17),(.const (.bool false))] #[24,3,75,4]] :=by kernel_rfl
def aaL:bC RY=[oM 8 2,
 (some 9,.binOp .add 3 (.tmp 8) (.const (.int .i64 1)) 3,none),
 oA 2 9] :=by kernel_rfl
def aaJ:bC MU=[(some 3,.assign (.const (.int .i64 0)),none)] :=by kernel_rfl
def aaI:bC MT=[oM 19 3,
 (some 20,.binOp .lss 3 (.tmp 19) (.const (.int .i64 4)) 3,none)] :=by kernel_rfl
def aaG:bC MR=[oM 23 1,
 (some 24,.build 51 #[(0,.const (.int .i64 6))],none),
 oC 25 10 #[(.tmp 23),(.tmp 24)] #[24,51]] :=by kernel_rfl
def aaH:bC MS=[oM 21 3,
 (some 22,.binOp .add 3 (.tmp 21) (.const (.int .i64 1)) 3,none),
 oA 3 22] :=by kernel_rfl
def VQ:bC GW=[oM 26 1,
 oN 27 26,
 oF 28 59 27 1,
 oL 29 54 28,
 (some 30,.indexAddr 54 (.tmp 29) (.const (.int .i64 0)),none),
 oL 31 52 30,
 oC 32 12 #[(.tmp 31)] #[52],
 (some 4,.alloc 67,none),
 oS 67 4 32] :=by kernel_rfl
def VP:bC GV=[oF 33 67 4 0,
 oL 34 3 33,
 (some 35,.binOp .eql 3 (.tmp 34) (.const (.int .i64 2)) 3,none),
 oM 36 35,
 oF 37 67 4 3 (some (3,true)),
 oL 38 3 37 (some (3,true)),
 (some 39,.binOp .eql 3 (.tmp 38) (.const (.int .i64 1)) 3,some (3,true)),
 oP 40 36 39 false,
 oM 41 40,
 oF 42 67 4 2 (some (8,true)),
 oF 43 61 42 0 (some (8,true)),
 oL 44 3 43 (some (8,true)),
 (some 45,.binOp .eql 3 (.tmp 44) (.const (.int .i64 1)) 3,some (8,true)),
 oP 46 41 45 false,
 oM 47 46,
 oM 48 1 (some (14,true)),
 oN 49 48 (some (14,true)),
 oF 50 59 49 9 (some (14,true)),
 oL 51 4 50 (some (14,true)),
 (some 52,.unOp .not 4 (.tmp 51),some (14,true)),
 oP 53 47 52 false,
 oA 0 53] :=by kernel_rfl
def WS:iB Try.f13=(.seq (.region 0 R5 false) (.seq (.region 1 R4 false) (.seq (.seq (.region 2 R1 false) (.block 0 (.loop (.seq (.seq (.region 3 RZ false) (.cond (.tmp 7) .skip (.exit 0))) (.seq (.block 1 (.region 5 MV false)) (.region 4 RY false)))))) (.seq (.seq (.region 6 MU false) (.block 2 (.loop (.seq (.seq (.region 7 MT false) (.cond (.tmp 20) .skip (.exit 2))) (.seq (.block 3 (.region 9 MR false)) (.region 8 MS false)))))) (.seq (.region 10 GW false) (.seq (.region 11 GV false) .ret)))))):=by kernel_rfl
def NH:Try.f13.body=some (iB Try.f13):=by kernel_rfl
def aeK:Try.f13.ntmps=54:=by kernel_rfl
def ZS:Try.f13.results= #[.tmp 0] :=by kernel_rfl
def QH(a:Tbd Tan)(w:Tam):(callFunc 13 a).run Try.prog w= .ok (.enter 13 a) w:=by
 unfold callFunc
 have b:Try.f13.name≠ "runtime.NumGoroutine" :=by decide+kernel
 simp[Try.func13,NH,b]
def Sj:=aT 0 Try.f10
def Si:=aT 1 Try.f10
def Sh:=aT 2 Try.f10
def M6:=aT 3 Try.f10
def M5:=aT 4 Try.f10
def Jb:=aT 5 Try.f10
def M4:=aT 6 Try.f10
def M0:=aT 7 Try.f10
def MZ:=aT 8 Try.f10
def CP:=aT 10 Try.f10
def MY:=aT 9 Try.f10
def HG:=aT 11 Try.f10
def HF:=aT 12 Try.f10
def HE:=aT 13 Try.f10
def HD:=aT 14 Try.f10
def HC:=aT 15 Try.f10
def HB:=aT 17 Try.f10
def HA:=aT 18 Try.f10
def Hz:=aT 19 Try.f10
def Hy:=aT 20 Try.f10
def Hx:=aT 21 Try.f10
def Hw:=aT 22 Try.f10
def Hv:=aT 23 Try.f10
def Hu:=aT 24 Try.f10
def Ht:=aT 25 Try.f10
def CO:=aT 16 Try.f10
def Hs:=aT 26 Try.f10
def Hr:=aT 27 Try.f10
def Hq:=aT 28 Try.f10
def Hp:=aT 29 Try.f10
def Ho:=aT 30 Try.f10
def Hm:=aT 32 Try.f10
def Hl:=aT 33 Try.f10
def Hn:=aT 31 Try.f10
def Hk:=aT 34 Try.f10
def Hj:=aT 35 Try.f10
def Hi:=aT 36 Try.f10
def Hh:=aT 37 Try.f10
def Hg:=aT 38 Try.f10
def Hf:=aT 39 Try.f10
def He:=aT 40 Try.f10
def Hd:=aT 41 Try.f10
def Hc:=aT 42 Try.f10
def Hb:=aT 43 Try.f10
def Ha:=aT 44 Try.f10
def G9:=aT 45 Try.f10
def kG:=aT 46 Try.f10
def G8:=aT 47 Try.f10
def G7:=aT 48 Try.f10
def G6:=aT 49 Try.f10
def gj:=aT 50 Try.f10
def G5:=aT 51 Try.f10
def G4:=aT 52 Try.f10
def G0:=aT 53 Try.f10
def GZ:=aT 54 Try.f10
def NW:=aT 55 Try.f10
def GY:=aT 56 Try.f10
def GX:=aT 57 Try.f10
def RE:bC Sj=[(some 3,.box 51 (.tmp 1),none)] :=by kernel_rfl
def RD:bC Si=[oF 22 51 3 1,
 oL 23 3 22,
 oM 24 0,
 oN 25 24,
 oF 26 59 25 1,
 oL 27 54 26,
 oE 28 27 54,
 oC 29 8 #[(.tmp 23),(.tmp 28)] #[3,3],
 oA 4 29] :=by kernel_rfl
def RC:bC Sh=[oF 30 51 3 0,
 oL 31 3 30,
 oC 32 8 #[(.tmp 31),(.const (.int .i64 12))] #[3,3]] :=by kernel_rfl
def RB:bC M6=[(some 34,.binOp .eql 3 (.tmp 32) (.const (.int .i64 0)) 3,none),
 oA 33 34] :=by kernel_rfl
def RA:bC M5=[(some 35,.binOp .eql 3 (.tmp 32) (.const (.int .i64 1)) 3,none),
 oA 33 35] :=by kernel_rfl
def aa1:bC Jb=[oM 36 0,
 oM 37 4,
 oM 38 0,
 oN 39 38,
 oF 40 59 39 1,
 oL 41 54 40,
 oM 42 4,
 oI 43 54 41 42,
 oL 44 52 43,
 oF 45 51 3 3,
 oF 46 49 45 8,
 oL 47 3 46,
 oC 48 15 #[(.tmp 44),(.tmp 47)] #[52,3],
 oC 49 14 #[(.tmp 36),(.tmp 37),(.tmp 48),(.const (.bool false))] #[24,3,75,4]] :=by kernel_rfl
def Rz:bC M4=[(some 51,.binOp .eql 3 (.tmp 32) (.const (.int .i64 2)) 3,none),
 oA 50 51] :=by kernel_rfl
def aa0:bC M0=[(some 5,.assign (.const (.int .i64 0)),none)] :=by kernel_rfl
def aaZ:bC MZ=[oM 52 5,
 (some 53,.binOp .lss 3 (.tmp 52) (.const (.int .i64 12)) 3,none)] :=by kernel_rfl
def Ww:bC CP=[oM 56 0,
 oM 57 4,
 oM 58 0,
 oN 59 58,
 oF 60 59 59 1,
 oL 61 54 60,
 oM 62 4,
 oI 63 54 61 62,
 oL 64 52 63,
 oF 65 51 3 3,
 oF 66 49 65 8,
 oL 67 3 66,
 oC 68 15 #[(.tmp 64),(.tmp 67)] #[52,3],
 oC 69 14 #[(.tmp 56),(.tmp 57),(.tmp 68),(.const (.bool false))] #[24,3,75,4]] :=by kernel_rfl
def aaY:bC MY=[oM 54 5,
 (some 55,.binOp .add 3 (.tmp 54) (.const (.int .i64 1)) 3,none),
 oA 5 55] :=by kernel_rfl
def NR:bC HG=[(some 71,.binOp .eql 3 (.tmp 32) (.const (.int .i64 3)) 3,none),
 oA 70 71] :=by kernel_rfl
def NP:bC HF=[(some 72,.binOp .eql 3 (.tmp 32) (.const (.int .i64 4)) 3,none),
 oA 70 72] :=by kernel_rfl
def NO:bC HE=[(some 73,.binOp .eql 3 (.tmp 32) (.const (.int .i64 5)) 3,none),
 oA 70 73] :=by kernel_rfl
def Wv:bC HD=[(some 6,.assign (.const (.int .i64 0)),none)] :=by kernel_rfl
def Wu:bC HC=[oM 74 6,
 oF 75 51 3 3,
 oF 76 49 75 4,
 oL 77 3 76,
 oC 78 8 #[(.tmp 77),(.const (.int .i64 4))] #[3,3],
 (some 79,.binOp .add 3 (.const (.int .i64 1)) (.tmp 78) 3,none),
 oB 80 .lss 3 74 79,
 oM 81 80,
 oM 82 0 (some (7,true)),
 oN 83 82 (some (7,true)),
 oF 84 59 83 3 (some (7,true)),
 oL 85 56 84 (some (7,true)),
 oE 86 85 56 (some (7,true)),
 (some 87,.binOp .gtr 3 (.tmp 86) (.const (.int .i64 0)) 3,some (7,true)),
 oP 88 81 87 false] :=by kernel_rfl
def Ws:bC HB=[oF 91 51 3 3,
 oF 92 49 91 8,
 oL 93 3 92,
 oM 94 6,
 oB 95 .add 3 93 94,
 oM 96 0,
 oN 97 96,
 oF 98 59 97 3,
 oL 99 56 98,
 oE 100 99 56,
 oC 101 8 #[(.tmp 95),(.tmp 100)] #[3,3],
 oA 7 101] :=by kernel_rfl
def Wr:bC HA=[oM 102 0,
 oN 103 102,
 oF 104 59 103 3,
 oL 105 56 104,
 oM 106 7,
 oI 107 56 105 106,
 oL 108 49 107,
 (some 8,.alloc 49,none),
 oS 49 8 108] :=by kernel_rfl
def Wq:bC Hz=[oF 109 51 3 3,
 oF 110 49 109 7,
 oL 111 4 110,
 (some 112,.unOp .not 4 (.tmp 111),none)] :=by kernel_rfl
def Wp:bC Hy=[(some 9,.assign (.const (.slice none 0 0)),none)] :=by kernel_rfl
def Wo:bC Hx=[oM 113 9,
 oM 114 0,
 oN 115 114,
 oF 116 59 115 3,
 oL 117 56 116,
 oM 118 7,
 (some 119,.slice 56 (.tmp 117) none (some (.tmp 118)) none,none),
 (some 120,.call {callee:=.builtin .append,args:= #[(.tmp 113),(.tmp 119)],argTypes:= #[56,56]},none),
 oA 9 120] :=by kernel_rfl
def Wn:bC Hw=[oM 121 9,
 oM 122 0,
 oN 123 122,
 oF 124 59 123 3,
 oL 125 56 124,
 oM 126 7,
 (some 127,.binOp .add 3 (.tmp 126) (.const (.int .i64 1)) 3,none),
 (some 128,.slice 56 (.tmp 125) (some (.tmp 127)) none none,none),
 (some 129,.call {callee:=.builtin .append,args:= #[(.tmp 121),(.tmp 128)],argTypes:= #[56,56]},none),
 oA 9 129] :=by kernel_rfl
def Wm:bC Hv=[oM 130 0,
 oM 131 9,
 oN 132 130,
 oF 133 59 132 3,
 oS 56 133 131] :=by kernel_rfl
def Wl:bC Hu=[oF 134 49 8 2,
 oL 135 3 134,
 (some 136,.binOp .geq 3 (.tmp 135) (.const (.int .i64 1)) 3,none),
 oM 137 136,
 oF 138 49 8 2 (some (3,true)),
 oL 139 3 138 (some (3,true)),
 oM 140 0 (some (3,true)),
 oN 141 140 (some (3,true)),
 oF 142 59 141 1 (some (3,true)),
 oL 143 54 142 (some (3,true)),
 oE 144 143 54 (some (3,true)),
 oB 145 .leq 3 139 144 (some (3,true)),
 oP 146 137 145 false] :=by kernel_rfl
def Wk:bC Ht=[oM 147 0,
 oF 148 49 8 2,
 oL 149 3 148,
 (some 150,.binOp .sub 3 (.tmp 149) (.const (.int .i64 1)) 3,none),
 oM 151 0,
 oN 152 151,
 oF 153 59 152 1,
 oL 154 54 153,
 oF 155 49 8 2,
 oL 156 3 155,
 (some 157,.binOp .sub 3 (.tmp 156) (.const (.int .i64 1)) 3,none),
 oI 158 54 154 157,
 oL 159 52 158,
 oL 160 49 8,
 oC 161 17 #[(.tmp 159),(.tmp 160)] #[52,49],
 oC 162 14 #[(.tmp 147),(.tmp 150),(.tmp 161),(.const (.bool false))] #[24,3,75,4]] :=by kernel_rfl
def Wt:bC CO=[oM 89 6,
 (some 90,.binOp .add 3 (.tmp 89) (.const (.int .i64 1)) 3,none),
 oA 6 90] :=by kernel_rfl
def NN:bC Hs=[(some 164,.binOp .eql 3 (.tmp 32) (.const (.int .i64 6)) 3,none),
 oA 163 164] :=by kernel_rfl
def Wj:bC Hr=[oM 165 0,
 oN 166 165,
 oF 167 59 166 3,
 oL 168 56 167,
 oA 10 168] :=by kernel_rfl
def Wi:bC Hq=[oM 169 0,
 oN 170 169,
 oF 171 59 170 3,
 (none,.store 56 (.tmp 171) (.const (.slice none 0 0)),none)] :=by kernel_rfl
def Wh:bC Hp=[(some 11,.assign (.const (.int .i64 0)),none)] :=by kernel_rfl
def Wg:bC Ho=[oM 172 11,
 oM 173 10,
 oE 174 173 56,
 oB 175 .lss 3 172 174] :=by kernel_rfl
def Wd:bC Hm=[oM 178 10,
 oM 179 11,
 oI 180 56 178 179,
 oF 181 49 180 2,
 oL 182 3 181,
 (some 183,.binOp .geq 3 (.tmp 182) (.const (.int .i64 1)) 3,none),
 oM 184 183,
 oM 185 10 (some (6,true)),
 oM 186 11 (some (6,true)),
 oI 187 56 185 186 (some (6,true)),
 oF 188 49 187 2 (some (6,true)),
 oL 189 3 188 (some (6,true)),
 oM 190 0 (some (6,true)),
 oN 191 190 (some (6,true)),
 oF 192 59 191 1 (some (6,true)),
 oL 193 54 192 (some (6,true)),
 oE 194 193 54 (some (6,true)),
 oB 195 .leq 3 189 194 (some (6,true)),
 oP 196 184 195 false] :=by kernel_rfl
def Wc:bC Hl=[oM 197 0,
 oM 198 10,
 oM 199 11,
 oI 200 56 198 199,
 oF 201 49 200 2,
 oL 202 3 201,
 (some 203,.binOp .sub 3 (.tmp 202) (.const (.int .i64 1)) 3,none),
 oM 204 0,
 oN 205 204,
 oF 206 59 205 1,
 oL 207 54 206,
 oM 208 10,
 oM 209 11,
 oI 210 56 208 209,
 oF 211 49 210 2,
 oL 212 3 211,
 (some 213,.binOp .sub 3 (.tmp 212) (.const (.int .i64 1)) 3,none),
 oI 214 54 207 213,
 oL 215 52 214,
 oM 216 10,
 oM 217 11,
 oI 218 56 216 217,
 oL 219 49 218,
 oC 220 17 #[(.tmp 215),(.tmp 219)] #[52,49],
 oC 221 14 #[(.tmp 197),(.tmp 203),(.tmp 220),(.const (.bool false))] #[24,3,75,4]] :=by kernel_rfl
def We:bC Hn=[oM 176 11,
 (some 177,.binOp .add 3 (.tmp 176) (.const (.int .i64 1)) 3,none),
 oA 11 177] :=by kernel_rfl
def Wb:bC Hk=[(some 223,.binOp .eql 3 (.tmp 32) (.const (.int .i64 7)) 3,none),
 oA 222 223] :=by kernel_rfl
def Wa:bC Hj=[oM 224 0,
 oN 225 224,
 oF 226 59 225 3,
 oL 227 56 226,
 oE 228 227 56,
 (some 229,.binOp .gtr 3 (.tmp 228) (.const (.int .i64 0)) 3,none)] :=by kernel_rfl
def V9:bC Hi=[oF 230 51 3 3,
 oF 231 49 230 8,
 oL 232 3 231,
 oM 233 0,
 oN 234 233,
 oF 235 59 234 3,
 oL 236 56 235,
 oE 237 236 56,
 oC 238 8 #[(.tmp 232),(.tmp 237)] #[3,3],
 oA 12 238] :=by kernel_rfl
def V8:bC Hh=[(some 13,.assign (.const (.slice none 0 0)),none)] :=by kernel_rfl
def V7:bC Hg=[oM 239 13,
 oM 240 0,
 oN 241 240,
 oF 242 59 241 3,
 oL 243 56 242,
 oM 244 12,
 (some 245,.slice 56 (.tmp 243) none (some (.tmp 244)) none,none),
 (some 246,.call {callee:=.builtin .append,args:= #[(.tmp 239),(.tmp 245)],argTypes:= #[56,56]},none),
 oA 13 246] :=by kernel_rfl
def V6:bC Hf=[oM 247 13,
 oM 248 0,
 oN 249 248,
 oF 250 59 249 3,
 oL 251 56 250,
 oM 252 12,
 (some 253,.binOp .add 3 (.tmp 252) (.const (.int .i64 1)) 3,none),
 (some 254,.slice 56 (.tmp 251) (some (.tmp 253)) none none,none),
 (some 255,.call {callee:=.builtin .append,args:= #[(.tmp 247),(.tmp 254)],argTypes:= #[56,56]},none),
 oA 13 255] :=by kernel_rfl
def V5:bC He=[oM 256 0,
 oM 257 13,
 oN 258 256,
 oF 259 59 258 3,
 oS 56 259 257] :=by kernel_rfl
def V4:bC Hd=[(some 261,.binOp .eql 3 (.tmp 32) (.const (.int .i64 8)) 3,none),
 oA 260 261] :=by kernel_rfl
def V3:bC Hc=[(some 262,.binOp .eql 3 (.tmp 32) (.const (.int .i64 9)) 3,none),
 oA 260 262] :=by kernel_rfl
def V2:bC Hb=[oF 263 51 3 3,
 oF 264 49 263 8,
 oL 265 3 264,
 (some 266,.build 34 #[(0,.tmp 265)],none),
 (some 267,.build 44 #[(0,.const (.int .i64 3)),(3,.tmp 266)],none),
 (some 14,.alloc 44,none),
 oS 44 14 267] :=by kernel_rfl
def V1:bC Ha=[oF 268 51 3 4,
 oF 269 44 268 0,
 oL 270 3 269,
 (some 271,.binOp .eql 3 (.tmp 270) (.const (.int .i64 2)) 3,none)] :=by kernel_rfl
def V0:bC G9=[oF 272 51 3 4,
 oL 273 44 272,
 oS 44 14 273] :=by kernel_rfl
def VZ:bC G8=[oM 287 0,
 oM 288 4,
 oL 289 75 17,
 oC 290 14 #[(.tmp 287),(.tmp 288),(.tmp 289),(.const (.bool false))] #[24,3,75,4]] :=by kernel_rfl
def VY:bC G7=[(some 292,.binOp .eql 3 (.tmp 32) (.const (.int .i64 10)) 3,none),
 oA 291 292] :=by kernel_rfl
def VX:bC G6=[oM 293 0,
 oN 294 293,
 oF 295 59 294 1,
 oL 296 54 295,
 oM 297 4,
 oI 298 54 296 297,
 oL 299 52 298,
 oC 300 12 #[(.tmp 299)] #[52],
 (some 18,.alloc 67,none),
 oS 67 18 300] :=by kernel_rfl
def VW:bC G5=[oM 324 0,
 oM 325 4,
 oL 326 75 20,
 oC 327 14 #[(.tmp 324),(.tmp 325),(.tmp 326),(.const (.bool false))] #[24,3,75,4]] :=by kernel_rfl
def VV:bC G4=[(some 329,.binOp .eql 3 (.tmp 32) (.const (.int .i64 11)) 3,none),
 oA 328 329] :=by kernel_rfl
def VU:bC G0=[oM 330 4,
 (some 331,.binOp .add 3 (.tmp 330) (.const (.int .i64 1)) 3,none),
 oM 332 0,
 oN 333 332,
 oF 334 59 333 0,
 oL 335 31 334,
 oM 336 0,
 oN 337 336,
 oF 338 59 337 2,
 oL 339 55 338,
 oM 340 4,
 oI 341 55 339 340,
 oL 342 65 341,
 oC 343 11 #[(.tmp 331),(.tmp 335),(.tmp 342)] #[3,31,65],
 oA 21 343] :=by kernel_rfl
def VT:bC GZ=[oM 344 21,
 (some 345,.binOp .eql 52 (.tmp 344) (.const (.pointer none)) 52,none)] :=by kernel_rfl
def VS:bC GY=[oM 349 0,
 oN 350 349,
 oF 351 59 350 1,
 oL 352 54 351,
 oM 353 4,
 oM 354 21,
 oI 355 54 352 353,
 oS 52 355 354] :=by kernel_rfl
def VR:bC GX=[oM 356 0,
 oM 357 4,
 oC 358 19 #[(.tmp 356),(.tmp 357)] #[24,3]] :=by kernel_rfl
def N9:iB Try.f10=(.seq (.region 0 Sj false) (.seq (.region 1 Si true) (.seq (.region 2 Sh false) (.block 0 (.seq (.seq (.region 3 M6 false) (.cond (.tmp 33) .skip (.region 4 M5 false))) (.cond (.tmp 33) (.region 5 Jb true) (.seq (.region 6 M4 false) (.cond (.tmp 50) (.seq (.region 7 M0 false) (.block 1 (.loop (.seq (.seq (.region 8 MZ false) (.cond (.tmp 53) .skip (.exit 1))) (.seq (.block 2 (.region 10 CP true)) (.region 9 MY false)))))) (.seq (.seq (.region 11 HG false) (.cond (.tmp 70) .skip (.seq (.region 12 HF false) (.cond (.tmp 70) .skip (.region 13 HE false))))) (.cond (.tmp 70) (.seq (.region 14 HD false) (.block 3 (.loop (.seq (.seq (.region 15 HC false) (.cond (.tmp 88) .skip (.exit 3))) (.seq (.block 4 (.seq (.region 17 HB true) (.seq (.region 18 HA false) (.seq (.seq (.region 19 Hz false) (.cond (.tmp 112) (.seq (.region 20 Hy false) (.seq (.region 21 Hx false) (.seq (.region 22 Hw false) (.region 23 Hv false)))) .skip)) (.seq (.region 24 Hu true) (.cond (.tmp 146) (.region 25 Ht true) .skip)))))) (.region 16 CO false)))))) (.seq (.region 26 Hs false) (.cond (.tmp 163) (.seq (.region 27 Hr false) (.seq (.region 28 Hq false) (.seq (.region 29 Hp false) (.block 5 (.loop (.seq (.seq (.region 30 Ho false) (.cond (.tmp 175) .skip (.exit 5))) (.seq (.block 6 (.seq (.region 32 Hm true) (.cond (.tmp 196) (.region 33 Hl true) .skip))) (.region 31 Hn false)))))))) (.seq (.region 34 Hk false) (.cond (.tmp 222) (.seq (.region 35 Hj false) (.cond (.tmp 229) (.seq (.region 36 Hi true) (.seq (.region 37 Hh false) (.seq (.region 38 Hg false) (.seq (.region 39 Hf false) (.region 40 He false))))) .skip)) (.seq (.seq (.region 41 Hd false) (.cond (.tmp 260) .skip (.region 42 Hc false))) (.cond (.tmp 260) (.seq (.region 43 Hb false) (.seq (.seq (.region 44 Ha false) (.cond (.tmp 271) (.region 45 G9 false) .skip)) (.seq (.region 46 kG true) (.region 47 G8 false)))) (.seq (.region 48 G7 false) (.cond (.tmp 291) (.seq (.region 49 G6 false) (.seq (.region 50 gj true) (.region 51 G5 false))) (.seq (.region 52 G4 false) (.cond (.tmp 328) (.seq (.region 53 G0 true) (.seq (.seq (.region 54 GZ false) (.cond (.tmp 345) (.seq (.region 55 NW false) .ret) .skip)) (.seq (.region 56 GY false) (.region 57 GX false)))) .skip)))))))))))))))))))):=by kernel_rfl
def Gw:Try.f10.body=some (iB Try.f10):=by kernel_rfl
def Zc:Try.f10.ntmps=359:=by kernel_rfl
def Ru:Try.f10.results= #[] :=by kernel_rfl
def JH(a:Tbd Tan)(w:Tam):(callFunc 10 a).run Try.prog w= .ok (.enter 10 a) w:=by
 unfold callFunc
 have b:Try.f10.name≠ "runtime.NumGoroutine" :=by decide+kernel
 simp[Try.func10,Gw,b]
def Sg:=aT 0 Try.f11
def Sf:=aT 1 Try.f11
def Sc:=aT 2 Try.f11
def MW:=aT 3 Try.f11
def abm:=aT 4 Try.f11
def Sb:=aT 5 Try.f11
def R9:=aT 6 Try.f11
def abl:=aT 7 Try.f11
def R8:=aT 8 Try.f11
def R6:=aT 9 Try.f11
def WC:=aT 10 Try.f11
def NV:=aT 11 Try.f11
def aaX:bC Sg=[(some 4,.box 31 (.tmp 1),none),
 (some 5,.box 65 (.tmp 2),none),
 (some 6,.assign (.const (.pointer none)),none)] :=by kernel_rfl
def aaW:bC Sf=[oM 13 0,
 oC 14 20 #[(.tmp 13),(.const (.int .i64 1)),(.const (.int .i64 5))] #[3,3,3],
 oM 15 14,
 oL 16 31 4 (some (2,true)),
 oC 17 21 #[(.tmp 16)] #[31] (some (2,true)),
 oP 18 15 17 false,
 oM 19 18,
 oF 20 65 5 0 (some (6,true)),
 oF 21 61 20 0 (some (6,true)),
 oL 22 3 21 (some (6,true)),
 oC 23 20 #[(.tmp 22),(.const (.int .i64 0)),(.const (.int .i64 1099511627776))] #[3,3,3] (some (6,true)),
 oP 24 19 23 false,
 oM 25 24,
 oF 26 65 5 0 (some (12,true)),
 oF 27 61 26 1 (some (12,true)),
 oL 28 3 27 (some (12,true)),
 oC 29 20 #[(.tmp 28),(.const (.int .i64 0)),(.const (.int .i64 1099511627776))] #[3,3,3] (some (12,true)),
 oP 30 25 29 false,
 oA 7 30] :=by kernel_rfl
def aaV:bC Sc=[oF 31 65 5 1,
 oF 32 63 31 0,
 oL 33 3 32,
 oF 34 65 5 1,
 oF 35 63 34 1,
 oL 36 3 35,
 oC 37 22 #[(.tmp 33),(.tmp 36)] #[3,3],
 oA 8 37] :=by kernel_rfl
def aaU:bC MW=[oM 38 7,
 (some 39,.unOp .not 4 (.tmp 38),none),
 oM 40 39,
 oM 41 8 (some (2,false)),
 (some 42,.binOp .eql 90 (.tmp 41) (.const (.pointer none)) 90,some (2,false)),
 (some 43,.pick (.tmp 40) (.const (.bool true)) (.tmp 42),none),
 oM 44 43,
 oF 45 65 5 1 (some (6,false)),
 oF 46 63 45 0 (some (6,false)),
 oL 47 3 46 (some (6,false)),
 (some 48,.binOp .gtr 3 (.tmp 47) (.const (.int .i64 0)) 3,some (6,false)),
 oM 49 48 (some (6,false)),
 oF 50 65 5 1 (some (11,true)),
 oF 51 63 50 2 (some (11,true)),
 oL 52 31 51 (some (11,true)),
 oC 53 21 #[(.tmp 52)] #[31] (some (11,true)),
 (some 54,.unOp .not 4 (.tmp 53),some (11,true)),
 oM 55 54 (some (11,true)),
 oF 56 65 5 1 (some (17,false)),
 oF 57 63 56 3 (some (17,false)),
 oL 58 27 57 (some (17,false)),
 oE 59 58 27 (some (17,false)),
 oC 60 20 #[(.tmp 59),(.const (.int .i64 1)),(.const (.int .i64 1048576))] #[3,3,3] (some (17,false)),
 (some 61,.unOp .not 4 (.tmp 60),some (17,false)),
 (some 62,.pick (.tmp 55) (.const (.bool true)) (.tmp 61),some (11,true)),
 oP 63 49 62 false (some (6,false)),
 (some 64,.pick (.tmp 44) (.const (.bool true)) (.tmp 63),none)] :=by kernel_rfl
def aaT:bC Sb=[oM 66 8,
 oF 67 65 5 1,
 oF 68 63 67 0,
 oL 69 3 68,
 oF 70 65 5 1,
 oF 71 63 70 1,
 oL 72 3 71,
 oF 73 65 5 2,
 oL 74 28 73,
 oC 75 23 #[(.tmp 66),(.tmp 69),(.tmp 72),(.tmp 74)] #[90,3,3,28],
 oM 65 75,
 (some 76,.extract (.tmp 65) 0,none),
 (some 77,.extract (.tmp 65) 1,none),
 oA 9 76,
 oA 10 77] :=by kernel_rfl
def aaS:bC R9=[oM 78 10,
 (some 79,.unOp .not 4 (.tmp 78),none),
 oM 80 79,
 oF 81 65 5 2 (some (2,false)),
 oL 82 28 81 (some (2,false)),
 oC 83 24 #[(.tmp 82)] #[28] (some (2,false)),
 (some 84,.unOp .not 4 (.tmp 83),some (2,false)),
 (some 85,.pick (.tmp 80) (.const (.bool true)) (.tmp 84),none)] :=by kernel_rfl
def aaR:bC R8=[oM 87 8,
 oC 88 25 #[(.tmp 87)] #[90],
 oM 86 88,
 (some 89,.extract (.tmp 86) 0,none),
 (some 90,.extract (.tmp 86) 1,none),
 oA 11 89,
 oA 12 90] :=by kernel_rfl
def aaQ:bC R6=[oM 91 12,
 oF 92 65 5 0,
 oF 93 61 92 0,
 oL 94 3 93,
 oB 95 .gtr 3 91 94] :=by kernel_rfl
def WT:iB Try.f11=(.seq (.region 0 Sg false) (.seq (.region 1 Sf false) (.seq (.region 2 Sc false) (.seq (.seq (.region 3 MW false) (.cond (.tmp 64) (.seq (.region 4 abm false) .ret) .skip)) (.seq (.seq (.region 5 Sb false) (.seq (.region 6 R9 false) (.cond (.tmp 85) (.seq (.region 7 abl false) .ret) .skip))) (.seq (.seq (.region 8 R8 false) (.seq (.region 9 R6 false) (.cond (.tmp 95) (.seq (.region 10 WC false) .ret) .skip))) (.seq (.region 11 NV true) .ret))))))):=by kernel_rfl
def NI:Try.f11.body=some (iB Try.f11):=by kernel_rfl
def aeL:Try.f11.ntmps=110:=by kernel_rfl
def ZT:Try.f11.results= #[.tmp 6] :=by kernel_rfl
def Dj(a:Tbd Tan)(w:Tam):(callFunc 11 a).run Try.prog w= .ok (.enter 11 a) w:=by
 unfold callFunc
 have b:Try.f11.name≠ "runtime.NumGoroutine" :=by decide+kernel
 simp[Try.func11,NI,b]
def UY:=aT 0 Try.f3
def UX:=aT 1 Try.f3
def UW:=aT 2 Try.f3
def UU:=aT 3 Try.f3
def UT:=aT 4 Try.f3
def UR:=aT 6 Try.f3
def UQ:=aT 7 Try.f3
def UP:=aT 8 Try.f3
def My:=aT 10 Try.f3
def Mx:=aT 11 Try.f3
def RM:=aT 12 Try.f3
def Mw:=aT 13 Try.f3
def Mv:=aT 14 Try.f3
def Mu:=aT 15 Try.f3
def RL:=aT 16 Try.f3
def UO:=aT 9 Try.f3
def US:=aT 5 Try.f3
def Mt:=aT 17 Try.f3
def aec:bC UY=[(some 4,.assign (.const (.bool false)),none)] :=by kernel_rfl
def aeb:bC UX=[oM 11 0,
 oC 12 8 #[(.tmp 11),(.const (.int .i64 5))] #[3,3],
 (some 13,.binOp .add 3 (.const (.int .i64 1)) (.tmp 12) 3,none),
 oA 0 13] :=by kernel_rfl
def aea:bC UW=[oM 14 0,
 oM 15 0,
 oC 16 9 #[(.tmp 14),(.tmp 15)] #[3,3],
 oA 5 16] :=by kernel_rfl
def ad9:bC UU=[(some 6,.assign (.const (.int .i64 0)),none)] :=by kernel_rfl
def ad8:bC UT=[oM 17 6,
 oM 18 1,
 oE 19 18 22,
 oB 20 .lss 3 17 19] :=by kernel_rfl
def ad6:bC UR=[oM 23 5,
 oM 24 1,
 oM 25 6,
 oI 26 22 24 25,
 oL 27 51 26,
 oC 28 10 #[(.tmp 23),(.tmp 27)] #[24,51]] :=by kernel_rfl
def ad5:bC UQ=[(some 7,.assign (.const (.int .i64 0)),none)] :=by kernel_rfl
def ad4:bC UP=[oM 29 7,
 oM 30 0,
 oB 31 .lss 3 29 30] :=by kernel_rfl
def aac:bC My=[oM 34 7,
 (some 35,.binOp .add 3 (.tmp 34) (.const (.int .i64 1)) 3,none),
 oM 36 5,
 oN 37 36,
 oF 38 59 37 0,
 oL 39 31 38,
 oM 40 5,
 oN 41 40,
 oF 42 59 41 2,
 oL 43 55 42,
 oM 44 7,
 oI 45 55 43 44,
 oL 46 65 45,
 oC 47 11 #[(.tmp 35),(.tmp 39),(.tmp 46)] #[3,31,65],
 oA 8 47] :=by kernel_rfl
def aab:bC Mx=[oM 48 8,
 (some 49,.binOp .eql 52 (.tmp 48) (.const (.pointer none)) 52,none)] :=by kernel_rfl
def aaa:bC Mw=[oM 50 8,
 oC 51 12 #[(.tmp 50)] #[52],
 (some 9,.alloc 67,none),
 oS 67 9 51] :=by kernel_rfl
def Z9:bC Mv=[oM 52 5,
 oN 53 52,
 oF 54 59 53 1,
 oL 55 54 54,
 oM 56 7,
 oI 57 54 55 56,
 oL 58 52 57,
 oC 59 12 #[(.tmp 58)] #[52],
 (some 10,.alloc 67,none),
 oS 67 10 59] :=by kernel_rfl
def Z8:bC Mu=[oF 60 67 9 2,
 oL 61 61 60,
 oF 62 67 10 2,
 oL 63 61 62,
 oB 64 .neq 61 61 63,
 oM 65 64,
 oF 66 67 9 4 (some (5,false)),
 oL 67 3 66 (some (5,false)),
 oF 68 67 10 4 (some (5,false)),
 oL 69 3 68 (some (5,false)),
 oB 70 .neq 3 67 69 (some (5,false)),
 (some 71,.pick (.tmp 65) (.const (.bool true)) (.tmp 70),none),
 oM 72 71,
 oF 73 67 9 5 (some (12,false)),
 oL 74 3 73 (some (12,false)),
 oF 75 67 10 5 (some (12,false)),
 oL 76 3 75 (some (12,false)),
 oB 77 .neq 3 74 76 (some (12,false)),
 (some 78,.pick (.tmp 72) (.const (.bool true)) (.tmp 77),none),
 oM 79 78,
 oF 80 67 9 3 (some (19,false)),
 oL 81 3 80 (some (19,false)),
 oF 82 67 10 3 (some (19,false)),
 oL 83 3 82 (some (19,false)),
 oB 84 .gtr 3 81 83 (some (19,false)),
 (some 85,.pick (.tmp 79) (.const (.bool true)) (.tmp 84),none)] :=by kernel_rfl
def ad3:bC UO=[oM 32 7,
 (some 33,.binOp .add 3 (.tmp 32) (.const (.int .i64 1)) 3,none),
 oA 7 33] :=by kernel_rfl
def ad7:bC US=[oM 21 6,
 (some 22,.binOp .add 3 (.tmp 21) (.const (.int .i64 1)) 3,none),
 oA 6 22] :=by kernel_rfl
def Z7:bC Mt=[oC 86 13 #[] #[],
 oA 4 86] :=by kernel_rfl
def Nk:iB Try.f3=(.seq (.region 0 UY false) (.seq (.region 1 UX false) (.seq (.region 2 UW false) (.seq (.seq (.region 3 UU false) (.block 0 (.loop (.seq (.seq (.region 4 UT false) (.cond (.tmp 20) .skip (.exit 0))) (.seq (.block 1 (.seq (.region 6 UR false) (.seq (.region 7 UQ false) (.block 2 (.loop (.seq (.seq (.region 8 UP false) (.cond (.tmp 31) .skip (.exit 2))) (.seq (.block 3 (.seq (.region 10 My true) (.seq (.seq (.region 11 Mx false) (.cond (.tmp 49) (.seq (.region 12 RM false) .ret) .skip)) (.seq (.region 13 Mw false) (.seq (.region 14 Mv false) (.seq (.region 15 Mu false) (.cond (.tmp 85) (.seq (.region 16 RL false) .ret) .skip))))))) (.region 9 UO false)))))))) (.region 5 US false)))))) (.seq (.region 17 Mt false) .ret))))):=by kernel_rfl
def Ro:Try.f3.body=some (iB Try.f3):=by kernel_rfl
def nt3:Try.f3.ntmps=87:=by kernel_rfl
def adR:Try.f3.results= #[.tmp 4] :=by kernel_rfl
def WJ(a:Tbd Tan)(w:Tam):(callFunc 3 a).run Try.prog w= .ok (.enter 3 a) w:=by
 unfold callFunc
 have b:Try.f3.name≠ "runtime.NumGoroutine" :=by decide+kernel
 simp[Try.func3,Ro,b]
def Ng:List ((Nat×Nat)×Nat):=[((31,0),0),((31,1),1),((44,0),0),((49,2),2),((49,3),3),((49,4),4),((49,7),7),((49,8),8),((51,0),0),((51,1),1),((51,3),3),((51,4),49),((59,0),0),((59,1),2),((59,2),3),((59,3),4),((59,4),5),((59,5),6),((59,6),7),((59,7),8),((59,9),10),((61,0),0),((61,1),1),((63,0),0),((63,1),1),((63,2),2),((63,3),4),((65,0),0),((65,1),2),((65,2),7),((67,0),0),((67,1),1),((67,2),2),((67,3),4),((67,4),5),((67,5),6),((75,0),0),((75,1),1),((75,2),3),((75,3),4),((75,4),5),((75,5),6),((78,0),0),((78,1),1),((78,2),2)]
def abC:(Ng.all fun x=>(lh Try.prog x.1.1 x.1.2).map (fun y=>(y.1.offset,decide (0<y.2)))==some (x.2,true))=true:=by kernel_rfl
def ae9{t f off:Nat}(h:lk Ng (t,f)=some off):(lh Try.prog t f).map (fun y=>(y.1.offset,decide (0<y.2)))=some (off,true):=by have:=bY.1 abC _ (iK h);simpa using this
end
attribute [local irreducible] TL
def Rr:Tah:=[22,27,28,29,54,56]
def ZG:(Rr.all fun t=>slB Try.prog t)=true:=by kernel_rfl
def Zg(m:Tab)(f:Callee):List Tbb->List Tba->Tao Tan
 | [x],[t] =>match f with
  |.builtin .len=>match lH m x with
   |some (.slice _ nn _)=>if Rr.contains t then some (.int .i64 nn) else none
   |_=>none
  |_=>none
 |_,_=>none
def smV(m:Tab):Op->Tao Tan
 |.move x=>lH m x
 |.assign x=>lH m x
 |.nilCheck x=>match lH m x with
  |some (.pointer (some ad))=>some (.pointer (some ad))
  |_=>none
 |.fieldAddr t x fl=>match lH m x with
  |some (.pointer (some ⟨b,o,none⟩))=>match lk Ng (t,fl) with
   |some off=>some (.pointer (some ⟨b,o+off,none⟩))
   |none=>none
  |_=>none
 |.call c=>Zg m c.callee c.args.toList c.argTypes.toList
 |_=>none
section
variable{ops:Tad}{Q:HP}{S:Tae}{n n0 i d:Nat}{a:Act}{w:Tam}{m:Tab}{gd:Tao (Nat×Bool)}{L r:List OK}{v:Tan}{x:Tbb}
def sm{op:Op}{b:Bool}(k:Kn n a m)(h: ∀y,Kn n y ((d,v)::m)->TL Try.prog ops Q S n0 L r (i+1) y w)(l:S w:=by assumption)(g:pL L m gd=some b:=by rfl)(j:d<n:=by decide)(e:(match b with|true=>smV m op|false=>some undef)=some v:=by rfl):TL Try.prog ops Q S n0 L ((some d,op,gd)::r) i a w:=by
 cases b with
 |false=>injection e with e;subst e;exact adJ k l g j h
 |true=>
 replace e:smV m op=some v:=e;unfold smV at e;split at e
 ·exact PN k l g j e h
 ·exact wN k l g j e h
 ·split at e
  ·rename_i o;injection e with e;subst e;exact Vh k l g j o h
  ·cases e
 ·split at e
  ·rename_i o;split at e
   ·rename_i q;injection e with e;subst e;exact ZC k l g j o (ae9 q) h
   ·cases e
  ·cases e
 ·rename_i c;obtain⟨f,⟨A⟩,⟨z⟩⟩:=c;unfold Zg at e;split at e
  ·rename_i x t D C;split at e
   ·rename_i q;split at e
    ·rename_i o;split at e
     ·rename_i B;injection e with e;subst e;have u:A=[x] :=D;have s:z=[t] :=C;have p:f= .builtin .len:=q;subst u s p;exact Gq k l g j o (bY.1 ZG t (by simpa using B)) h
     ·cases e
    ·cases e
   ·cases e
  ·cases e
 ·cases e
def ld{t:Tba}{c:Addr}(k:Kn n a m)(o: ∀b,S b->b.cell? c=some v)(h: ∀e,Kn n e ((d,v)::m)->TL Try.prog ops Q S n0 L r (i+1) e w)(q:S w:=by assumption)(j:pL L m gd=some true:=by rfl)(l:d<n:=by decide)(f:lH m x=some (.pointer (some c)):=by rfl)(p:iR Try.prog t=false:=by kernel_rfl)(g:(Try.prog.underlying t).isSome=true:=by kernel_rfl):TL Try.prog ops Q S n0 L ((some d,.load t x,gd)::r) i a w:=kr k q j l f p g o h
def pk{y z:Tbb}{c:Bool}(k:Kn n a m)(f:lH m x=some (.bool c))(e:lH m (if c then y else z)=some v)(h: ∀b,Kn n b ((d,v)::m)->TL Try.prog ops Q S n0 L r (i+1) b w)(l:S w:=by assumption)(g:pL L m gd=some true:=by rfl)(j:d<n:=by decide):TL Try.prog ops Q S n0 L ((some d,.pick x y z,gd)::r) i a w:=PM k l g j f e h
def cm{y:Tbb}{t t2:Tba}{b:BinOp}{kk:IntKind}{p q:Int}{c:Bool}(k:Kn n a m)(g:lH m x=some (.int kk p))(f:lH m y=some (.int kk q))(o:Gg b p q=some c)(h: ∀e,Kn n e ((d,.bool c)::m)->TL Try.prog ops Q S n0 L r (i+1) e w)(s:S w:=by assumption)(j:pL L m gd=some true:=by rfl)(l:d<n:=by decide):TL Try.prog ops Q S n0 L ((some d,.binOp b t x y t2,gd)::r) i a w:=Vk k s j l g f o h
def lN{t:Tba}{b off nn:Nat}{vs:Tac}(k:Kn n a m)(f:lH m x=some (.pointer (some ⟨b,off,none⟩)))(l:vs.length=nn)(q: ∀c,S c-> ∀(j:Nat) v,vs[j]? =some v->c.cell? ⟨b,off+j,none⟩=some v)(h: ∀e,Kn n e ((d,.agg vs.toArray)::m)->TL Try.prog ops Q S n0 L r (i+1) e w)(u:S w:=by assumption)(o:pL L m gd=some true:=by rfl)(p:d<n:=by decide)(g:iv Try.prog t=some nn:=by kernel_rfl)(s:iR Try.prog t=true:=by kernel_rfl):TL Try.prog ops Q S n0 L ((some d,.load t x,gd)::r) i a w:=Vi k u o p f g s l q h
def uN{y:Tbb}{t el:Tba}{b nn e sz s:Nat}{kk:IntKind}(k:Kn n a m)(j:lH m x=some (.slice (some ⟨b,0,none⟩) nn e))(g:lH m y=some (.int kk (s:Int)))(u:s<nn)(h: ∀f,Kn n f ((d,.pointer (some ⟨b,s*sz,none⟩))::m)->TL Try.prog ops Q S n0 L r (i+1) f w)(q:S w:=by assumption)(o:pL L m gd=some true:=by rfl)(p:d<n:=by decide)(l:Try.prog.underlying t=some (.slice el):=by kernel_rfl)(c:iv Try.prog el=some sz:=by kernel_rfl):TL Try.prog ops Q S n0 L ((some d,.indexAddr t x y,gd)::r) i a w:=Gr k q o p j g l c u h
def rg{id:Nat}{b:Bool}{f:HP}(X:Tai)(l:QP Q)(g:bC ops=L)(h: ∀e,uH w e->TL Try.prog ops f (SX X e) 0 L L 0 a e)(j:b=true->tOk ops 0=true:=by decide)(k: ∀c a w,f (.panic c) a w=Q (.panic c) a w:=by intro _ _ _;rfl):(Code.region id ops b).wp Try.prog f a w:=
 jj 0 X mix (fun c a d v w h=>by rw[k]at h⊢;exact l c a d v w h) g j h
end
def fK(l:Taf)(n:Int):Taf:=l++List.replicate (n+1-l.length).toNat (.int .i64 0)
def FJ{l:Taf}{n:Int}(h:(l.length:Int)<=n):fK (l++[.int .i64 0]) n=fK l n:=by unfold fK;rw[dN,ah,aZ];congr 1;rw[show(n+1-(l.length:Int)).toNat=(n+1-((l.length+1:Nat):Int)).toNat+1 by omega,List.replicate_succ];rfl
def FK{l:Taf}{n:Int}(h:n<(l.length:Int)):fK l n=l:=by unfold fK;rw[show(n+1-(l.length:Int)).toNat=0 by omega];simp
def K4:I6.bytes=8:=rfl
def tg{n:Nat}(h:n<=100000000):mK I6 n:=by refine⟨by simp only[maxLen];omega,?_⟩;rw[K4];omega
def xF{w:Tam}{S:bz}{ow:Ow}{iu:Nat}{v:Tan}{l:Taf}{n:Int}(h:dA w S ow iu 3 I6 v l)(C:Wf w S ow)(h0:0<=n)(hn:n<=1000000)(E:l.length<=2000000):
  Calls Try.prog 54 [v,.int .i64 n].toArray w fun e w'=> ∃B g,e= .returned B∧bD (iE iu) ax w S ow w' S g∧Wf w' S g∧dA w' S g iu 3 I6 B (fK l n)∧(fK l n).length<=2000001:=by
 refine kv Try.func54 NC WN aeG (by show 2<=13;omega) ?_;intro a k;have Q:=ju (P:=Try.prog) (fn:=Try.f54) (R:=fun e w'=> ∃B g,e= .returned B∧bD (iE iu) ax w S ow w' S g∧Wf w' S g∧dA w' S g iu 3 I6 B (fK l n)∧(fK l n).length<=2000001);refine wp_seq (rg ax Q Z6 ?_);intro I r;have O:=SX.refl ax I
 repeat refine sm k fun a k=> ?_
 refine ar ?_;have i:=bD.O r (iE iu) ax S ow;have f:Wf I S ow:=⟨fun b o G=>by rw[r.heap];exact C.s b o G,fun b l E=>by rw[r.heap];exact C.o b l E,C.d⟩;have h1:=h.J C (bD.O r ax ax S ow) (fun h=>h)
 refine wp_seq (wp_block (wp_loop_ghost (fun m a W=> ∃U t jY,m=(n+1-(t.length:Int)).toNat∧Kn 13 a [(0,U),(1,.int .i64 n)] ∧bD (iE iu) ax w S ow W S jY∧Wf W S jY∧dA W S jY iu 3 I6 U t∧fK t n=fK l n∧t.length<=2000001) (n+1-(l.length:Int)).toNat
  ⟨v,l,ow,rfl,k.sb,i,f,h1,rfl,by omega⟩ ?_))
 clear k i f h1 O r I;rintro m a W ⟨U,t,jY,rfl,k,Pn,JX,ho,hg,hlen⟩;obtain⟨A,a1,rfl⟩:=ho.slice;refine wp_seq (wp_seq (rg ax Q Z5 ?_));intro I r;have O:=SX.refl ax I
 repeat refine sm k fun a k=> ?_
 refine cm (c:=decide ((t.length:Int)<=n)) k rfl rfl rfl fun a k=> ?_;refine ar ?_;have i:=Pn.Cq C JX (bD.O r (iE iu) ax S jY) nE;have f:Wf I S jY:=⟨fun b o G=>by rw[r.heap];exact JX.s b o G,fun b l E=>by rw[r.heap];exact JX.o b l E,JX.d⟩;have N:=ho.J JX (bD.O r ax ax S jY) (fun h=>h);refine aV k rfl ?_;by_cases y:(t.length:Int)<=n
 ·rw[if_pos (by simpa using y)];refine wp_skip ?_;refine wp_block (rg (fun b=>jY b=some iu) Q Z4 ?_);intro F z;have O:=SX.refl (fun b=>jY b=some iu) F;have x:Wf F S jY:=⟨fun b o G=>by rw[z.heap];exact f.s b o G,fun b l E=>by rw[z.heap];exact f.o b l E,f.d⟩;have H:=N.J f (bD.O z ax ax S jY) (fun h=>h);have q:=i.Cq C f (bD.O z (iE iu) ax S jY) nE
  repeat refine sm k fun a k=> ?_
  refine mO (kk:=1) (T:=3) k (by decide) rfl (by decide) rfl (by kernel_rfl) rfl (fun _=>SX.alloc _ _ _) fun a k=> ?_;obtain⟨L,J⟩:=bD.alloc x (.cells (Value.int .i64 0).cells 3);have Y:=H.J x L (fun h=>h);refine nr k (by decide) rfl (by decide) fun ty a0 af=> ?_
  obtain⟨B,w',M,g,p,V,X⟩:=Y.Gj (P:=Try.prog) (tt:=29) (by kernel_rfl) rfl J ty F.heap.size (d:=.int .i64 0) ⟨0,rfl,by decide⟩ (us:=[.int .i64 0]) rfl (heap_alloc_new F _) (by
   intro j u c K y
   match j,K,y with
   |0,K,y=>injection K with K;injection y with y;subst K y;exact .int _ _) (tg (by omega))
  refine⟨B,w',iq (k.op rfl) (k.op rfl) M,fun _=>(SX.alloc _ _ _).trans (SX.iu (fun _ h=>h) p),fun a k=> ?_⟩;have s1:SX (fun b=>jY b=some iu) F w':=(SX.alloc _ _ _).trans (SX.iu (fun _ h=>h) p)
  repeat refine sm k fun a k=> ?_
  refine ar ?_;refine⟨_,?_,B,t++[.int .i64 0],g,rfl,k.sb,q.Cq C x (bD.trN x J L p nE) nE,V,X,(FJ y).trans hg,by rw[ah,aZ];omega⟩;rw[ah,aZ];omega
 ·rw[if_neg (by simpa using y)];refine wp_exit ?_;refine wp_seq (rg ax Q Z3 ?_);intro F z;have O:=SX.refl ax F
  repeat refine sm k fun a k=> ?_
  refine ar ?_;have q:=i.Cq C f (bD.O z (iE iu) ax S jY) nE;have Z:=FK (l:=t) (n:=n) (by omega);have H:=N.J f (bD.O z ax ax S jY) (fun h=>h);refine wp_ret (rH ZP k rfl ⟨_,jY,rfl,q,⟨fun b o G=>by rw[z.heap];exact f.s b o G,fun b l E=>by rw[z.heap];exact f.o b l E,f.d⟩,?_,?_⟩).1
  ·rw[<-hg,Z];exact H
  ·rw[<-hg,Z];exact hlen
def bX(g:GS)(i:Nat):RS:=g.eX.getD i dK
def qZ(l:Taf)(i:Nat):Int:=(l.getD i .top).q
def Es(i:Nat)(x:RS)(g:GS):GS:=
 let ld:=fK g.bM x.term;let a:=qZ ld x.term.toNat
 {g with bM:=ld.set x.term.toNat (.int .i64 (i+1)),bad:=g.bad||(a !=0&&a !=(i+1:Int))}
def rv(i:Nat)(x:RS)(g:GS):GS:=
 let l:=fK (g.bc.getD i []) x.term;let a:=qZ l x.term.toNat
 {g with bc:=g.bc.set i (l.set x.term.toNat (.int .i64 x.vote)),bad:=g.bad||(a !=0&&x.vote !=a)}
def mo(i:Nat)(g:GS):GS:=
 let x:=bX g i
 if x.term<qZ g.df i∨5000<x.term then{g with bad:=g.bad||decide (x.term<qZ g.df i)}
 else
  let a:=rv i x {g with df:=g.df.set i (.int .i64 x.term)}
  if x.role=2 then Es i x a else a
def LG(l:Nat):Prop:=l<60∨100<=l
structure tZ(g:GS):Prop where
 n5:g.eX.length<=5
 df:g.df.length=g.eX.length
 bc:g.bc.length=g.eX.length
 saved:g.saved.length=g.eX.length
 lead:g.bM.length<=2000000
 vl: ∀l∈g.bc,l.length<=2000000
def WG{d:D}(h:Has I6 d):d= .int .i64 d.q∧jo .i64 d.q:=by obtain⟨n,rfl,a⟩:=h;exact⟨rfl,a⟩
def vL{l:Taf}(h: ∀x∈l,Has I6 x){i:Nat}(hi:i<l.length):l[i]? =some (.int .i64 (qZ l i)):=by have e:l[i]? =some l[i] :=aQ hi;obtain⟨a,_⟩:=WG (h _ (bU e));rw[e];unfold qZ;rw[aj,e,br];exact congrArg some a
def GM.yF{w:Tam}{S:bz}{ow:Ow}{b:Nat}{R:GR}{g:GS}{c:Bool}(h:GM w S ow b (R.cells c) R g)(v:Bool):bD (iE 0) ax w S ow (w.setRow b ((R.cells c).set 10 (.bool v)).toArray) S ow∧GM (w.setRow b ((R.cells c).set 10 (.bool v)).toArray) S ow b (R.cells v) R {g with bad:=v}:=by obtain⟨d,f,e⟩:=h.obj.set h.wf (us:=(R.cells c).set 10 (.bool v));have:=h.setObj d f e;exact⟨d,this.wf,this.obj,this.fv,this.fl,this.arr,this.qF,this.eX,this.saved,this.eE,this.told,this.bM,this.df,this.read,this.qP,this.xg,this.oU⟩
def qK(w:Tam)(S:bz)(ow:Ow)(b:Nat)(g':GS)(e:Ending)(w':Tam):Prop:= ∃d c,e= .returned (.tuple #[])∧bD LG ax w S ow w' d c∧kg w' d c b g'
def EU(w:Tam)(S:bz)(ow:Ow)(b:Nat)(g':GS):HP:=bodyPost Try.prog Try.f19 (qK w S ow b g')
def yG(x:RS)(v1 v2:Tan):Tac:=[.int .i64 x.role,.int .i64 x.bM,.int .i64 x.term,.int .i64 x.vote,.int .i64 x.bF,.int .i64 (x.li+x.le.length),.int .i64 x.li,v1,v2]
section
variable{w0 w:Tam}{S0 S:bz}{ko ow:Ow}{b b4 i:Nat}{g0 g g':GS}{R:GR}{x:RS}{v1 v2:Tan}{Q:HP}{a:Act}
def ET(G:QP Q)(j: ∀a w,EU w0 S0 ko b g' .ret a w->Q .ret a w)(f:Wf w0 S0 ko)(A:bD LG ax w0 S0 ko w S ow)(t:GM w S ow b (R.cells g.bad) R g)(p:R.la=R.lb)(o:R.va=R.vv)(B:fG w S ow b4 67 (yG x v1 v2))(l:i<g.df.length)(F:g'={g with bad:=g.bad||decide (x.term<qZ g.df i)})(k:Kn 160 a [(4,.pointer (some ⟨b4,0,none⟩)),(0,az b),(1,.int .i64 i)]):
  (Code.seq (.region 2 Ja true) .ret).wp Try.prog Q a w:=by
 have D:=vL (fun y C=>t.df.all y C) l;refine wp_seq (jj (n0:=18) ax mix (by exact G) aat (fun _=>by kernel_rfl) ?_);intro w1 u;have d:=t.O u;have e:=B.O u;have n:=A.W f t.wf u;have J:=SX.refl ax w1;obtain⟨K,v,s,r,E,q⟩:=dA.vK d.df D
 repeat (first|refine sm k fun a k=> ?_|refine ld k (e.cell id rfl) fun a k=> ?_|refine ld k (d.cell id rfl) fun a k=> ?_)
 have m: ∀(z:List OK) (a:Act),Kn 160 a [(51,.pointer (some ⟨b,10,none⟩)),(49,.bool (g.bad||decide (x.term<qZ g.df i)))] ->TL Try.prog Ja (Exit.then (Code.wp Try.prog Code.ret Q) Q) (SX ax w1) 18 z [oS 4 51 49] 20 a w1:=by intro z a k;refine jE (cur:=R.cells g.bad) k (by decide) rfl (by kernel_rfl) rfl rfl rfl d.obj.heap (by show 10<11;omega) rfl (fun h=>absurd rfl h) fun a k=> ?_;refine ar (wp_ret (j _ _ (lP Mj k ?_).1));obtain⟨I,H⟩:=d.yF (g.bad||decide (x.term<qZ g.df i));exact⟨S,ow,rfl,n.eY f d.wf I (.inl (by decide)),R,by rw[F];exact H,p,o⟩
 cases hb:g.bad with
 |true=>
  rw[hb]at k
  repeat (first|refine sm k fun a k=> ?_|refine ld k (e.cell id rfl) fun a k=> ?_|refine ld k (d.cell id rfl) fun a k=> ?_)
  refine pk k rfl rfl fun a k=> ?_
  repeat (first|refine sm k fun a k=> ?_|refine ld k (e.cell id rfl) fun a k=> ?_|refine ld k (d.cell id rfl) fun a k=> ?_)
  refine m _ a (k.sub ⟨rfl,?_,trivial⟩);rw[hb];rfl
 |false=>
  rw[hb]at k
  repeat (first|refine sm k fun a k=> ?_|refine ld k (e.cell id rfl) fun a k=> ?_|refine ld k (d.cell id rfl) fun a k=> ?_)
  rw[s]at k;refine uN (el:=3) (sz:=1) k rfl rfl l fun a k=> ?_;refine ld k (eF r (fun h=>h) q) fun a k=> ?_;refine cm (c:=decide (x.term<qZ g.df i)) k rfl rfl rfl fun a k=> ?_;refine pk k rfl rfl fun a k=> ?_
  repeat (first|refine sm k fun a k=> ?_|refine ld k (e.cell id rfl) fun a k=> ?_|refine ld k (d.cell id rfl) fun a k=> ?_)
  refine m _ a (k.sub ⟨rfl,?_,trivial⟩);rw[hb];rfl
end
def iC{n:Int}(e:0<=n)(h:n<=4000000000000000000):jo .i64 n:=by
 have d:i64.min= -9223372036854775808:=by decide
 have c:i64.max=9223372036854775807:=by decide
 exact⟨by rw[d];omega,by rw[c];omega⟩
def E3{l:Taf}{n:Int}(h:0<=n):n.toNat<(fK l n).length:=by unfold fK;rw[ah,List.length_replicate];omega
def Dc{n:Int}: ∀(j:Nat) u c,[Value.int .i64 n][j]? =some u->(D.int .i64 n).cells[j]? =some c-> ∀{w:Tam} {S:bz},ca w S u c:=by
 intro j u c d e w S
 match j,d,e with
 |0,d,e=>injection d with d;injection e with e;subst d e;exact .int _ _
section
variable{w0 w:Tam}{S0 S:bz}{ko ow:Ow}{b b4 i:Nat}{g0 g g':GS}{R:GR}{x:RS}{v1 v2:Tan}{Q:HP}{a:Act}
def KN(hQ:QP Q)(a1: ∀a w,EU w0 S0 ko b g' .normal a w->Q .normal a w)(m:Wf w0 S0 ko)(st:bD LG ax w0 S0 ko w S ow)(L:GM w S ow b (R.cells g.bad) R g)(b7:R.la=R.lb)(b3:R.va=R.vv)(lx:fG w S ow b4 67 (yG x v1 v2))(I:0<=x.term)(c0:x.term<=5000)(b6:g.bM.length<=2000000)(hi:i<5)(hg:g'=Es i x g)(k:Kn 160 a [(4,.pointer (some ⟨b4,0,none⟩)),(0,az b),(1,.int .i64 i)]):
  (Code.seq (.region 10 CL true) (.seq (.region 11 CK true) (.seq (.seq (.region 12 CJ false) (.cond (.tmp 146) (.region 13 CI false) .skip)) (.region 14 zf true)))).wp Try.prog Q a w:=by
 refine wp_seq (jj (n0:=8) (fun bb=>ow bb=some 13) mix (by exact hQ) VH (fun _=>by kernel_rfl) ?_);intro w1 e1;have p:=L.O e1;have H:=lx.O e1;have b0:=st.W m L.wf e1;have N:=SX.refl (fun bb=>ow bb=some 13) w1;have U: ¬ow b=some 13:=by rw[p.obj.ow];decide
 have V: ¬ow b4=some 13:=by rw[H.ow];decide
 repeat (first|refine sm k fun a k=> ?_|refine ld k (H.cell V rfl) fun a k=> ?_|refine ld k (p.cell U rfl) fun a k=> ?_)
 refine gH (vs:=[R.bM,.int .i64 x.term]) k (by decide) rfl (by decide) JF rfl (xF p.bM p.wf I (by omega) b6) ?_;rintro e w2 ⟨v',bR,rfl,mZ,uF,LD,hlen⟩;obtain⟨Av,cv,a0⟩:=LD.slice;refine⟨_,rfl,fun _=>SX.iu (fun _ h=>h) mZ,fun a k=> ?_⟩;have s1:=SX.iu (X:=fun bb=>ow bb=some 13) (fun _ h=>h) mZ;have D:=p.Ao mZ uF LD;have T:=H.J mZ id;have F:=b0.eY m p.wf mZ (.inl (by decide))
 repeat refine sm k fun a k=> ?_
 refine jE (cur:=R.cells g.bad) k (by decide) rfl (by kernel_rfl) rfl rfl (by rw[a0];rfl) D.obj.heap (by show 6<11;omega) (by rw[a0];rfl) (fun h=>absurd rfl h) fun a k=> ?_;refine ar ?_;obtain⟨z,Z,a3⟩:=D.obj.set uF (us:=(R.cells g.bad).set 6 v');have C:GM _ S bR b ({R with bM:=v'}.cells g.bad) {R with bM:=v'} {g with bM:=fK g.bM x.term}:=D.setObj z Z a3;have P:=T.J z id;have E:=F.eY m uF z (.inl (by decide));have k:=k.sb (l:=[(4,.pointer (some ⟨b4,0,none⟩)),(0,az b),(1,.int .i64 i)]);generalize w2.setRow b _=w3 at C P E⊢;clear z Z a3 F T D s1 mZ uF LD N U V;have A:=E3 (l:=g.bM) I;have b8:=vL (fun y hy=>C.bM.all y hy) A;have hN:((x.term.toNat:Nat):Int)=x.term:=Int.toNat_of_nonneg I;refine wp_seq (jj (n0:=9) ax mix (by exact hQ) VG (fun _=>by kernel_rfl) ?_);intro w4 e4;have B:=C.O e4;have O:=P.O e4;have a9:=E.W m C.wf e4;have N:=SX.refl ax w4
 repeat (first|refine sm k fun a k=> ?_|refine ld k (O.cell id rfl) fun a k=> ?_|refine ld k (B.cell id rfl) fun a k=> ?_)
 obtain⟨bt,a7,o,J,a2,a6⟩:=dA.vK B.bM b8;rw[show({R with bM:=v'}:GR).bM=v' from rfl]at o;rw[<-hN]at k;rw[o]at k;refine uN (el:=3) (sz:=1) k rfl rfl A fun a k=> ?_;refine ld k (eF J (fun h=>h) a6) fun a k=> ?_
 repeat refine sm k fun a k=> ?_
 refine ar ?_;have k:=k.sb (l:=[(6,.int .i64 (qZ (fK g.bM x.term) x.term.toNat)),(4,.pointer (some ⟨b4,0,none⟩)),(0,az b),(1,.int .i64 i)]);generalize Y:qZ (fK g.bM x.term) x.term.toNat=n at k;clear o J a2 a6;have G:i64.wrap ((i:Int)+1)=i+1:=wrap64 (by omega) (by omega)
 have t: ∀(a:Act) (W:Tam) (c:Bool) (L:GM W S bR b ({R with bM:=v'}.cells c) {R with bM:=v'} {g with bM:=fK g.bM x.term,bad:=c}) (lx:fG W S bR b4 67 (yG x v1 v2)) (st:bD LG ax w0 S0 ko W S bR),
   c=(g.bad||(n !=0&&n !=(i+1:Int)))->Kn 160 a [(4,.pointer (some ⟨b4,0,none⟩)),(0,az b),(1,.int .i64 i)] ->(Code.region 14 zf true).wp Try.prog Q a W:=by
  intro a W c L lx st hc k;refine jj (n0:=10) ax mix hQ VD (fun _=>by kernel_rfl) ?_;intro w5 K;have f:=L.O K;have r:=lx.O K;have q:=st.W m L.wf K;have N:=SX.refl ax w5
  repeat (first|refine sm k fun a k=> ?_|refine ld k (r.cell id rfl) fun a k=> ?_|refine ld k (f.cell id rfl) fun a k=> ?_)
  refine ik (s:=(i:Int)+1) k (by assumption) rfl (by decide) rfl rfl G fun a k=> ?_;obtain⟨bt,a7,b9,o,a5,a4,J,a2,M,b2,b5⟩:=f.bM.set (i:=x.term.toNat) (d:=.int .i64 (i+1)) (us:=[.int .i64 (i+1)]) f.wf A ⟨_,rfl,iC (by omega) (by omega)⟩ rfl (fun j u c h1 h2=>Dc j u c h1 h2);rw[show({R with bM:=v'}:GR).bM=v' from rfl]at o;rw[<-hN]at k;rw[o]at k;refine uN (el:=3) (sz:=1) k rfl rfl A fun a k=> ?_;refine jU (vs:=[.int .i64 (i+1)]) (cur:=b9) k (by decide) rfl (by kernel_rfl) rfl rfl rfl a5 a4 (by simp[Value.oneCell']) (fun h=>absurd rfl h) fun a k=> ?_;refine ar (a1 _ _ (lP Mj k ?_).2);have v:=f.Ao M b2 b5;refine⟨S,bR,rfl,q.eY m f.wf M (.inl (by decide)),{R with bM:=v'},?_,b7,b3⟩;rw[hg]
  have:Es i x g={g with bM:=(fK g.bM x.term).set x.term.toNat (.int .i64 (i+1)),bad:=c}:=by unfold Es;simp only;rw[Y,hc]
  rw[this];exact v
 refine wp_seq (wp_seq (rg ax hQ VF ?_));intro w5 K;have f:=B.O K;have r:=O.O K;have q:=a9.W m B.wf K;have N:=SX.refl ax w5
 repeat refine sm k fun a k=> ?_
 by_cases hz:n=0
 ·refine cm (c:=false) k rfl rfl (by rw[hz];rfl) fun a k=> ?_
  repeat refine sm k fun a k=> ?_
  refine pk k rfl rfl fun a k=> ?_;refine ar (aV k rfl (wp_skip ?_));exact t _ _ g.bad f r q (by rw[hz];cases g.bad<;>rfl) (k.sb)
 ·refine cm (c:=true) k rfl rfl (congrArg some (by simpa using hz)) fun a k=> ?_
  repeat refine sm k fun a k=> ?_
  refine ik (s:=(i:Int)+1) k (by assumption) rfl (by decide) rfl rfl G fun a k=> ?_;refine cm (c:=n !=(i+1:Int)) k rfl rfl rfl fun a k=> ?_;refine pk k rfl rfl fun a k=> ?_;refine ar (aV k rfl ?_);by_cases hq:(n !=(i+1:Int))=true
  ·rw[if_pos hq];refine rg ax hQ VE ?_;intro w6 e6;have v:=f.O e6;have b1:=r.O e6;have a8:=q.W m f.wf e6;have N:=SX.refl ax w6
   repeat refine sm k fun a k=> ?_
   refine jE (cur:={R with bM:=v'}.cells g.bad) k (by decide) rfl (by kernel_rfl) rfl rfl rfl v.obj.heap (by show 10<11;omega) rfl (fun h=>absurd rfl h) fun a k=> ?_;obtain⟨h1,h2⟩:=v.yF true;refine ar (t _ _ true h2 (b1.J h1 id) (a8.eY m v.wf h1 (.inl (by decide))) ?_ (k.sb));rw[hq,show(n !=0)=true by simpa using hz];cases g.bad<;>rfl
  ·rw[if_neg hq];refine wp_skip (t _ _ g.bad f r q ?_ (k.sb));rw[show(n !=(i+1:Int))=false by simpa using hq];cases g.bad<;>simp
end
section
variable{w0 w:Tam}{S0 S:bz}{ko ow:Ow}{b b4 i:Nat}{g0 g g':GS}{R:GR}{x:RS}{v1 v2:Tan}{Q:HP}{a:Act}
noncomputable def vH:Code:=.seq (.region 9 MD false) (.cond (.tmp 118) (.seq (.region 10 CL true) (.seq (.region 11 CK true) (.seq (.seq (.region 12 CJ false) (.cond (.tmp 146) (.region 13 CI false) .skip)) (.region 14 zf true)))) .skip)
def KM(hQ:QP Q)(b9: ∀a w S ow R,Kn 160 a [(4,.pointer (some ⟨b4,0,none⟩)),(0,az b),(1,.int .i64 i)] ->bD LG ax w0 S0 ko w S ow->GM w S ow b (R.cells (rv i x g).bad) R (rv i x g)->R.la=R.lb->R.va=R.vv->fG w S ow b4 67 (yG x v1 v2)->vH.wp Try.prog Q a w)(m:Wf w0 S0 ko)(st:bD LG ax w0 S0 ko w S ow)(gm:GM w S ow b (R.cells g.bad) R g)(d9:R.la=R.lb)(a5:R.va=R.vv)(lx:fG w S ow b4 67 (yG x v1 v2))(a6:0<=x.term)(e7:x.term<=5000)(d6: ∀l∈g.bc,l.length<=2000000)(hi:i<g.bc.length)(e8:i<5)(d5:jo .i64 x.vote)(k:Kn 160 a [(4,.pointer (some ⟨b4,0,none⟩)),(0,az b),(1,.int .i64 i)]):
  (Code.seq (.region 4 MH true) (.seq (.region 5 MG true) (.seq (.seq (.region 6 MF false) (.cond (.tmp 98) (.region 7 ME false) .skip)) (.seq (.region 8 I9 true) vH)))).wp Try.prog Q a w:=by
 obtain⟨l,a7⟩: ∃l,g.bc[i]? =some l:=⟨_,aQ hi⟩;have e0:g.bc.getD i [] =l:=by rw[aj,a7,br]
 have d8:=d6 l (bU a7);refine wp_seq (jj (n0:=15) (fun bb=>ow bb=some (100+i)) mix (by exact hQ) aar (fun _=>by kernel_rfl) ?_);intro w1 e1;have p:=gm.O e1;have O:=lx.O e1;have d1:=st.W m gm.wf e1;have s0:=SX.refl (fun bb=>ow bb=some (100+i)) w1;have a3: ¬ow b=some (100+i):=by rw[p.obj.ow];intro e;injection e with e;omega
 have a4: ¬ow b4=some (100+i):=by rw[O.ow];intro e;cases e
 obtain⟨v,o,t⟩:=p.oU i l a7;obtain⟨bv,a0,s,A,J,z⟩:=p.qP.elem (i:=i) (u:=v) (by rw[a5];exact o);have n:R.va.length=g.bc.length:=by rw[a5];exact p.xg
 have b3: ¬ow bv=some (100+i):=by rw[J];intro e;injection e with e;omega
 repeat (first|refine sm k fun a k=> ?_|refine ld k (O.cell a4 rfl) fun a k=> ?_|refine ld k (p.cell a3 rfl) fun a k=> ?_)
 rw[s]at k;refine uN (el:=29) (sz:=1) k rfl rfl (by rw[n];exact hi) fun a k=> ?_;refine kr k (by assumption) rfl (by decide) rfl (by kernel_rfl) (by kernel_rfl) (eF A b3 (by rw[bG];exact z)) fun a k=> ?_
 repeat (first|refine sm k fun a k=> ?_|refine ld k (O.cell a4 rfl) fun a k=> ?_|refine ld k (p.cell a3 rfl) fun a k=> ?_)
 refine gH (vs:=[v,.int .i64 x.term]) k (by decide) rfl (by decide) JF rfl (xF t p.wf a6 (by omega) d8) ?_;rintro e w2 ⟨v',bR,rfl,mZ,uF,LD,hlen⟩;obtain⟨Av,cv,b7⟩:=LD.slice;refine⟨_,rfl,fun _=>SX.iu (fun _ h=>h) mZ,fun a k=> ?_⟩;have s1:=SX.iu (X:=fun bb=>ow bb=some (100+i)) (fun _ h=>h) mZ;have a9:=p.Jk mZ uF hi LD (by omega);have b2:=O.J mZ id;have V:=d1.eY m p.wf mZ (.inr (by omega));refine uN (el:=29) (sz:=1) k rfl rfl (by rw[n];exact hi) fun a k=> ?_;obtain⟨e9,e3,b0,Z,E,D,c6,c1,N,b6,b8⟩:=a9.qP.set (i:=i) (u:=v') uF (by show i<R.va.length;rw[n];exact hi);have K:R.bc=_:=Z;rw[s]at K;injection K with M _ h3;injection M with M;injection M with M _;subst M;rw[bG]at k;refine jU (vs:=[v']) (cur:=b0) k (by decide) rfl (by kernel_rfl) rfl rfl (by rw[b7];rfl) E D (by rw[b7];simp[Value.oneCell']) (fun h=>absurd rfl h) fun a k=> ?_;refine ar ?_;have L:=a9.NJ N b6 b8;have b1:=b2.J N id;have U:=V.eY m uF N (.inl (by decide));have k:=k.sb (l:=[(4,.pointer (some ⟨b4,0,none⟩)),(0,az b),(1,.int .i64 i)]);have P:=E3 (l:=l) a6;have e2:=vL (fun y hy=>LD.all y hy) P;have hN:((x.term.toNat:Nat):Int)=x.term:=Int.toNat_of_nonneg a6;have F: ∃R3:GR,R3=({R with bc:=R.bc,va:=R.va.set i v',vv:=R.vv.set i v'}:GR):=⟨_,rfl⟩;obtain⟨R3,F⟩:=F;generalize w2.setRow bv _=w3 at L b1 U⊢;have L:GM w3 S bR b (R3.cells g.bad) R3 {g with bc:=g.bc.set i (fK l x.term)}:=by rw[F];exact L
 have c2:R3.la=R3.lb:=by rw[F];exact d9
 have r:R3.va=R3.vv:=by rw[F];show R.va.set i v'=R.vv.set i v';rw[a5]
 have Y:({g with bc:=g.bc.set i (fK l x.term)}:GS).bc[i]? =some (fK l x.term):=by show(g.bc.set i (fK l x.term))[i]? =_;rw[bI,if_pos rfl,if_pos hi]
 clear F;clear b8 N b6 E D Z c1 c6 V b2 a9 s1 mZ LD s0 a3 a4 s A J z n b3 t o;refine wp_seq (jj (n0:=12) ax mix (by exact hQ) aaq (fun _=>by kernel_rfl) ?_);intro w4 e4;have C:=L.O e4;have a2:=b1.O e4;have d0:=U.W m L.wf e4;have s0:=SX.refl ax w4;obtain⟨v4,o,t⟩:=C.oU i _ Y;obtain⟨bv,a0,s,A,J,z⟩:=C.qP.elem (i:=i) (u:=v4) (by rw[r];exact o);have n:R3.va.length=g.bc.length:=by rw[r,C.xg];show(g.bc.set i _).length=_;rw[aM]
 obtain⟨bt,c7,T,a8,c0,c5⟩:=dA.vK t e2
 repeat (first|refine sm k fun a k=> ?_|refine ld k (a2.cell id rfl) fun a k=> ?_|refine ld k (C.cell id rfl) fun a k=> ?_)
 rw[s]at k;refine uN (el:=29) (sz:=1) k rfl rfl (by rw[n];exact hi) fun a k=> ?_;refine kr (v:=v4) k (by assumption) rfl (by decide) rfl (by kernel_rfl) (by kernel_rfl) (eF A (fun h=>h) (by rw[bG];exact z)) fun a k=> ?_
 repeat (first|refine sm k fun a k=> ?_|refine ld k (a2.cell id rfl) fun a k=> ?_|refine ld k (C.cell id rfl) fun a k=> ?_)
 rw[<-hN]at k;rw[T]at k;refine uN (el:=3) (sz:=1) k rfl rfl P fun a k=> ?_;refine ld k (eF a8 (fun h=>h) c5) fun a k=> ?_
 repeat refine sm k fun a k=> ?_
 refine ar ?_;have k:=k.sb (l:=[(5,.int .i64 (qZ (fK l x.term) x.term.toNat)),(4,.pointer (some ⟨b4,0,none⟩)),(0,az b),(1,.int .i64 i)]);generalize b5:qZ (fK l x.term) x.term.toNat=B at k;clear T a8 c0 c5 s A J z n t o s0
 have I: ∀(a:Act) (W:Tam) (c:Bool) (gm:GM W S bR b (R3.cells c) R3 {g with bc:=g.bc.set i (fK l x.term),bad:=c}) (lx:fG W S bR b4 67 (yG x v1 v2)) (st:bD LG ax w0 S0 ko W S bR),
   c=(g.bad||(B !=0&&x.vote !=B))->Kn 160 a [(4,.pointer (some ⟨b4,0,none⟩)),(0,az b),(1,.int .i64 i)] ->(Code.seq (.region 8 I9 true) vH).wp Try.prog Q a W:=by
  intro a W c gm lx st hc k;refine wp_seq (jj (n0:=13) ax mix (by exact hQ) aan (fun _=>by kernel_rfl) ?_);intro w5 e5;have f:=gm.O e5;have q:=lx.O e5;have H:=st.W m gm.wf e5;have s0:=SX.refl ax w5;obtain⟨v5,o,t⟩:=f.oU i (fK l x.term) Y;obtain⟨bv,a0,s,A,J,z⟩:=f.qP.elem (i:=i) (u:=v5) (by rw[r];exact o);have n:R3.va.length=g.bc.length:=by rw[r,f.xg];show(g.bc.set i _).length=_;rw[aM]
  obtain⟨bt,c7,b0,T,E,D,a8,c0,a1,d3,d7⟩:=t.set (i:=x.term.toNat) (d:=.int .i64 x.vote) (us:=[.int .i64 x.vote]) f.wf P ⟨_,rfl,d5⟩ rfl (fun j u c M h2=>Dc j u c M h2)
  repeat (first|refine sm k fun a k=> ?_|refine ld k (q.cell id rfl) fun a k=> ?_|refine ld k (f.cell id rfl) fun a k=> ?_)
  rw[s]at k;refine uN (el:=29) (sz:=1) k rfl rfl (by rw[n];exact hi) fun a k=> ?_;refine kr (v:=v5) k (by assumption) rfl (by decide) rfl (by kernel_rfl) (by kernel_rfl) (eF A (fun h=>h) (by rw[bG];exact z)) fun a k=> ?_
  repeat (first|refine sm k fun a k=> ?_|refine ld k (q.cell id rfl) fun a k=> ?_|refine ld k (f.cell id rfl) fun a k=> ?_)
  rw[<-hN]at k;rw[T]at k;refine uN (el:=3) (sz:=1) k rfl rfl P fun a k=> ?_;refine jU (vs:=[.int .i64 x.vote]) (cur:=b0) k (by decide) rfl (by kernel_rfl) rfl rfl rfl E D (by simp[Value.oneCell']) (fun h=>absurd rfl h) fun a k=> ?_;refine ar ?_;have G:=f.Jk a1 d3 (by show i<(g.bc.set i _).length;rw[aM];exact hi) d7 (by omega)
  have e6:rv i x g={g with bc:=(g.bc.set i (fK l x.term)).set i ((fK l x.term).set x.term.toNat (.int .i64 x.vote)),bad:=c}:=by unfold rv;simp only;rw[e0,b5,hc,List.set_set]
  have d4:R3.vv.set i v5=R3.vv:=by
   apply fc;intro j;rw[bI];by_cases c4:i=j
   ·subst c4;rw[if_pos rfl];have:=(aG.1 o).1;rw[if_pos this,o]
   ·rw[if_neg c4]
  rw[d4]at G;refine b9 _ _ S bR R3 (k.sb) (H.eY m f.wf a1 (.inr (by omega))) ?_ c2 r (q.J a1 id);rw[e6];exact G
 refine wp_seq (wp_seq (rg ax hQ aap ?_));intro w5 e5;have f:=C.O e5;have q:=a2.O e5;have H:=d0.W m C.wf e5;have s0:=SX.refl ax w5
 repeat refine sm k fun a k=> ?_
 by_cases hz:B=0
 ·refine cm (c:=false) k rfl rfl (by rw[hz];rfl) fun a k=> ?_
  repeat refine sm k fun a k=> ?_
  refine pk k rfl rfl fun a k=> ?_;refine ar (aV k rfl (wp_skip ?_));exact I _ _ g.bad f q H (by rw[hz];cases g.bad<;>rfl) (k.sb)
 ·refine cm (c:=true) k rfl rfl (congrArg some (by simpa using hz)) fun a k=> ?_
  repeat (first|refine sm k fun a k=> ?_|refine ld k (q.cell id rfl) fun a k=> ?_)
  refine cm (c:=x.vote !=B) k rfl rfl rfl fun a k=> ?_;refine pk k rfl rfl fun a k=> ?_;refine ar (aV k rfl ?_);by_cases hq:(x.vote !=B)=true
  ·rw[if_pos hq];refine rg ax hQ aao ?_;intro w6 e6;have G:=f.O e6;have d2:=q.O e6;have c9:=H.W m f.wf e6;have s0:=SX.refl ax w6
   repeat refine sm k fun a k=> ?_
   refine jE (cur:=R3.cells g.bad) k (by decide) rfl (by kernel_rfl) rfl rfl rfl G.obj.heap (by show 10<11;omega) rfl (fun h=>absurd rfl h) fun a k=> ?_;obtain⟨M,h2⟩:=G.yF true;refine ar (I _ _ true h2 (d2.J M id) (c9.eY m G.wf M (.inl (by decide))) ?_ (k.sb));rw[hq,show(B !=0)=true by simpa using hz];cases g.bad<;>rfl
  ·rw[if_neg hq];refine wp_skip (I _ _ g.bad f q H ?_ (k.sb));rw[show(x.vote !=B)=false by simpa using hq];cases g.bad<;>simp
end
def As{w:Tam}{S:bz}{ow:Ow}{b i:Nat}{g:GS}(h:kg w S ow b g)(hl:tZ g)(hi:i<g.eX.length)(t:Ok (bX g i) 0):
  Calls Try.prog 19 [az b,.int .i64 i].toArray w (qK w S ow b (mo i g)):=by
 obtain⟨R,p,z,N⟩:=h;have d4:=p;have n5:=hl.n5;have hx:g.eX[i]? =some (bX g i):=by unfold bX;rw[aj,aQ hi,br]
 generalize b6:bX g i=x at hx t;have q:i<g.df.length:=by rw[hl.df];exact hi
 have ht:=vL (fun y Q=>p.df.all y Q) q;refine kv Try.func19 NF WQ aeI (by show 2<=160;omega) ?_;intro a k;have H:=ju (P:=Try.prog) (fn:=Try.f19) (R:=qK w S ow b (mo i g));refine wp_seq (rg ax H aav ?_);intro w1 e1;have o:=p.O e1;have M:=bD.O e1 LG ax S ow;have V:=SX.refl ax w1
 repeat (first|refine sm k fun a k=> ?_|refine ld k (o.cell id rfl) fun a k=> ?_)
 obtain⟨bs,c5,b9,a0⟩:=o.eX i x hx;obtain⟨bl,d5,c9,c6,d2,c4⟩:=o.arr.elem (i:=i) (u:=az bs) (by rw[z,ab,c5];rfl);have c7:(R.la.map az).length=g.eX.length:=by rw[ak,z];exact o.qF
 rw[c9]at k;refine uN (el:=52) (sz:=1) k rfl rfl (by rw[c7];exact hi) fun a k=> ?_;refine kr (v:=az bs) k (by assumption) rfl (by decide) rfl (by kernel_rfl) (by kernel_rfl) (eF c6 (fun h=>h) (by rw[bG];exact c4)) fun a k=> ?_;refine gH (vs:=[az bs]) k (by decide) rfl (by decide) Rf.enter rfl (kN b9 o.wf t) ?_;rintro e T ⟨A1,n1,c1,A2,n2,c2,rfl,-,mZ,uF⟩;refine⟨_,rfl,fun _=>mZ.tu _,fun a k=> ?_⟩;have a7:=o.J mZ uF;have s1:=mZ.tu ax;refine iV (nn:=9) k (by decide) rfl (by decide) (by kernel_rfl) (fun I _=>s1.trans (SX.alloc _ _ _)) fun I b5 a k=> ?_;refine jU (vs:=[.int .i64 x.role,.int .i64 x.bM,.int .i64 x.term,.int .i64 x.vote,.int .i64 x.bF,.int .i64 (x.li+x.le.length),.int .i64 x.li,.slice A1 n1 c1,.slice A2 n2 c2]) k (by decide) rfl (by kernel_rfl) rfl rfl rfl (heap_alloc_new T _) (by show 0+9<=I.toArray.size;rw[bH];omega) (by simp[Value.oneCell']) (fun h=>absurd rfl h) fun a k=> ?_;refine ar ?_
 have e0:(I.toArray.toList.take 0++[Value.int .i64 x.role,.int .i64 x.bM,.int .i64 x.term,.int .i64 x.vote,.int .i64 x.bF,.int .i64 (x.li+x.le.length),.int .i64 x.li,.slice A1 n1 c1,.slice A2 n2 c2] ++I.toArray.toList.drop (0+9))=[Value.int .i64 x.role,.int .i64 x.bM,.int .i64 x.term,.int .i64 x.vote,.int .i64 x.bF,.int .i64 (x.li+x.le.length),.int .i64 x.li,.slice A1 n1 c1,.slice A2 n2 c2] :=by have:I.toArray.toList.drop (0+9)=[] :=bO (by simp[b5]);rw[this];simp
 rw[show List.length [Value.int .i64 x.role,.int .i64 x.bM,.int .i64 x.term,.int .i64 x.vote,.int .i64 x.bF,.int .i64 (x.li+x.le.length),.int .i64 x.li,.slice A1 n1 c1,.slice A2 n2 c2] =9 from rfl,e0];obtain⟨J,C⟩:=bD.alloc uF (.cells I.toArray 67);have Z:=fG.new uF 67 I;obtain⟨m,B,lx⟩:=Z.set C (us:=[.int .i64 x.role,.int .i64 x.bM,.int .i64 x.term,.int .i64 x.vote,.int .i64 x.bF,.int .i64 (x.li+x.le.length),.int .i64 x.li,.slice A1 n1 c1,.slice A2 n2 c2]);have E:=(a7.J J C).J m B;have L:bD LG ax w S ow _ S ow:=(((M.tr p.wf o.wf mZ nE).tr p.wf uF J nE).tr p.wf C m (fun bb hb=>.inr (by rw[show bb=_ from hb];exact aW M.size mZ.size))).mono (fun _ h=>h.elim (fun h=>h.elim (fun h=>h.elim id (fun h=>h.elim)) (fun h=>h.elim)) (fun h=>h.elim)) (fun _ h=>h);generalize d3:T.heap.size=b4 at k lx E L⊢;generalize hW:(T.alloc _).setRow b4 _=W at lx E L⊢;clear e0 m B Z J C a7 s1 mZ uF M V hW;have k:=k.sb (l:=[(4,.pointer (some ⟨b4,0,none⟩)),(0,az b),(1,.int .i64 i)]);have lx:fG W S ow b4 67 (yG x (.slice A1 n1 c1) (.slice A2 n2 c2)):=lx
 have f:mo i g=if x.term<qZ g.df i∨5000<x.term then{g with bad:=g.bad||decide (x.term<qZ g.df i)} else(if x.role=2 then Es i x (rv i x {g with df:=g.df.set i (.int .i64 x.term)}) else rv i x {g with df:=g.df.set i (.int .i64 x.term)}):=by unfold mo;simp only;rw[b6]
 refine wp_seq (wp_seq (jj (n0:=17) ax mix (by exact H) aau (fun _=>by kernel_rfl) ?_));intro T e2;have r:=E.O e2;have s:=lx.O e2;have K:=bD.Z p.wf E.wf L (bD.O e2 ax ax S ow) nE;have V:=SX.refl ax T
 repeat (first|refine sm k fun a k=> ?_|refine ld k (r.cell id rfl) fun a k=> ?_|refine ld k (s.cell id rfl) fun a k=> ?_)
 obtain⟨bt,a8,D,O,a1,a4⟩:=dA.vK r.df ht;rw[D]at k;refine uN (el:=3) (sz:=1) k rfl rfl q fun a k=> ?_;refine ld k (eF O (fun h=>h) a4) fun a k=> ?_;by_cases h1:x.term<qZ g.df i
 ·refine cm (c:=true) k rfl rfl (N7 h1) fun a k=> ?_
  repeat refine sm k fun a k=> ?_
  refine pk k rfl rfl fun a k=> ?_;refine ar (aV k rfl ?_);refine ET (g':=mo i g) (by exact H) (fun a w h=>h) p.wf K r z N s q ?_ (k.sb);rw[f,if_pos (.inl h1)]
 refine cm (c:=false) k rfl rfl (N8 h1) fun a k=> ?_
 repeat (first|refine sm k fun a k=> ?_|refine ld k (s.cell id rfl) fun a k=> ?_)
 by_cases h2:5000<x.term
 ·refine cm (c:=true) k rfl rfl (HM h2) fun a k=> ?_;refine pk k rfl rfl fun a k=> ?_;refine ar (aV k rfl ?_);refine ET (g':=mo i g) (by exact H) (fun a w h=>h) p.wf K r z N s q ?_ (k.sb);rw[f,if_pos (.inr h2)]
 refine cm (c:=false) k rfl rfl (zl h2) fun a k=> ?_;refine pk k rfl rfl fun a k=> ?_;refine ar (aV k rfl (wp_skip ?_));rw[if_neg (by omega)]at f;have k:=k.sb (l:=[(4,.pointer (some ⟨b4,0,none⟩)),(0,az b),(1,.int .i64 i)]);clear D O a1 a4 V;refine wp_seq (jj (n0:=8) ax mix (by exact H) aas (fun _=>by kernel_rfl) ?_);intro w3 e3;have A:=r.O e3;have Y:=s.O e3;have b1:=bD.Z p.wf r.wf K (bD.O e3 ax ax S ow) nE;have V:=SX.refl ax w3;have c0:=iC (n:=x.term) t.tm (by omega);obtain⟨bt,a8,d1,D,a3,a2,O,a1,m,B,b8⟩:=A.df.set (i:=i) (d:=.int .i64 x.term) (us:=[.int .i64 x.term]) A.wf q ⟨_,rfl,c0⟩ rfl (fun j u c h1 h2=>Dc j u c h1 h2)
 repeat (first|refine sm k fun a k=> ?_|refine ld k (A.cell id rfl) fun a k=> ?_|refine ld k (Y.cell id rfl) fun a k=> ?_)
 rw[D]at k;refine uN (el:=3) (sz:=1) k rfl rfl q fun a k=> ?_;refine jU (vs:=[.int .i64 x.term]) (cur:=d1) k (by decide) rfl (by kernel_rfl) rfl rfl rfl a3 a2 (by simp[Value.oneCell']) (fun h=>absurd rfl h) fun a k=> ?_;refine ar ?_;have d0:=A.BR m B b8;have b0:=b1.eY p.wf A.wf m (.inl (by decide))
 have b7:jo .i64 x.vote:=by obtain⟨bs,_,_,a0⟩:=p.eX i x hx;obtain⟨y,Q,hh⟩:=cI a0 12 I6 (by rw[Ty.dq];rfl);have e:(encS x)[12]? =some (.int .i64 x.vote):=rfl;rw[e]at Q;injection Q with Q;subst Q;obtain⟨n,hn,hk⟩:=hh;injection hn with _ hn;rw[hn];exact hk
 refine KM (R:={R with df:=R.df}) (g:={g with df:=g.df.set i (.int .i64 x.term)}) (by exact H) ?_ p.wf b0 d0 z N (Y.J m id) t.tm (by omega) hl.vl (by show i<g.bc.length;rw[hl.bc];exact hi) (by omega) b7 (k.sb);intro a w7 S7 b2 R7 k a9 a6 G F b3;unfold vH;refine wp_seq (rg ax H aam ?_);intro w8 e8;have a5:=a6.O e8;have X:=b3.O e8;have U:=a9.W p.wf a6.wf e8;have V:=SX.refl ax w8
 repeat (first|refine sm k fun a k=> ?_|refine ld k (X.cell id rfl) fun a k=> ?_)
 refine cm (c:=x.role==2) k rfl rfl rfl fun a k=> ?_;refine ar (aV k rfl ?_);by_cases hr:x.role=2
 ·rw[if_pos (by simpa using hr)];refine KN (g':=mo i g) (by exact H) (fun a w h=>h) p.wf U a5 G F X t.tm (by omega) hl.lead (by omega) ?_ (k.sub ⟨rfl,rfl,rfl,trivial⟩);rw[f,if_pos hr]
 ·rw[if_neg (by simpa using hr)];refine wp_skip (lP Mj k ⟨S7,b2,rfl,U,R7,?_,G,F⟩).2;rw[f,if_neg hr];exact a5
def nq(ow:Ow):Prop:= ∀b l,ow b=some l->LG l
def nq.J{L X:Tai}{w w':Tam}{S S':bz}{ow bR:Ow}(h:nq ow)(c:bD L X w S ow w' S' bR)(e: ∀l,L l->LG l):nq bR:=fun b l d=>(c.iu b l d).elim (h b l) (e l)
def bD.lg{X:Tai}{w w':Tam}{S S':bz}{ow bR:Ow}(h:nq ow)(n:nq bR)(c:bD (fun l=>LG l∨60<=l) X w S ow w' S' bR):bD LG X w S ow w' S' bR:=by have q: ∀l,LG l->(LG l∨60<=l):=fun _ h=>.inl h;exact⟨c.size,c.os,c.tape,c.output,fun b l p e d=>absurd (h b l e) d,c.free,c.jw,c.cell,fun b l e d=>absurd (h b l e) d,fun b o j=>(c.new b o j).imp id (fun k=>k.imp id (fun⟨l,f,_⟩=>⟨l,f,h b l f⟩)),c.tL,fun b l d=>.inr (n b l d)⟩
def mn(es:Taf)(f:Int):Taf:=es.filter fun e=>decide ((cD 0 e).q<f)
def Ce: ∀{a b:Tal} {n:Nat} {x:Taf},a.length=n->dn (.V (a++b)) x->dn (.V a) (x.take n)
 | [],b,n,x,hn,h=>by subst hn;exact dg.2 (by simp)
 |t::a,b,n,x,hn,h=>by obtain⟨d,r,rfl,e,c⟩:=ag.1 h;subst hn;rw[bu,fQ];exact ag.2 ⟨d,_,rfl,e,Ce (b:=b) rfl c⟩
def tj: ∀{a b:Tal} {x:Taf},dn (.V (a++b)) x->dn (.V b) (x.drop a.length)
 | [],b,x,h=>h
 |t::a,b,x,h=>by obtain⟨d,r,rfl,_,c⟩:=ag.1 (show dn (.cons t (.V (a++b))) x from h);show dn (.V b) (r.drop a.length);exact tj (a:=a) c
def nZ(es:Taf)(i:Int)(c:Bool):Taf:=es.filter fun e=>decide ((cD 0 e).q>i)&&c
def wJ(c:Int)(x o:D):Taf:=match cD 4 o with
 |.ptr l=>nZ (cD 7 x).A (l.getD 0 .top).q (decide (c>(l.getD 0 .top).q))
 |_=>(cD 7 x).A
def zn(x o:D):Taf:=match cD 4 o with
 |.ptr l=>l
 |_=> [cD 2 x,cD 3 x,cD 4 x,cD 5 x,cD 6 x]
def C8(c:Int)(x o:D):Taf:=if(cD 3 o).A=[] then wJ c x o else mn (wJ c x o) (cD 0 ((cD 3 o).A.getD 0 .top)).q++(cD 3 o).A
def oa(i:Nat)(o:D)(g:GS):GS:=
 let x:=g.saved.getD i .top
 {g with saved:=g.saved.set i (.agg (cD 1 o::cD 2 o::(zn x o++[.list (C8 ((bX g i).li+(bX g i).le.length) x o)])))}
def Iq{es:Taf}{f:Int}{c:Bool}{j:Nat}{e:D}(h:es[j]? =some e):nZ (es.take (j+1)) f c=if(decide ((cD 0 e).q>f)&&c)=true then nZ (es.take j) f c++[e] else nZ (es.take j) f c:=by
 have k:es.take (j+1)=es.take j++[e] :=by rw[cO,h];rfl
 unfold nZ;rw[k,List.filter_append];by_cases d:(decide ((cD 0 e).q>f)&&c)=true
 ·rw[if_pos d];simp only[List.filter_cons,d,if_true,List.filter_nil]
 ·rw[if_neg d];simp only[List.filter_cons,d,if_false,List.filter_nil,cN];simp
def EY{es:Taf}{f:Int}{c:Bool}:(nZ es f c).length<=es.length:=List.length_filter_le _ _
def It{es:Taf}{f:Int}{j:Nat}{e:D}(h:es[j]? =some e):mn (es.take (j+1)) f=if(cD 0 e).q<f then mn (es.take j) f++[e] else mn (es.take j) f:=by
 have d:es.take (j+1)=es.take j++[e] :=by rw[cO,h];rfl
 unfold mn;rw[d,List.filter_append];by_cases c:(cD 0 e).q<f
 ·rw[if_pos c];simp[c]
 ·rw[if_neg c];simp[c]
def E1{es:Taf}{f:Int}:(mn es f).length<=es.length:=List.length_filter_le _ _
def QI{d:D}(h:Has dV d):d.cells[0]? =some (.int .i64 (cD 0 d).q):=by obtain⟨l,rfl,e⟩:=dQ.1 h;obtain⟨x,r,rfl,c,_⟩:=ag.1 e;obtain⟨n,rfl,_⟩:=c;rfl
def jI:dV.cells.length=29:=rfl
def th{n:Nat}(h:n<=400000000000):mK dV n:=by refine⟨by simp only[maxLen];omega,?_⟩;rw[nQ];omega
section
variable{w0 w:Tam}{S0 S:bz}{ko ow:Ow}{b b5 b6 i:Nat}{g:GS}{R:GR}{o:D}{Q:HP}{a:Act}{m:Tab}
def yq{v:Tan}{l:Taf}{j:Nat}{d:D}(h:ca w S v (.list l))(x:l[j]? =some d)(p:Has dV d):
  ∃(k off f:Nat) (us:Tac),v= .slice (some ⟨k,off,none⟩) l.length f∧S k (off+j*29)∧us.length=29∧(∀(q:Nat) u,us[q]? =some u->w.cell? ⟨k,off+j*29+q,none⟩=some u)∧(∀(q:Nat) u c,us[q]? =some u->d.cells[q]? =some c->ca w S u c)∧us[0]? =some (.int .i64 (cD 0 d).q)∧
   w.cell? ⟨k,off+j*29+0,none⟩=some (.int .i64 (cD 0 d).q):=by obtain⟨k,off,f,us,y,t,s,n,r⟩:=h.Nh x p (by rw[jI];decide);rw[jI]at t s n;obtain⟨u0,e⟩: ∃u0,us[0]? =some u0:=⟨_,aQ (by omega)⟩;have:=(r 0 u0 _ e (QI p)).cn;subst this;exact⟨k,off,f,us,y,t,s,n,r,e,n 0 _ e⟩
def JI{x:D}{us:Tac}(h:Has dV x)(s:us.length=29)(n: ∀(q:Nat) u c,us[q]? =some u->x.cells[q]? =some c->ca w S u c): ∀u∈us,u.oneCell'=true:=by
 intro u l;obtain⟨q,k⟩:=aw l;have p:q<us.length:=(aG.1 k).1;obtain⟨r,e⟩:=cd h;have d:q<dV.cells.length:=by rw[jI];omega
 obtain⟨c,j,f⟩:=e q (dV.cells[q]'d) (aQ d);exact(n q u c k j).hZ f (bY.1 (show dV.cells.all Ty.scalar=true from rfl) _ (aF d))
def TT(l:Nat):Prop:=LG l∨60<=l
def TT.all(l:Nat):TT l:=by unfold TT LG;omega
def qR{L X:Tai}{w0 w d:Tam}{S0 S e:bz}{ko ow jY:Ow}(c:Wf w0 S0 ko)(f:Wf w S ow)(h:bD TT ax w0 S0 ko w S ow)(k:bD L X w S ow d e jY)(j: ∀b,X b->w0.heap.size<=b):bD TT ax w0 S0 ko d e jY:=
 (h.tr c f k (fun b h=>.inr (j b h))).mono (fun l _=>TT.all l) (fun _ h=>h)
def EL(w:Tam)(S:bz)(ow:Ow)(b:Nat)(g':GS):HP:=bodyPost Try.prog Try.f30 (qK w S ow b g')
def Oj{xs:Tac}{d:D}(hQ:QP Q)(p: ∀a w,EL w0 S0 ko b {g with saved:=g.saved.set i d} .normal a w->Q .normal a w)(n:Wf w0 S0 ko)(F:nq ko)(P:bD TT ax w0 S0 ko w S ow)(X:nq ow)(L:GM w S ow b (R.cells g.bad) R g)(G:R.la=R.lb)(C:R.va=R.vv)(T:fG w S ow b6 65 xs)(f:xs.length=8)(V: ∀(j:Nat) u c,xs[j]? =some u->d.cells[j]? =some c->ca w S u c)(Y:Has iI d)(q: ∀v∈xs,v.oneCell'=true)(K:i<g.saved.length)(k:Kn 119 a [(6,.pointer (some ⟨b6,0,none⟩)),(0,az b),(1,.int .i64 i)]):
  (Code.region 21 za true).wp Try.prog Q a w:=by
 refine jj (n0:=6) ax mix hQ Vq (fun _=>by kernel_rfl) ?_;intro N t;have e:=L.O t;have z:=T.O t;have y:=qR n L.wf P (bD.O t ax ax S ow) nE;have s0:=SX.refl ax N;obtain⟨bt,M,J,H,s,r,Z,W,l,A,E⟩:=e.saved.set (i:=i) (d:=d) (us:=xs) e.wf K Y f (fun j u c h1 h2=>(V j u c h1 h2).J (bD.O t ax ax S ow))
 repeat (first|refine sm k fun a k=> ?_|refine ld k (e.cell id rfl) fun a k=> ?_)
 refine lN (vs:=xs) k rfl f (fun O B j v U=>by rw[ao];exact z.cell id U O B) fun a k=> ?_;rw[H]at k;refine uN (el:=65) (sz:=8) k rfl rfl K fun a k=> ?_;refine jU (vs:=xs) (cur:=J) k (by decide) rfl (by rw[f];kernel_rfl) rfl rfl rfl s r q (fun h=>absurd rfl h) fun a k=> ?_;refine ar (p _ _ (lP ZQ k ?_).2);have I:=e.BS l A E;have x:=qR n e.wf y l nE;exact⟨S,ow,rfl,bD.lg F X x,R,I,G,C⟩
end
end Go.Proofs.Ytjhmkaninmgilaa
namespace Go.dI
open Go Go.RowKit
def fI(ops:Tad)(p:Tah):Tad:=(p.filterMap (ops[·]?)).toArray
def iU(n:Nat)(p:Tah)(k:Nat):Tbd Bool:=((List.range n).map fun j=>decide (j∈p.take k)).toArray
def Re(ops:Tad)(i:Nat):Tah:=(List.range ops.size).foldl (fun a j=>match ops[j]? with
 |some oj=>if decide (i<j)&&oj.after.toList.any (fun e=>Region.binds .any e&&(e.on==i||a.contains e.on)) then a++[j] else a
 |none=>a) []
def BE(ops:Tad)(p:Tah)(n0:Nat):Nat:=if n0=ops.size then ops.size else p.getD (ops.size-1) 0
def Pv(ops:Tad)(p:Tah)(n0:Nat):Bool:=
 Region.noSelect ops&&decide (p.length=ops.size)&&p.all (fun i=>decide (i<ops.size))&&ops.toList.all (fun o=>match o.guard with|none=>true|some g=>p[g.1]? ==some g.1)&&(List.range ops.size).all (fun j=>decide (j∈p))&&decide (n0<=ops.size)&&(List.range ops.size).all fun k=>
  match p[k]? with
  |none=>false
  |some i=>if k<n0 then Region.free .any ops (iU ops.size p k) i&&(Region.ready .any ops (iU ops.size p k)).contains i&&decide (i≠BE ops p n0)&&
    (decide (n0=ops.size)||((Re ops i).contains (BE ops p n0)&&(Re ops i).all fun j=> !(p.take k).contains j&&match ops[j]? with
     |some oj=>oj.after.toList.any fun e=>Region.binds .any e&&(e.on==i||(Re ops i).contains e.on)
     |none=>false))
   else Region.ready .any ops (iU ops.size p k)==[i]
def ph{ops:Tad}: ∀{p:Tah} (h: ∀i∈p,i<ops.size) (k:Nat),(p.filterMap (ops[·]?))[k]? =(p[k]?).bind (ops[·]?)
 | [],_,k=>by simp
 |i::p,h,k=>by
  have a:ops[i]? =some (ops[i]'(h i bw)):=dw _;rw[List.filterMap_cons,a];cases k with
  |zero=>simp[a]
  |succ k=>
   simp only[dm];exact ph (fun j b=>h j (aH _ b)) k
def AD{n i k:Nat}{p:Tah}(hi:p[k]? =some i):(iU n p k).setIfInBounds i true=iU n p (k+1):=by
 apply Array.ext
 ·simp[iU]
 ·intro j c d;simp only[iU,Array.size_setIfInBounds,bH,ak,fM]at c;rw[Array.getElem_setIfInBounds (by simpa [iU]using c)];have b:p.take (k+1)=p.take k++[i] :=by rw[cO,hi];rfl
  by_cases a:i=j
  ·subst a;simp[iU,b]
  ·rw[if_neg a];simp only[iU,List.getElem_toArray,List.getElem_map,List.getElem_range,b,aI,aB];congr 1;exact propext ⟨fun h=>.inl h,fun h=>h.resolve_right (Ne.symm a)⟩
def FL(n:Nat)(p:Tah):Array.replicate n false=iU n p 0:=by
 apply Array.ext
 ·simp[iU]
 ·intro j b a;simp[iU]
section
variable{P:Tap}{ops ops':Tad}{Q:HP}{S:Tae}
def BN{o:Tbc}{a:Act}(b: ∀g,o.guard=some g->ops'[g.1]? =ops[g.1]?):Region.wanted o (yielded ops' a.tmps)=Region.wanted o (yielded ops a.tmps):=by
 unfold Region.wanted;cases e:o.guard with
 |none=>rfl
 |some g=>simp only[yielded,b g e]
def YieldsIf.plain{o:Tbc}{v:Tan}{a:Act}(b: ∀g,o.guard=some g->ops'[g.1]? =ops[g.1]?)(h:YieldsIf P ops' S o v a):YieldsIf P ops S o v a:=by unfold YieldsIf at h⊢;rw[<-BN b];exact h
def uj{o:Tbc}{i k:Nat}{K:Act->Tae}{a:Act}{w:Tam}(c: ∀g,o.guard=some g->ops'[g.1]? =ops[g.1]?)(b:ops'[k]? =some o)(hi:ops[i]? =some o)(h:wpOp P ops' Q k K a w):wpOp P ops Q i K a w:=by unfold wpOp at h⊢;rw[b]at h;rw[hi];simp only[BN c]at h⊢;exact h
def tM{L i:Nat}{B:Tah}{A:Tbc}{v:Tan}(hi:ops[i]? =some A)(a3:i≠L)(hL:L∈B)(hB: ∀j∈B,∃m,ops[j]? =some m∧ ∃e∈m.after,Region.binds .any e=true∧(e.on=i∨e.on∈B))(u: ∀(j:Nat) (o:Tbc) T b,ops[j]? =some o->o.op≠ .select T b)(hQ: ∀c a w,Q (.panic c) (a.put A.dst v) w->Q (.panic c) a w):
  ∀(g:Nat) (d:Tbd Bool) (a:Act) (w:Tam),
   (∀j m,ops[j]? =some m->j≠i->d.getD j true=false->(∀e∈m.after,Region.binds .any e=true->e.on≠i)->A.apart ops m=true)->(∀x∈B,d.getD x true=false)->
   i∈Region.ready .any ops d->YieldsIf P ops S A v a->S w->
   nD P ops Q S L g (d.setIfInBounds i true) (a.put A.dst v) w->nD P ops Q S L (g+1) d a w:=by
 intro g
 induction g with
 |zero=>
  intro d a w _ _ C U M H;refine⟨fun h=>(by rw[h]at C;cases C),fun j V=> ?_⟩;by_cases f:j=i
  ·subst f;exact U.wpOp hi M ⟨fun _=>M,H⟩
  ·have:=ready_mono V f;rw[H.1]at this;cases this
 |succ g ih=>
  intro d a w q O C U M H;refine⟨fun h=>(by rw[h]at C;cases C),fun j V=> ?_⟩;by_cases f:j=i
  ·subst f;exact U.wpOp hi M ⟨fun _=>M,H⟩
  ·have z:=H.2 j (ready_mono V f);obtain⟨y,m,r,K⟩:=mem_ready.1 V
   have n: ∀e∈m.after,Region.binds .any e=true->d.getD e.on true=true:=fun e E F=>by
    have z:=K e E F;rcases Nat.lt_or_ge e.on d.size with h'|h'
    ·simp[h']at z⊢;exact z
    ·simp[Array.getElem?_eq_none h']at z
   have J:=(mem_ready.1 C).1
   have p: ∀e∈m.after,Region.binds .any e=true->e.on≠i:=fun e E F a1=>by have z:=n e E F;rw[a1,J]at z;cases z
   have s:j∉B:=fun s=>by
    obtain⟨a2,l,e,E,F,W⟩:=hB j s;rw[r]at l;injection l with l;subst l;rcases W with R|R
    ·exact p e E F R
    ·have D:=n e E F;rw[O _ R]at D;cases D
   have a0:j≠L:=fun e=>s (e▸hL);have R:=wpOp_putIf r (q j m r f y p) (fun T b=>u i A T b hi) (fun T b=>u j m T b r) hQ U z
   have t: ∀k ok,ops[k]? =some ok->k≠i->(d.setIfInBounds j true).getD k true=false->
     (∀e∈ok.after,Region.binds .any e=true->e.on≠i)->A.apart ops ok=true:=fun k ok hk Z G X=>by
    refine q k ok hk Z ?_ X;by_cases I:j=k
    ·subst I;exact y
    ·rw[getD_set_ne true I]at G;exact G
   have N: ∀x∈B,(d.setIfInBounds j true).getD x true=false:=fun x hx=>by rw[getD_set_ne true (fun e:j=x=>s (by rw[e];exact hx))];exact O x hx
   refine wpOp_mono (fun a' w' D=>⟨fun Y=>D.2.1 Y,ih (d.setIfInBounds j true) a' w' t N (ready_mono C (Ne.symm f)) D.1 (D.2.1 a0) ?_⟩) R;rw[Array.setIfInBounds_comm _ _ f];exact D.2.2
def Kk{p:Tah}{n0:Nat}(r:Pv ops p n0=true)(hQ: ∀c a d v w,Q (.panic c) (a.put d v) w->Q (.panic c) a w):
  ∀(f k:Nat) (a:Act) (w:Tam),k+f=ops.size->ml P (fI ops p) Q S n0 f k a w->nD P ops Q S (BE ops p n0) f (iU ops.size p k) a w:=by
 have Z:=r;unfold Pv at r;simp only[aS,bk,bY,db]at r;obtain⟨⟨⟨⟨⟨⟨H,a0⟩,G⟩,X⟩,L⟩,a1⟩,M⟩:=r
 have u: ∀k:Nat,(fI ops p)[k]? =(p[k]?).bind (ops[·]?):=fun k=>by unfold fI;rw[dj];exact ph G k
 intro f
 induction f with
 |zero=>
  intro k a w V h;refine⟨?_,h⟩;rw[fg];intro j E;obtain⟨O,R,l,_⟩:=mem_ready.1 E;have K:j<ops.size:=(aL.1 l).1;have ht:p.take k=p:=eB (by omega);have:=L j K;simp[iU,K,ht,this]at O
 |succ f ih=>
  intro k a w V h;have hk:k<ops.size:=by omega
  have C:=M k hk;have b:p[k]? =some (p[k]'(by omega)):=aQ _;generalize p[k]'(by omega)=i at b;rw[b]at C;simp only at C;have hi:i<ops.size:=G i (bU b);have D:ops[i]? =some ops[i] :=dw hi
  have hg: ∀g,ops[i].guard=some g->(fI ops p)[g.1]? =ops[g.1]? :=by intro g e;have:=X ops[i] (by simp);rw[e]at this;rw[u,eq_of_beq this];rfl
  have t:(fI ops p)[k]? =some ops[i] :=by rw[u,b];exact D
  unfold ml at h;rw[t]at h;simp only at h;by_cases I:k<n0
  ·rw[if_pos I]at h C;obtain⟨hS,v,hy,N⟩:=h;simp only[aS,bk]at C;obtain⟨⟨⟨q,m⟩,s⟩,o⟩:=C
   have n:nD P ops Q S (BE ops p n0) f ((iU ops.size p k).setIfInBounds i true) (a.put ops[i].dst v) w:=by rw[AD b];exact ih (k+1) _ w (by omega) N
   have F:=YieldsIf.plain (ops':=fI ops p) hg hy;by_cases Y:n0=ops.size
   ·refine qt D s (fun oL A=> ?_) (Region.noSelect_spec H) (fun c a w=>hQ c a _ _ w) f (iU ops.size p k) a w (Region.free_spec D q) (by simpa using m) F hS n;exfalso;unfold BE at A;rw[if_pos Y]at A;simp at A
   ·rw[dt,bk]at o;have J:=o.resolve_left Y;simp only[aS,bY]at J;obtain⟨W,y⟩:=J;refine tM (B:=Re ops i) D s (by simpa using W) ?_ (Region.noSelect_spec H) (fun c a w=>hQ c a _ _ w) f (iU ops.size p k) a w (Region.free_spec D q) ?_ (by simpa using m) F hS n
    ·intro j E;have z:=(y j E).2;cases l:ops[j]? with
     |none=>rw[l]at z;cases z
     |some R=>
      rw[l]at z;simp only[fY,aS,dt,beq_iff_eq]at z;obtain⟨e,he,hb,U⟩:=z;exact⟨R,rfl,e,by simpa using he,hb,U.imp id (fun h=>by simpa using h)⟩
    ·intro x hx;obtain⟨h1,z⟩:=y x hx
     have T:x<ops.size:=by
      cases l:ops[x]? with
      |none=>rw[l]at z;cases z
      |some R=>exact(aL.1 l).1
     simp only[ff,List.contains_eq_mem,decide_eq_false_iff_not]at h1;simp[iU,T,h1]
  ·rw[if_neg I]at h C;have N:Region.ready .any ops (iU ops.size p k)=[i] :=by simpa using C
   refine⟨fun O=>(by rw[N]at O;cases O),fun j E=> ?_⟩;rw[N,aB]at E;subst E;refine wpOp_mono (fun a' w' h'=>⟨fun s=>h'.1 (fun hf=>s ?_),?_⟩) (uj hg t D h)
   ·rw[AD b];exact ih (k+1) a' w' (by omega) h'.2
   ·unfold BE;rw[if_neg (by omega),aj,show ops.size-1=k by omega,b];rfl
def Rv{id n0:Nat}{p:Tah}{L:List OK}(X:Tai)(t:P.follows .mixedOrders=true)(y:QP Q)(k:bC (fI ops p)=L)(l:Pv ops p n0=true){w:Tam}{a:Act}(h: ∀d,uH w d->TL P (fI ops p) Q (SX X d) n0 L L 0 a d):(Code.region id ops true).wp P Q a w:=by
 have b:=l;unfold Pv at b;simp only[aS,bk,bY,db]at b;obtain⟨⟨⟨⟨⟨⟨r,e⟩,f⟩,x⟩,m⟩,s⟩,n⟩:=b
 have c:L.length=ops.size:=by
  rw[<-k,<-e];unfold bC fI;rw[ak]
  have: ∀(q:Tah),(∀i∈q,i<ops.size)->(q.filterMap (ops[·]?)).length=q.length:=by
   intro q
   induction q with
   |nil=>intro _;rfl
   |cons i q ih=>
    intro g;have v:ops[i]? =some (ops[i]'(g i bw)):=dw _;rw[List.filterMap_cons,v];simp only[bu];rw[ih (fun j u=>g j (aH _ u))]
  exact this p f
 refine wp_region_any t ?_;have o:=Kk l y ops.size 0 a _ (by omega) (c▸h _ (uH.drew w) k rfl);rw[<-FL]at o;exact nL _ _ _ _ o
end
def UH(ops:Tad)(n0:Nat):Bool:=
 decide (n0<=ops.size)&&Region.noSelect ops&&(List.range ops.size).all fun i=>
  if i<n0 then Region.free .any ops (hJ ops.size i) i&&(Region.ready .any ops (hJ ops.size i)).contains i&&decide (i+1<ops.size)&&
   (Re ops i).contains (ops.size-1)&&(Re ops i).all (fun j=>decide (i<j)&&match ops[j]? with
    |some oj=>oj.after.toList.any fun e=>Region.binds .any e&&(e.on==i||(Re ops i).contains e.on)
    |none=>false)
  else Region.ready .any ops (hJ ops.size i)==[i]
section
variable{P:Tap}{ops:Tad}{Q:HP}{S:Tae}
def wP{n0:Nat}(k:UH ops n0=true)(H: ∀c a d v w,Q (.panic c) (a.put d v) w->Q (.panic c) a w):
  ∀(f i:Nat) (a:Act) (w:Tam),i+f=ops.size->ml P ops Q S n0 f i a w->nD P ops Q S (ops.size-1) f (hJ ops.size i) a w
 |0,i,a,w,hif,h=>by
  refine⟨?_,h⟩;have:i=ops.size:=by omega
  subst this;rw[fg];intro j q;obtain⟨z,A,b,_⟩:=mem_ready.1 q;have G:j<ops.size:=(aL.1 b).1;simp[hJ,G]at z
 |f+1,i,a,w,hif,h=>by
  have l:=k;unfold UH at k;simp only[aS,bk,bY,db]at k;obtain⟨⟨N,F⟩,t⟩:=k;have y:i<ops.size:=by omega
  have s:=t i y;unfold ml at h;have E:ops[i]? =some ops[i] :=dw y;rw[E]at h;simp only at h;by_cases r:i<n0
  ·rw[if_pos r]at h s;obtain⟨U,v,K,u⟩:=h;simp only[aS,bk,bY]at s;obtain⟨⟨⟨⟨p,g⟩,O⟩,o⟩,m⟩:=s;refine tM (B:=Re ops i) E (by omega) (by simpa using o) ?_ (Region.noSelect_spec F) (fun c a w=>H c a _ _ w) f (hJ ops.size i) a w (Region.free_spec E p) ?_ (by simpa using g) K U ?_
   ·intro j q;obtain⟨_,n⟩:=m j q;cases b:ops[j]? with
    |none=>rw[b]at n;cases n
    |some A=>
     rw[b]at n;simp only[fY,aS,dt,beq_iff_eq]at n;obtain⟨e,R,T,D⟩:=n;exact⟨A,rfl,e,by simpa using R,T,D.imp id (fun h=>by simpa using h)⟩
   ·intro x L;obtain⟨W,n⟩:=m x L
    have C:x<ops.size:=by
     cases b:ops[x]? with
     |none=>rw[b]at n;cases n
     |some A=>exact(aL.1 b).1
    simp[hJ,C];omega
   ·rw[qo y];exact wP l H f (i+1) _ w (by omega) u
  ·rw[if_neg r]at h s;have u:Region.ready .any ops (hJ ops.size i)=[i] :=by simpa using s
   refine⟨fun z=>(by rw[u]at z;cases z),fun j q=> ?_⟩;rw[u,aB]at q;subst q;refine wpOp_mono (fun V J I=>⟨fun M=>I.1 (by omega),?_⟩) h;rw[qo y];exact wP l H f (j+1) V J (by omega) I.2
def IW{id n0:Nat}{L:List OK}(X:Tai)(f:P.follows .mixedOrders=true)(i:QP Q)(d:bC ops=L)(g:UH ops n0=true){w:Tam}{a:Act}(h: ∀c,uH w c->TL P ops Q (SX X c) n0 L L 0 a c):(Code.region id ops true).wp P Q a w:=by
 have b:L.length=ops.size:=by rw[<-d];simp[bC]
 refine wp_region_any f ?_;have e:=wP g i ops.size 0 a _ (by omega) (b▸h _ (uH.drew w) d rfl);rw[<-xH]at e;exact nL _ _ _ _ e
end
def pW{P:Tap}{ops:Tad}{Q:HP}{S:Tae}{n n0 i d j:Nat}{a:Act}{w:Tam}{m:Tab}{gd:Tao (Nat×Bool)}{L r:List OK}{x:Tbb}{vs:Tac}{v:Tan}(k:Kn n a m)(o:S w)(g:pL L m gd=some true)(l:d<n)(e:lH m x=some (.tuple vs.toArray))(f:vs[j]? =some v)(h: ∀b,Kn n b ((d,v)::m)->TL P ops Q S n0 L r (i+1) b w):TL P ops Q S n0 L ((some d,.extract x j,gd)::r) i a w:=by refine pv k o g l (fun s c t q _=> ?_) h;have p:=k.op e;unfold execOp;simp only[p,Instr.extract];simp[f]
def Gs{P:Tap}{ops:Tad}{Q:HP}{S:Tae}{n n0 i d:Nat}{a:Act}{w:Tam}{m:Tab}{gd:Tao (Nat×Bool)}{L r:List OK}{x y:Tbb}{t t2:Tba}{p:Tao Addr}(k:Kn n a m)(z:S w)(s:pL L m gd=some true)(u:d<n)(q:lH m x=some (.pointer p))(o:lH m y=some (.pointer none))(c:ptB P t=true)(h: ∀g,Kn n g ((d,.bool p.isNone)::m)->TL P ops Q S n0 L r (i+1) g w):TL P ops Q S n0 L ((some d,.binOp .eql t x y t2,gd)::r) i a w:=by
 refine pv k z s u (fun l e D j _=> ?_) h;have C:=k.op q;have B:=k.op o
 obtain⟨f,c⟩: ∃f,P.underlying t=some (.pointer f):=by
  unfold ptB at c;split at c
  ·exact⟨_,by assumption⟩
  ·cases c
 have A:=pe (w:=j) c p x y;have b:(execOp a.eval ⟨some d,.binOp .eql t x y t2,l,e,D,gd⟩)=(do let v<-(do eqGuard .eql t x y (a.eval x) (a.eval y);binOp .eql t (a.eval x) (a.eval y):Sem Tan);pure (.value v)):=by unfold execOp;rfl
 rw[b,bg,C,B,A];rfl
end Go.dI
namespace Go.Proofs.Ytjhmkaninmgilaa
open Go Go.RowKit Go.dI Go.Proofs
attribute [local irreducible] TL
def L7{w:Tam}{S:bz}{v:Tan}{d:D}{ts:Tal}(h:ca w S v d)(t:Has (.agg (.V ts)) d)(q:ts.all Ty.scalar=true): ∃(cs:Tac) (ds:Taf),v= .agg cs.toArray∧d= .agg ds∧cs.length=ts.length∧ds.length=ts.length∧(∀(j:Nat) u c,cs[j]? =some u->ds[j]? =some c->ca w S u c)∧dn (.V ts) ds∧ ∀u∈cs,u.oneCell'=true:=by
 obtain⟨ds,rfl,e⟩:=dQ.1 t;obtain⟨cs,rfl,y,k⟩:=h.yB;have f:ds.length=ts.length:=by rw[fU e,Ty.dq]
 refine⟨cs,ds,rfl,rfl,by omega,f,k,e,?_⟩;intro u p;obtain⟨j,l⟩:=aw p;have r:j<cs.length:=(aG.1 l).1;obtain⟨x,n,s⟩:=cI e j (ts[j]'(by omega)) (by rw[Ty.dq];exact aQ _);exact(k j u x l n).hZ s (bY.1 q _ (aF _))
def sq{w:Tam}{S:bz}{v:Tan}{d:D}{t:Ty}(h:ca w S v d)(c:Has (.list t) d):d= .list d.A∧ ∃A cap,v= .slice A d.A.length cap:=by obtain⟨l,rfl,_⟩:=bL.1 c;exact⟨rfl,h.pA⟩
def mh{t:Ty}{l:Taf}(h:Has (.list t) (.list l)): ∀x∈l,Has t x:=by obtain⟨e,c,_,d⟩:=bL.1 h;injection c with c;subst c;exact d
section
variable{w0 w:Tam}{S0 S:bz}{ko ow:Ow}{b b5 b6 i:Nat}{g:GS}{R:GR}{o:D}{Q:HP}{a:Act}{m:Tab}
noncomputable def zv:Code:=(.seq (.seq (.region 14 GK false) (.block 2 (.loop (.seq (.seq (.region 15 GJ false) (.cond (.tmp 83) .skip (.exit 2))) (.seq (.block 3 (.seq (.region 17 GH true) (.cond (.tmp 97) (.region 18 GG false) .skip))) (.region 16 CH false)))))) (.seq (.region 19 zc false) (.region 20 zb false)))
def Ku{A3 A7:Tao Addr}{c3 c7:Nat}{oe es:Taf}{vo xs:Tac}(hQ:QP Q)(b2:Wf w0 S0 ko)(st:bD TT ax w0 S0 ko w S ow)(hn:nq ow)(O:GM w S ow b (R.cells g.bad) R g)(lo:fG w S ow b5 75 vo)(lx:fG w S ow b6 65 xs)(h6:w0.heap.size<=b6)(j0:b5≠b6)(d1:vo[3]? =some (.slice A3 oe.length c3))(d3:ca w S (.slice A3 oe.length c3) (.list oe))(b8:Has (.list dV) (.list oe))(b3:xs[7]? =some (.slice A7 es.length c7))(i7:xs.length=8)(g7:ca w S (.slice A7 es.length c7) (.list es))(h7:Has (.list dV) (.list es))(i9:es.length+oe.length<=300000000000)(d4:oe≠ [])(k:Kn 119 a [(9,.slice none 0 0),(5,.pointer (some ⟨b5,0,none⟩)),(6,.pointer (some ⟨b6,0,none⟩)),(0,az b),(1,.int .i64 i)])(K: ∀a W S' bR v7,Kn 119 a [(6,.pointer (some ⟨b6,0,none⟩)),(0,az b),(1,.int .i64 i)] ->bD TT ax w0 S0 ko W S' bR->(∀u d,ca w S u d->ca W S' u d)->GM W S' bR b (R.cells g.bad) R g->fG W S' bR b6 65 (xs.set 7 v7)->nq bR->v7.oneCell'=true->
   ca W S' v7 (.list (mn es (cD 0 (oe.getD 0 .top)).q++oe))->Has (.list dV) (.list (mn es (cD 0 (oe.getD 0 .top)).q++oe))->Q .normal a W):zv.wp Try.prog Q a w:=by
 obtain⟨e0,a3⟩: ∃e0,oe[0]? =some e0:=by
  cases oe with
  |nil=>exact absurd rfl d4
  |cons x r=>exact⟨x,rfl⟩
 have h9:oe.getD 0 .top=e0:=by rw[aj,a3,br]
 have h8:=mh b8 e0 (bU a3);generalize hf:(cD 0 (oe.getD 0 .top)).q=f at K;unfold zv;refine wp_seq (wp_seq (rg ax hQ Vx ?_));intro w1 e1;have s0:=SX.refl ax w1
 repeat refine sm k fun a k=> ?_
 refine ar ?_;have H:=O.O e1;have i0:=bD.O e1 ax ax S ow
 refine wp_block (wp_loop_ghost (fun mm a W=> ∃(j:Nat) (V:Tan) (n:Ow),mm=es.length-j∧j<=es.length∧Kn 119 a [(9,V),(10,.int .i64 j),(5,.pointer (some ⟨b5,0,none⟩)),(6,.pointer (some ⟨b6,0,none⟩)),(0,az b),(1,.int .i64 i)] ∧
  bD (iE 60) ax w S ow W S n∧GM W S n b (R.cells g.bad) R g∧dA W S n 60 78 dV V (mn (es.take j) f)) (es.length-0)
  ⟨0,.slice none 0 0,ow,rfl,aC _,k.sb,bD.O e1 _ _ _ _,H,by rw[List.take_zero];exact dA.nil (by rw[jI];decide) (by decide)⟩ ?_)
 clear H i0 k s0 e1 w1;rintro mm a W ⟨j,V,n,rfl,hj,k,DZ,H,D3⟩;have f9:=lo.J DZ id;have f8:=lx.J DZ id;refine wp_seq (wp_seq (rg ax hQ Vw ?_));intro w2 e2;have G:=H.O e2;have c6:=f9.O e2;have a8:=f8.O e2;have c0:=DZ.Cq O.wf H.wf (bD.O e2 (iE 60) ax S n) nE;have J:=D3.J H.wf (bD.O e2 ax ax S n) (fun h=>h);have s0:=SX.refl ax w2
 repeat (first|refine sm k fun a k=> ?_|refine ld k (a8.cell id b3) fun a k=> ?_)
 refine cm (c:=decide ((j:Int)<(es.length:Int))) k rfl rfl rfl fun a k=> ?_;refine ar (aV k rfl ?_);by_cases e5:(j:Int)<(es.length:Int)
 ·rw[if_pos (by simpa using e5)];refine wp_skip ?_;have h4:j<es.length:=by omega
  obtain⟨e,he⟩: ∃e,es[j]? =some e:=⟨_,aQ h4⟩;have L:=mh h7 e (bU he);have k:=k.sb (l:=[(9,V),(10,.int .i64 j),(5,.pointer (some ⟨b5,0,none⟩)),(6,.pointer (some ⟨b6,0,none⟩)),(0,az b),(1,.int .i64 i)])
  have next: ∀(a:Act) (W':Tam) (U:Tan) (z:Ow),Kn 119 a [(9,U),(10,.int .i64 j),(5,.pointer (some ⟨b5,0,none⟩)),(6,.pointer (some ⟨b6,0,none⟩)),(0,az b),(1,.int .i64 i)] ->bD (iE 60) ax w S ow W' S z->GM W' S z b (R.cells g.bad) R g->dA W' S z 60 78 dV U (mn (es.take (j+1)) f)->
    (Code.region 16 CH false).wp Try.prog (Exit.then (fun a' w'=> ∃n',n'<es.length-j∧ ∃(j:Nat) (V:Tan) (n:Ow),n'=es.length-j∧j<=es.length∧Kn 119 a' [(9,V),(10,.int .i64 j),(5,.pointer (some ⟨b5,0,none⟩)),(6,.pointer (some ⟨b6,0,none⟩)),(0,az b),(1,.int .i64 i)] ∧
     bD (iE 60) ax w S ow w' S n∧GM w' S n b (R.cells g.bad) R g∧dA w' S n 60 78 dV V (mn (es.take j) f)) (Exit.inBlock 2 (Exit.then (Code.wp Try.prog ((Code.region 19 zc false).seq (.region 20 zb false)) Q) Q))) a W':=by
   intro a W' U z k y p t;refine rg ax hQ Vv ?_;intro w4 M;have s0:=SX.refl ax w4
   repeat refine sm k fun a k=> ?_
   refine ik (s:=((j+1:Nat):Int)) k (by assumption) rfl (by decide) rfl rfl (wrap64 (by omega) (by omega)) fun a k=> ?_
   repeat refine sm k fun a k=> ?_
   refine ar ⟨es.length-(j+1),by omega,j+1,U,z,rfl,by omega,k.sb,y.Cq O.wf p.wf (bD.O M (iE 60) ax S z) nE,p.O M,t.J p.wf (bD.O M ax ax S z) (fun h=>h)⟩
  refine wp_seq (wp_block (wp_seq (jj (n0:=12) ax mix (by exact hQ) Vu (fun _=>by kernel_rfl) ?_)));intro w3 N;have p:=G.O N;have Z:=c6.O N;have Y:=a8.O N;have y:=c0.Cq O.wf G.wf (bD.O N (iE 60) ax S n) nE;have t:=J.J G.wf (bD.O N ax ax S n) (fun h=>h);have s0:=SX.refl ax w3;obtain⟨bx,ox,cx,ux,a5,f1,a0,i1,a6,j1,e7⟩:=yq (g7.J y) he L;obtain⟨bo,oo,co,uo,d0,i3,i8,j3,i6,j2,e9⟩:=yq (d3.J y) a3 h8;have f0:=p.wf.s _ _ f1;have i2:=p.wf.s _ _ i3
  repeat (first|refine sm k fun a k=> ?_|refine ld k (Y.cell id b3) fun a k=> ?_)
  rw[a5]at k;refine px (el:=78) (sz:=29) k (by assumption) rfl (by decide) rfl rfl (by kernel_rfl) (by kernel_rfl) (by omega) (by omega) fun a k=> ?_;rw[bW]at k
  repeat refine sm k fun a k=> ?_
  refine kr (v:=.int .i64 (cD 0 e).q) k (by assumption) rfl (by decide) rfl (by kernel_rfl) (by kernel_rfl) (eF f0 (fun h=>h) e7) fun a k=> ?_
  repeat (first|refine sm k fun a k=> ?_|refine ld k (Z.cell id d1) fun a k=> ?_)
  rw[d0]at k;refine px (el:=78) (sz:=29) k (by assumption) rfl (by decide) rfl rfl (by kernel_rfl) (by kernel_rfl) (by omega) (by have:=(aG.1 a3).1;omega) fun a k=> ?_
  repeat refine sm k fun a k=> ?_
  refine kr (v:=.int .i64 (cD 0 e0).q) k (by assumption) rfl (by decide) rfl (by kernel_rfl) (by kernel_rfl) (eF i2 (fun h=>h) e9) fun a k=> ?_;refine cm (c:=decide ((cD 0 e).q<(cD 0 e0).q)) k rfl rfl rfl fun a k=> ?_;refine ar (aV k rfl ?_);have e6:f=(cD 0 e0).q:=by rw[<-hf,h9]
  have a1:=It (f:=f) he;by_cases hc:(cD 0 e).q<(cD 0 e0).q
  ·rw[if_pos (by simpa using hc)];rw[if_pos (by rw[e6];exact hc)]at a1;refine rg (fun B=>n B=some 60) hQ Vt ?_;intro w4 M;have F:=p.O M;have c4:=Y.O M;have f4:=y.Cq O.wf p.wf (bD.O M (iE 60) ax S n) nE;have d6:=t.J p.wf (bD.O M ax ax S n) (fun h=>h);have s0:=SX.refl (fun B=>n B=some 60) w4;have g4: ¬n b6=some 60:=by rw[c4.ow];intro e;cases e
   have g0: ¬n bx=some 60:=F.wf.nx f1 (by decide);have k:=k.sb (l:=[(9,V),(10,.int .i64 j),(5,.pointer (some ⟨b5,0,none⟩)),(6,.pointer (some ⟨b6,0,none⟩)),(0,az b),(1,.int .i64 i)])
   repeat (first|refine sm k fun a k=> ?_|refine ld k (c4.cell g4 b3) fun a k=> ?_)
   rw[a5]at k;refine px (el:=78) (sz:=29) k (by assumption) rfl (by decide) rfl rfl (by kernel_rfl) (by kernel_rfl) (by omega) (by omega) fun a k=> ?_;rw[bW]at k;refine lN (vs:=ux) k rfl a0 (fun w' g6 q v hv=>eF (by rw[M.heap];exact f0) g0 ((M.cell _).trans (i1 q v hv)) w' g6) fun a k=> ?_;have g8:=JI L a0 a6;refine mO (kk:=29) (T:=78) k (by decide) rfl (by decide) rfl (by kernel_rfl) (by show ux.toArray.size=29;rw[bH];exact a0) (fun _=>SX.alloc _ _ _) fun a k=> ?_;obtain⟨a2,a9⟩:=bD.alloc F.wf (.cells (Value.agg ux.toArray).cells 78);have d5:=d6.J F.wf a2 (fun h=>h);have i5:=F.J a2 a9;refine nr k (by decide) rfl (by decide) fun ty f5 af=> ?_;obtain⟨v',w',I,bR,C,b1,b7⟩:=d5.Gj (P:=Try.prog) (tt:=28) (by kernel_rfl) rfl a9 ty w4.heap.size (d:=e) L (us:=ux) (by rw[jI];exact a0) (heap_alloc_new w4 _) (fun q u c h1 h2=>((a6 q u c h1 h2).J (bD.O M ax ax S n)).J a2) (th (by have:=E1 (es:=es.take j) (f:=f);rw[aK]at this;omega));have s1:SX (fun B=>n B=some 60) w4 w':=(SX.alloc _ _ _).trans (SX.iu (fun _ h=>h) C);refine⟨v',w',iq (k.op rfl) (k.op rfl) I,fun _=>s1,fun a k=> ?_⟩
   repeat refine sm k fun a k=> ?_
   refine ar ?_;refine next a w' v' bR (k.sb) (f4.Cq O.wf F.wf (bD.trN F.wf a9 a2 C nE) nE) (i5.loc C b1 ⟨by decide,by decide⟩) ?_
   rw[a1];exact b7
  ·rw[if_neg (by simpa using hc)];rw[if_neg (by rw[e6];exact hc)]at a1;refine wp_skip (next a w3 V n (k.sb) y p ?_);rw[a1];exact t
 ·rw[if_neg (by simpa using e5)];refine wp_exit ?_;have h5:j=es.length:=by omega
  subst h5;rw[dG]at J;show(Code.seq (.region 19 zc false) (.region 20 zb false)).wp Try.prog Q a w2;refine wp_seq (rg (fun B=>n B=some 60) hQ Vs ?_);intro w3 N;have p:=G.O N;have Z:=c6.O N;have Y:=a8.O N;have y:=c0.Cq O.wf G.wf (bD.O N (iE 60) ax S n) nE;have t:=J.J G.wf (bD.O N ax ax S n) (fun h=>h);have s0:=SX.refl (fun B=>n B=some 60) w3;have g5: ¬n b5=some 60:=by rw[Z.ow];intro e;cases e
  repeat (first|refine sm k fun a k=> ?_|refine ld k (Z.cell g5 d1) fun a k=> ?_)
  refine nr k (by decide) rfl (by decide) fun ty f5 af=> ?_;obtain⟨A,c,c1,g1,hA,h0,h3,g9⟩:=(d3.J y).source (fun d hd=>(cd (mh b8 d hd)).1);injection g1 with g3 _ g2;subst g3 g2;obtain⟨v',w',I,bR,C,b1,b7⟩:=t.mc (P:=Try.prog) (tt:=28) (ys:=oe) (by kernel_rfl) rfl p.wf ty A3 c3 c1 hA h0 h3 (mh b8) g9 (th (by have:=E1 (es:=es) (f:=f);omega));have s1:SX (fun B=>n B=some 60) w3 w':=SX.iu (fun _ h=>h) C;refine⟨v',w',iq (k.op rfl) (k.op rfl) I,fun _=>s1,fun a k=> ?_⟩
  repeat refine sm k fun a k=> ?_
  refine ar ?_;have b9:=p.loc C b1 ⟨by decide,by decide⟩;have f7:=Y.J C id;have f3:=y.Cq O.wf p.wf C nE;refine rg ax hQ Vr ?_;intro w8 e8;have a4:=b9.O e8;have c2:=f7.O e8;have a7:=f3.Cq O.wf b9.wf (bD.O e8 (iE 60) ax S bR) nE;have d8:=b7.J b9.wf (bD.O e8 ax ax S bR) (fun h=>h);have s0:=SX.refl ax w8;obtain⟨Av,cv,b4⟩:=d8.slice
  repeat refine sm k fun a k=> ?_
  refine jE (cur:=xs) k (by decide) rfl (by kernel_rfl) rfl rfl (by rw[b4];rfl) c2.heap (by omega) (by rw[b4];rfl) (fun h=>absurd rfl h) fun a k=> ?_;refine ar ?_;obtain⟨X,b0,f6⟩:=c2.set a4.wf (us:=xs.set 7 v');have i4:=a4.J X b0;have d7:=d8.J a4.wf X (fun h=>h);obtain⟨S',z,E,c9,d2,d9⟩:=d7.freeze b0;have f2:=i4.loc E c9 ⟨by decide,by decide⟩;have c5:=f6.J E id;have sa:bD TT ax w0 S0 ko w8 S bR:=qR b2 O.wf st a7 nE;have sb:=qR b2 a4.wf sa X (fun B hb=>by rw[show B=b6 from hb];exact h6);have sc:=qR b2 b0 sb E nE;refine K a _ S' z v' (k.sb) sc (fun u d hr=>((hr.J a7).J X).J E) f2 c5 ?_ (by rw[b4];rfl) d2 d7.has;intro B l hl;have h1:=(E.iu B l hl);rcases h1 with h1|h1
  ·rcases a7.iu B l h1 with h2|h2
   ·exact hn B l h2
   ·rw[show l=60 from h2]at hl;exact absurd hl (d9 B)
  ·rw[show l=60 from h1]at hl;exact absurd hl (d9 B)
def NS{f:Nat}{l:Taf}(h:ca w S (.pointer (some ⟨f,0,none⟩)) (.ptr l)): ∃c:Tac,c.length=l.length∧(∀q,q<l.length->S f q)∧(∀(q:Nat) u,c[q]? =some u->w.cell? ⟨f,q,none⟩=some u)∧ ∀(q:Nat) u d,c[q]? =some u->l[q]? =some d->ca w S u d:=by obtain⟨b,c,e,p,n,k,j⟩:=h.qj;injection e with e;injection e with e;injection e with e;subst e;exact⟨c,p,n,k,j⟩
def aba:bC (fI Mz [0,1,2,3,4,5,6,7,8,9,10,11,12,13,14,15,16,17,18,19,22,23,24,25,26,20,21,27,28])=[oF 31 65 6 2,
 oL 32 28 31,
 oM 33 8,
 oI 34 28 32 33,
 oF 35 78 34 0,
 oL 36 3 35,
 oF 37 75 5 3,
 oL 38 72 37,
 oN 39 38,
 oF 40 63 39 0,
 oL 41 3 40,
 oB 42 .gtr 3 36 41,
 oM 43 42,
 oM 44 0 (some (12,true)),
 oN 45 44 (some (12,true)),
 oF 46 59 45 1 (some (12,true)),
 oL 47 54 46 (some (12,true)),
 oM 48 1 (some (12,true)),
 oI 49 54 47 48 (some (12,true)),
 oL 50 52 49 (some (12,true)),
 oF 53 75 5 3 (some (12,true)),
 oL 54 72 53 (some (12,true)),
 oN 55 54 (some (12,true)),
 oF 56 63 55 0 (some (12,true)),
 oL 57 3 56 (some (12,true)),
 oC 51 12 #[(.tmp 50)] #[52] (some (12,true)),
 (some 52,.field 67 (.tmp 51) 4,some (12,true)),
 oB 58 .gtr 3 52 57 (some (12,true)),
 oP 59 43 58 false] :=by kernel_rfl
noncomputable def EH:Code:=(.seq (.region 4 MC false) (.seq (.seq (.region 5 MB false) (.block 0 (.loop (.seq (.seq (.region 6 MA false) (.cond (.tmp 28) .skip (.exit 0))) (.seq (.block 1 (.seq (.region 8 Mz true) (.cond (.tmp 59) (.region 9 I7 false) .skip))) (.region 7 I8 false)))))) (.seq (.region 10 ze false) (.region 11 zd false))))
def Kt{A7:Tao Addr}{c7 bp:Nat}{es pr:Taf}{si:Int}{vo:Tac}{x0 x1 x2 x3 x4 x5 x6:Tan}(hQ:QP Q)(a8:Wf w0 S0 ko)(st:bD TT ax w0 S0 ko w S ow)(hn:nq ow)(gm:GM w S ow b (R.cells g.bad) R g)(h0:R.la=R.lb)(lo:fG w S ow b5 75 vo)(lx:fG w S ow b6 65 [x0,x1,x2,x3,x4,x5,x6,.slice A7 es.length c7])(h6:w0.heap.size<=b6)(g8:b5≠b6)(hi:i<g.eX.length)(g4:Ok (bX g i) 0)(d8:vo[4]? =some (az bp))(hp:ca w S (az bp) (.ptr (.int .i64 si::pr)))(j4:pr.length=4)(j5:dn (.V ks) (.int .i64 si::pr))(j3:ca w S (.slice A7 es.length c7) (.list es))(k1:Has (.list dV) (.list es))(l4:es.length<=300000000000)(k:Kn 119 a [(5,.pointer (some ⟨b5,0,none⟩)),(6,.pointer (some ⟨b6,0,none⟩)),(0,az b),(1,.int .i64 i)])(L: ∀a W S' E K I H G F v7,Kn 119 a [(5,.pointer (some ⟨b5,0,none⟩)),(6,.pointer (some ⟨b6,0,none⟩)),(0,az b),(1,.int .i64 i)] ->bD TT ax w0 S0 ko W S' E->(∀u d,ca w S u d->ca W S' u d)->GM W S' E b (R.cells g.bad) R g->fG W S' E b5 75 vo->fG W S' E b6 65 [x0,x1,K,I,H,G,F,v7] ->nq E->
   (∀(q:Nat) u d,[K,I,H,G,F][q]? =some u->(.int .i64 si::pr)[q]? =some d->ca W S' u d)->ca W S' v7 (.list (nZ es si (decide ((bX g i).li+(bX g i).le.length>si))))->Has (.list dV) (.list (nZ es si (decide ((bX g i).li+(bX g i).le.length>si))))->Q .normal a W):EH.wp Try.prog Q a w:=by
 have hx:g.eX[i]? =some (bX g i):=by unfold bX;rw[aj,aQ hi,br]
 generalize bX g i=sv at hx g4 L;generalize k4:decide (sv.li+sv.le.length>si)=U at L;unfold EH;refine wp_seq (rg ax hQ aah ?_);intro i2 l1;have s0:=SX.refl ax i2
 repeat refine sm k fun a k=> ?_
 refine ar ?_;refine wp_seq (wp_seq (rg ax hQ aag ?_));intro w1 e1;have s0:=SX.refl ax w1
 repeat refine sm k fun a k=> ?_
 refine ar ?_
 have e1:uH w w1:=by obtain⟨a1,a2,a3,a4⟩:=l1;obtain⟨c1,U,c3,c4⟩:=e1;exact⟨c1.trans a1,U.trans a2,c3.trans a3,c4.trans a4⟩
 have Y:=gm.O e1
 let J:=fun(j:Nat) (a:Act) (W:Tam)=> ∃(vk:Tan) (jY:Ow),j<=es.length∧Kn 119 a [(7,vk),(8,.int .i64 j),(5,.pointer (some ⟨b5,0,none⟩)),(6,.pointer (some ⟨b6,0,none⟩)),(0,az b),(1,.int .i64 i)] ∧
  bD (iE 60) ax w S ow W S jY∧GM W S jY b (R.cells g.bad) R g∧dA W S jY 60 78 dV vk (nZ (es.take j) si U)
 refine wp_block (wp_loop_ghost (fun mm a W=> ∃j:Nat,mm=es.length-j∧J j a W) (es.length-0)
  ⟨0,rfl,.slice none 0 0,ow,aC _,k.sb,bD.O e1 _ _ _ _,Y,by rw[List.take_zero];exact dA.nil (by rw[jI];decide) (by decide)⟩ ?_)
 clear Y k s0;rintro mm a W ⟨j,rfl,vk,jY,hj,k,DZ,Y,aeQ⟩;have i8:=lo.J DZ id;have i5:=lx.J DZ id;refine wp_seq (wp_seq (rg ax hQ aaf ?_));intro w2 e2;have M:=Y.O e2;have f1:=i8.O e2;have d4:=i5.O e2;have d3:=DZ.Cq gm.wf Y.wf (bD.O e2 (iE 60) ax S jY) nE;have a9:=aeQ.J Y.wf (bD.O e2 ax ax S jY) (fun h=>h);have s0:=SX.refl ax w2
 repeat (first|refine sm k fun a k=> ?_|refine ld k (d4.cell id (j:=7) rfl) fun a k=> ?_)
 refine cm (c:=decide ((j:Int)<(es.length:Int))) k rfl rfl rfl fun a k=> ?_;refine ar (aV k rfl ?_);by_cases g9:(j:Int)<(es.length:Int)
 ·rw[if_pos (by simpa using g9)];refine wp_skip ?_;have j9:j<es.length:=by omega
  obtain⟨e,he⟩: ∃e,es[j]? =some e:=⟨_,aQ j9⟩;have b0:=mh k1 e (bU he);have b3:=Iq (f:=si) (c:=U) he;have k:=k.sb (l:=[(7,vk),(8,.int .i64 j),(5,.pointer (some ⟨b5,0,none⟩)),(6,.pointer (some ⟨b6,0,none⟩)),(0,az b),(1,.int .i64 i)])
  have next: ∀(a:Act) (W':Tam) (t:Tan) (p:Ow),Kn 119 a [(7,t),(8,.int .i64 j),(5,.pointer (some ⟨b5,0,none⟩)),(6,.pointer (some ⟨b6,0,none⟩)),(0,az b),(1,.int .i64 i)] ->bD (iE 60) ax w S ow W' S p->GM W' S p b (R.cells g.bad) R g->dA W' S p 60 78 dV t (nZ (es.take (j+1)) si U)->
    (Code.region 7 I8 false).wp Try.prog (Exit.then (fun a' w'=> ∃n',n'<es.length-j∧ ∃j:Nat,n'=es.length-j∧J j a' w') (Exit.inBlock 0 (Exit.then (Code.wp Try.prog ((Code.region 10 ze false).seq (.region 11 zd false)) Q) Q))) a W':=by
   intro a W' t p k A n B;refine rg ax hQ aae ?_;intro w4 e4;have s0:=SX.refl ax w4
   repeat refine sm k fun a k=> ?_
   refine ik (s:=((j+1:Nat):Int)) k (by assumption) rfl (by decide) rfl rfl (wrap64 (by omega) (by omega)) fun a k=> ?_
   repeat refine sm k fun a k=> ?_
   refine ar ⟨es.length-(j+1),by omega,j+1,rfl,t,p,by omega,k.sb,A.Cq gm.wf n.wf (bD.O e4 (iE 60) ax S p) nE,n.O e4,B.J n.wf (bD.O e4 ax ax S p) (fun h=>h)⟩
  refine wp_seq (wp_block (wp_seq (Rv (n0:=25) ax mix (by exact hQ) aba (by kernel_rfl) ?_)));intro w3 Z;have n:=M.O Z;have a7:=f1.O Z;have a6:=d4.O Z;have A:=d3.Cq gm.wf M.wf (bD.O Z (iE 60) ax S jY) nE;have B:=a9.J M.wf (bD.O Z ax ax S jY) (fun h=>h);have s0:=SX.refl ax w3;obtain⟨bx,ox,cx,ux,c6,e5,b2,k2,c9,l6,h8⟩:=yq (j3.J A) he b0;have d9:=n.wf.s _ _ e5;obtain⟨cp,b1,b8,V,b7⟩:=NS (hp.J A);have e0:=n.wf.s _ _ (b8 0 (by simp));obtain⟨u0,f7⟩: ∃u,cp[0]? =some u:=⟨_,aQ (by rw[b1];simp)⟩;have f6:=(b7 0 u0 _ f7 rfl).cn;subst f6;have d1:=V 0 _ f7
  have tail: ∀(Q2:HP),QP Q2->(∀(a:Act) (W':Tam) (t:Tan) (p:Ow),Kn 119 a [(7,t),(8,.int .i64 j),(5,.pointer (some ⟨b5,0,none⟩)),(6,.pointer (some ⟨b6,0,none⟩)),(0,az b),(1,.int .i64 i)] ->bD (iE 60) ax w S ow W' S p->GM W' S p b (R.cells g.bad) R g->dA W' S p 60 78 dV t (nZ (es.take (j+1)) si U)->Q2 .normal a W')->
    ∀(a:Act) (W':Tam) (cc:Bool) (l:Tab),Kn 119 a ((59,.bool cc)::l)->Kn 119 a [(7,vk),(8,.int .i64 j),(5,.pointer (some ⟨b5,0,none⟩)),(6,.pointer (some ⟨b6,0,none⟩)),(0,az b),(1,.int .i64 i)] ->cc=(decide ((cD 0 e).q>si)&&U)->bD ax ax w3 S jY W' S jY->Wf W' S jY->
    (Code.cond (.tmp 59) (.region 9 I7 false) .skip).wp Try.prog Q2 a W':=by
   intro Q2 hQ next a W' cc l kc k V C j1
   have b9:=n.J C j1;have i3:=a6.J C id;have e6:=A.Cq gm.wf n.wf (C.mono nE (fun _ h=>h)) nE;have d0:=B.J n.wf C (fun h=>h);refine aV kc rfl ?_;cases cc with
   |true=>
    rw[<-V,if_pos rfl]at b3;refine rg (fun N=>jY N=some 60) hQ aad ?_;intro w4 e4;have r:=b9.O e4;have a5:=i3.O e4;have z:=e6.Cq gm.wf b9.wf (bD.O e4 (iE 60) ax S jY) nE;have O:=d0.J b9.wf (bD.O e4 ax ax S jY) (fun h=>h);have s0:=SX.refl (fun N=>jY N=some 60) w4;have j0: ¬jY b6=some 60:=by rw[a5.ow];intro e;cases e
    have i9: ¬jY bx=some 60:=r.wf.nx e5 (by decide)
    have i0:W'.heap[bx]? =w3.heap[bx]? :=by
     cases e:jY bx with
     |none=>exact C.free bx d9 e (fun h=>h)
     |some l=>exact C.F3 bx l d9 e (fun h=>h)
    have k3: ∀(q:Nat) u,ux[q]? =some u->w4.cell? ⟨bx,ox+j*29+q,none⟩=some u:=fun q u hu=>(e4.cell _).trans ((bh i0).trans (k2 q u hu))
    repeat (first|refine sm k fun a k=> ?_|refine ld k (a5.cell j0 (j:=7) rfl) fun a k=> ?_)
    rw[c6]at k;refine px (el:=78) (sz:=29) k (by assumption) rfl (by decide) rfl rfl (by kernel_rfl) (by kernel_rfl) (by omega) (by omega) fun a k=> ?_;rw[bW]at k;refine lN (vs:=ux) k rfl b2 (fun w' d7 q v hv=>eF (r.wf.s _ _ e5) i9 (k3 q v hv) w' d7) fun a k=> ?_;have j6:=JI b0 b2 c9;refine mO (kk:=29) (T:=78) k (by decide) rfl (by decide) rfl (by kernel_rfl) (by show ux.toArray.size=29;rw[bH];exact b2) (fun _=>SX.alloc _ _ _) fun a k=> ?_;obtain⟨b4,d5⟩:=bD.alloc r.wf (.cells (Value.agg ux.toArray).cells 78);have g3:=O.J r.wf b4 (fun h=>h);have l0:=r.J b4 d5;refine nr k (by decide) rfl (by decide) fun ty l2 af=> ?_;obtain⟨v',w',f8,E,d2,j2,j8⟩:=g3.Gj (P:=Try.prog) (tt:=28) (by kernel_rfl) rfl d5 ty w4.heap.size (d:=e) b0 (us:=ux) (by rw[jI];exact b2) (heap_alloc_new w4 _) (fun q u c y X=>(((c9 q u c y X).J C).J (bD.O e4 ax ax S jY)).J b4) (th (by have:=EY (es:=es.take j) (f:=si) (c:=U);rw[aK]at this;omega));have s1:SX (fun N=>jY N=some 60) w4 w':=(SX.alloc _ _ _).trans (SX.iu (fun _ h=>h) d2);refine⟨v',w',iq (k.op rfl) (k.op rfl) f8,fun _=>s1,fun a k=> ?_⟩
    repeat refine sm k fun a k=> ?_
    refine ar ?_;refine next a w' v' E (k.sb) (z.Cq gm.wf r.wf (bD.trN r.wf d5 b4 d2 nE) nE) (l0.loc d2 j2 ⟨by decide,by decide⟩) ?_
    rw[b3];exact j8
   |false=>
    rw[<-V,if_neg (by decide)]at b3;refine wp_skip (next a W' vk jY k e6 b9 ?_);rw[b3];exact d0
  repeat (first|refine sm k fun a k=> ?_|refine ld k (a6.cell id (j:=7) rfl) fun a k=> ?_)
  rw[c6]at k;refine px (el:=78) (sz:=29) k (by assumption) rfl (by decide) rfl rfl (by kernel_rfl) (by kernel_rfl) (by omega) (by omega) fun a k=> ?_;rw[bW]at k
  repeat refine sm k fun a k=> ?_
  refine kr (v:=.int .i64 (cD 0 e).q) k (by assumption) rfl (by decide) rfl (by kernel_rfl) (by kernel_rfl) (eF d9 (fun h=>h) h8) fun a k=> ?_
  repeat (first|refine sm k fun a k=> ?_|refine ld k (a7.cell id d8) fun a k=> ?_)
  refine kr (v:=.int .i64 si) k (by assumption) rfl (by decide) rfl (by kernel_rfl) (by kernel_rfl) (eF e0 (fun h=>h) d1) fun a k=> ?_;by_cases y:(cD 0 e).q>si
  ·refine cm (c:=true) k rfl rfl (HM y) fun a k=> ?_;obtain⟨bs,k5,j7,l3⟩:=n.eX i sv hx;obtain⟨bl,l7,k8,k6,l5,b1⟩:=n.arr.elem (i:=i) (u:=az bs) (by rw[h0,ab,k5];rfl);have k7:(R.la.map az).length=g.eX.length:=by rw[ak,h0];exact n.qF
   repeat (first|refine sm k fun a k=> ?_|refine ld k (n.cell id rfl) fun a k=> ?_)
   rw[k8]at k;refine uN (el:=52) (sz:=1) k rfl rfl (by rw[k7];exact hi) fun a k=> ?_;refine kr (v:=az bs) k (by assumption) rfl (by decide) rfl (by kernel_rfl) (by kernel_rfl) (eF k6 (fun h=>h) (by rw[bG];exact b1)) fun a k=> ?_
   repeat (first|refine sm k fun a k=> ?_|refine ld k (a7.cell id d8) fun a k=> ?_)
   refine kr (v:=.int .i64 si) k (by assumption) rfl (by decide) rfl (by kernel_rfl) (by kernel_rfl) (eF e0 (fun h=>h) d1) fun a k=> ?_;refine gH (vs:=[az bs]) k (by decide) rfl (by decide) Rf.enter rfl (kN j7 n.wf g4) ?_;rintro e' w5 ⟨A1,n1,c1,A2,n2,c2',rfl,-,qT,Q8⟩;refine⟨_,rfl,fun _=>qT.tu _,fun a k=> ?_⟩;have s1:=qT.tu ax;refine Oe (off:=5) k (by assumption) rfl (by decide) rfl (by kernel_rfl) rfl fun a k=> ?_;refine cm (c:=U) k rfl rfl (congrArg some k4) fun a k=> ?_;refine pk k rfl rfl fun a k=> ?_;refine ar (tail _ (by exact hQ) (fun a W' t p y X h3 h4=>next a W' t p y X h3 h4) a w5 U _ k (k.sb) (by simp[y]) qT Q8)
  ·refine cm (c:=false) k rfl rfl (zl y) fun a k=> ?_
   repeat refine sm k fun a k=> ?_
   refine pk k rfl rfl fun a k=> ?_;refine ar (tail _ (by exact hQ) (fun a W' t p y X h3 h4=>next a W' t p y X h3 h4) a w3 false _ k (k.sb) (by simp[y]) (bD.refl _ _ _ _ _) n.wf)
 ·rw[if_neg (by simpa using g9)];refine wp_exit ?_;have k0:j=es.length:=by omega
  subst k0;rw[dG]at a9;show(Code.seq (.region 10 ze false) (.region 11 zd false)).wp Try.prog Q a w2;obtain⟨cp,b1,b8,V,b7⟩:=NS (hp.J d3);have e0:=M.wf.s _ _ (b8 0 (by simp));have h9:cp.length=5:=by rw[b1];simp[j4]
  obtain⟨K,I,H,G,F,rfl⟩: ∃c0 c1 U c3 c4,cp=[c0,c1,U,c3,c4] :=by
   match cp,h9 with
   | [c0,c1,U,c3,c4],_=>exact⟨c0,c1,U,c3,c4,rfl⟩
  refine wp_seq (rg ax hQ VB ?_);intro w3 Z;have n:=M.O Z;have a7:=f1.O Z;have a6:=d4.O Z;have A:=d3.Cq gm.wf M.wf (bD.O Z (iE 60) ax S jY) nE;have B:=a9.J M.wf (bD.O Z ax ax S jY) (fun h=>h);have s0:=SX.refl ax w3
  have g2: ∀u∈ [K,I,H,G,F],u.oneCell'=true:=by intro u hu;obtain⟨q,hq⟩:=aw hu;have g1:q<5:=(aG.1 hq).1;obtain⟨d,hd,hh⟩:=cI j5 q (ks[q]'g1) (by rw[Ty.dq];exact aQ _);exact(b7 q u d hq hd).hZ hh (bY.1 (show ks.all Ty.scalar=true from rfl) _ (aF g1))
  repeat (first|refine sm k fun a k=> ?_|refine ld k (a7.cell id d8) fun a k=> ?_)
  refine lN (vs:=[K,I,H,G,F]) k rfl rfl (fun w' d7 q v hv=>by rw[ao];exact eF (n.wf.s _ _ (b8 0 (by simp))) (fun h=>h) ((Z.cell _).trans (V q v hv)) w' d7) fun a k=> ?_
  repeat refine sm k fun a k=> ?_
  refine jU (vs:=[K,I,H,G,F]) (cur:=[x0,x1,x2,x3,x4,x5,x6,.slice A7 es.length c7].toArray) k (by decide) rfl (by kernel_rfl) rfl rfl rfl a6.heap (by show 7<=8;omega) g2 (fun h=>absurd rfl h) fun a k=> ?_;refine ar ?_;obtain⟨z,f3,a5⟩:=a6.set n.wf (us:=[x0,x1,K,I,H,G,F,.slice A7 es.length c7]);have r:=n.J z f3;have f0:=a7.J z g8;have O:=B.J n.wf z (fun h=>h);have sA:bD TT ax w0 S0 ko w3 S jY:=qR a8 gm.wf st A nE;have sB:=qR a8 n.wf sA z (fun N hb=>by rw[show N=b6 from hb];exact h6);have k:=k.sb (l:=[(7,vk),(5,.pointer (some ⟨b5,0,none⟩)),(6,.pointer (some ⟨b6,0,none⟩)),(0,az b),(1,.int .i64 i)]);have h7: ∀u d,ca w S u d->ca (w3.setRow b6 [x0,x1,K,I,H,G,F,.slice A7 es.length c7].toArray) S u d:=fun u d hr=>(hr.J A).J z;have g0: ∀(q:Nat) u d,[K,I,H,G,F][q]? =some u->(D.int .i64 si::pr)[q]? =some d->ca (w3.setRow b6 [x0,x1,K,I,H,G,F,.slice A7 es.length c7].toArray) S u d:=fun q u d y X=>((b7 q u d y X).J (bD.O Z ax ax S jY)).J z;show Code.wp Try.prog _ _ a (w3.setRow b6 [x0,x1,K,I,H,G,F,.slice A7 es.length c7].toArray);generalize w3.setRow b6 [x0,x1,K,I,H,G,F,.slice A7 es.length c7].toArray=w4 at a5 r f0 O sB h7 g0 z f3⊢;refine rg ax hQ VA ?_;intro w8 e8;have c5:=r.O e8;have e7:=a5.O e8;have i7:=f0.O e8;have sC:=qR a8 r.wf sB (bD.O e8 ax ax S jY) nE;have g6:=O.J r.wf (bD.O e8 ax ax S jY) (fun h=>h);have s0:=SX.refl ax w8;obtain⟨Av,cv,f5⟩:=g6.slice
  repeat refine sm k fun a k=> ?_
  refine jE (cur:=[x0,x1,K,I,H,G,F,.slice A7 es.length c7]) k (by decide) rfl (by kernel_rfl) rfl rfl (by rw[f5];rfl) e7.heap (by show 7<8;omega) (by rw[f5];rfl) (fun h=>absurd rfl h) fun a k=> ?_;refine ar ?_;obtain⟨a0,d6,i4⟩:=e7.set c5.wf (us:=[x0,x1,K,I,H,G,F,vk]);have k9:=c5.J a0 d6;have i6:=i7.J a0 g8;have g5:=g6.J c5.wf a0 (fun h=>h);obtain⟨S',p,x,f4,f9,g7⟩:=g5.freeze d6;have i1:=k9.loc x f4 ⟨by decide,by decide⟩;have e9:=i4.J x id;have f2:=i6.J x id;have sD:=qR a8 c5.wf sC a0 (fun N hb=>by rw[show N=b6 from hb];exact h6);have sE:=qR a8 d6 sD x nE;have h5: ∀u d,ca w4 S u d->ca _ S' u d:=fun u d hr=>((hr.J (bD.O e8 ax ax S jY)).J a0).J x;refine L a _ S' p K I H G F vk (k.sb) sE (fun u d hr=>h5 u d (h7 u d hr)) i1 f2 e9 ?_ (fun q u d y X=>h5 u d (g0 q u d y X)) f9 g5.has;intro N l hl;have y:=(x.iu N l hl);rcases y with y|y
  ·rcases A.iu N l y with X|X
   ·exact hn N l X
   ·rw[show l=60 from X]at hl;exact absurd hl (g7 N)
  ·rw[show l=60 from y]at hl;exact absurd hl (g7 N)
end
end Go.Proofs.Ytjhmkaninmgilaa
