/- Part 9 of the proof of RaftOne; no condition. -/
import Derived.Test.YtjhmkaninmgilaaS08
import Derived.Test.YtjhmkaninmgilaaS05
import Derived.KernelRfl
set_option linter.unusedVariables false
set_option linter.unusedSimpArgs false
set_option maxHeartbeats 4000000
open Go.IntKind (i64)
namespace Go.Proofs.Ytjhmkaninmgilaa
open Go Go.RowKit Go.dV Go.Proofs
structure GS where
 fv:List D
 fl:List D
 iC:List RS
 saved:List D
 kI:List D
 told:List D
 bR:List D
 dL:List D
 read:List D
 bJ:List (List D)
 bad:Bool
structure GR where
 fv:Value
 fl:Value
 l:Value
 saved:Value
 kI:Value
 told:Value
 bR:Value
 dL:Value
 read:Value
 bJ:Value
 la:List Nat
 lb:List Nat
 va:List Value
 vv:List Value
def bp(b:Nat):Value:=.pointer (some ⟨b,0,none⟩)
structure GM(w:World)(S:bU)(ow:Ow)(b:Nat)(vs:List Value)(R:GR)(g:GS):Prop where
 wf:Wf w S ow
 obj:Ai w ow 0 b 59 vs
 fv:cH w S R.fv (.list g.fv)
 fl:cH w S R.fl (.list g.fl)
 arr:lC w ow 1 52 R.l (R.la.map bp)
 vI:R.lb.length=g.iC.length
 iC: ∀(i:Nat) s,g.iC[i]? =some s→ ∃bs,R.lb[i]? =some bs∧mP w S ow (1000+i) (ew 0) bs [cR s,cL s] ∧dK (.dJ fq) (encS s)
 saved:dW w S ow 10 65 ml R.saved g.saved
 kI:dW w S ow 11 49 mj R.kI g.kI
 told:dW w S ow 12 78 eP R.told g.told
 bR:dW w S ow 13 3 I6 R.bR g.bR
 dL:dW w S ow 14 3 I6 R.dL g.dL
 read:dW w S ow 15 3 I6 R.read g.read
 EW:lC w ow 2 29 R.bJ R.va
 AQ:R.vv.length=g.bJ.length
 q8: ∀(i:Nat) l,g.bJ[i]? =some l→ ∃v,R.vv[i]? =some v∧dW w S ow (100+i) 3 I6 v l
def GR.cells(R:GR)(bad:Bool):List Value:=[R.fv,R.fl,R.l,R.saved,R.kI,R.told,R.bR,R.bJ,R.dL,R.read,.bool bad]
def nw(w:World)(S:bU)(ow:Ow)(b:Nat)(g:GS):Prop:= ∃R:GR,GM w S ow b (R.cells g.bad) R g∧R.la=R.lb∧R.va=R.vv
section
variable{w w':World}{S S':bU}{ow bX:Ow}{b:Nat}{vs:List Value}{R:GR}{g:GS}{L X:Nat→Prop}
theorem GM.bw(h:GM w S ow b vs R g)(st:br ax X w S ow w' S' bX)(hw:Wf w' S' bX):GM w' S' bX b vs R g:=
 ⟨hw,h.obj.bw st (fun h=>h),h.fv.bw st,h.fl.bw st,h.arr.bw h.wf st (fun h=>h),h.vI,fun i s hi=>let ⟨bs,h1,h2,h3⟩:=h.iC i s hi;⟨bs,h1,h2.bw h.wf hw st (fun h=>h) rfl,h3⟩,h.saved.bw h.wf st (fun h=>h),h.kI.bw h.wf st (fun h=>h),h.told.bw h.wf st (fun h=>h),h.bR.bw h.wf st (fun h=>h),h.dL.bw h.wf st (fun h=>h),h.read.bw h.wf st (fun h=>h),h.EW.bw h.wf st (fun h=>h),h.AQ,fun i l hi=>let ⟨v,h1,h2⟩:=h.q8 i l hi;⟨v,h1,h2.bw h.wf st (fun h=>h)⟩⟩
theorem GM.loc{l:Nat}(h:GM w S ow b vs R g)(st:br (kG l) X w S ow w' S' bX)(hw:Wf w' S' bX)(hl:60≤l∧l<100):GM w' S' bX b vs R g:=
 ⟨hw,h.obj.bw st cB,h.fv.bw st,h.fl.bw st,h.arr.bw h.wf st cB,h.vI,fun i s hi=>let ⟨bs,h1,h2,h3⟩:=h.iC i s hi;⟨bs,h1,h2.bw h.wf hw st cB rfl,h3⟩,h.saved.bw h.wf st cB,h.kI.bw h.wf st cB,h.told.bw h.wf st cB,h.bR.bw h.wf st cB,h.dL.bw h.wf st cB,h.read.bw h.wf st cB,h.EW.bw h.wf st cB,h.AQ,fun i l hi=>let ⟨v,h1,h2⟩:=h.q8 i l hi;⟨v,h1,h2.bw h.wf st cB⟩⟩
theorem GM.setObj{G4:List Value}(h:GM w S ow b vs R g)(st:br (kG 0) X w S ow w' S' bX)(hw:Wf w' S' bX)(ho:Ai w' bX 0 b 59 G4):GM w' S' bX b G4 R g:=
 ⟨hw,ho,h.fv.bw st,h.fl.bw st,h.arr.bw h.wf st cB,h.vI,fun i s hi=>let ⟨bs,h1,h2,h3⟩:=h.iC i s hi;⟨bs,h1,h2.bw h.wf hw st cB rfl,h3⟩,h.saved.bw h.wf st cB,h.kI.bw h.wf st cB,h.told.bw h.wf st cB,h.bR.bw h.wf st cB,h.dL.bw h.wf st cB,h.read.bw h.wf st cB,h.EW.bw h.wf st cB,h.AQ,fun i l hi=>let ⟨v,h1,h2⟩:=h.q8 i l hi;⟨v,h1,h2.bw h.wf st cB⟩⟩
theorem GM.U8{v:Value}{la:List Nat}(h:GM w S ow b vs R g)(st:br (kG 1) X w S ow w' S' bX)(hw:Wf w' S' bX)(ho:lC w' bX 1 52 v (la.map bp)):GM w' S' bX b vs {R with l:=v,la:=la} g:=
 ⟨hw,h.obj.bw st cB,h.fv.bw st,h.fl.bw st,ho,h.vI,fun i s hi=>let ⟨bs,h1,h2,h3⟩:=h.iC i s hi;⟨bs,h1,h2.bw h.wf hw st cB rfl,h3⟩,h.saved.bw h.wf st cB,h.kI.bw h.wf st cB,h.told.bw h.wf st cB,h.bR.bw h.wf st cB,h.dL.bw h.wf st cB,h.read.bw h.wf st cB,h.EW.bw h.wf st cB,h.AQ,fun i l hi=>let ⟨v,h1,h2⟩:=h.q8 i l hi;⟨v,h1,h2.bw h.wf st cB⟩⟩
theorem GM.U6{v:Value}{va:List Value}(h:GM w S ow b vs R g)(st:br (kG 2) X w S ow w' S' bX)(hw:Wf w' S' bX)(ho:lC w' bX 2 29 v va):GM w' S' bX b vs {R with bJ:=v,va:=va} g:=
 ⟨hw,h.obj.bw st cB,h.fv.bw st,h.fl.bw st,h.arr.bw h.wf st cB,h.vI,fun i s hi=>let ⟨bs,h1,h2,h3⟩:=h.iC i s hi;⟨bs,h1,h2.bw h.wf hw st cB rfl,h3⟩,h.saved.bw h.wf st cB,h.kI.bw h.wf st cB,h.told.bw h.wf st cB,h.bR.bw h.wf st cB,h.dL.bw h.wf st cB,h.read.bw h.wf st cB,ho,h.AQ,fun i l hi=>let ⟨v,h1,h2⟩:=h.q8 i l hi;⟨v,h1,h2.bw h.wf st cB⟩⟩
theorem GM.Gm{v:Value}{xs:List D}(h:GM w S ow b vs R g)(st:br (kG 10) X w S ow w' S' bX)(hw:Wf w' S' bX)(ho:dW w' S' bX 10 65 ml v xs):GM w' S' bX b vs {R with saved:=v} {g with saved:=xs}:=
 ⟨hw,h.obj.bw st cB,h.fv.bw st,h.fl.bw st,h.arr.bw h.wf st cB,h.vI,fun i s hi=>let ⟨bs,h1,h2,h3⟩:=h.iC i s hi;⟨bs,h1,h2.bw h.wf hw st cB rfl,h3⟩,ho,h.kI.bw h.wf st cB,h.told.bw h.wf st cB,h.bR.bw h.wf st cB,h.dL.bw h.wf st cB,h.read.bw h.wf st cB,h.EW.bw h.wf st cB,h.AQ,fun i l hi=>let ⟨v,h1,h2⟩:=h.q8 i l hi;⟨v,h1,h2.bw h.wf st cB⟩⟩
theorem GM.OZ{v:Value}{xs:List D}(h:GM w S ow b vs R g)(st:br (kG 11) X w S ow w' S' bX)(hw:Wf w' S' bX)(ho:dW w' S' bX 11 49 mj v xs):GM w' S' bX b vs {R with kI:=v} {g with kI:=xs}:=
 ⟨hw,h.obj.bw st cB,h.fv.bw st,h.fl.bw st,h.arr.bw h.wf st cB,h.vI,fun i s hi=>let ⟨bs,h1,h2,h3⟩:=h.iC i s hi;⟨bs,h1,h2.bw h.wf hw st cB rfl,h3⟩,h.saved.bw h.wf st cB,ho,h.told.bw h.wf st cB,h.bR.bw h.wf st cB,h.dL.bw h.wf st cB,h.read.bw h.wf st cB,h.EW.bw h.wf st cB,h.AQ,fun i l hi=>let ⟨v,h1,h2⟩:=h.q8 i l hi;⟨v,h1,h2.bw h.wf st cB⟩⟩
theorem GM.Kk{v:Value}{xs:List D}(h:GM w S ow b vs R g)(st:br (kG 12) X w S ow w' S' bX)(hw:Wf w' S' bX)(ho:dW w' S' bX 12 78 eP v xs):GM w' S' bX b vs {R with told:=v} {g with told:=xs}:=
 ⟨hw,h.obj.bw st cB,h.fv.bw st,h.fl.bw st,h.arr.bw h.wf st cB,h.vI,fun i s hi=>let ⟨bs,h1,h2,h3⟩:=h.iC i s hi;⟨bs,h1,h2.bw h.wf hw st cB rfl,h3⟩,h.saved.bw h.wf st cB,h.kI.bw h.wf st cB,ho,h.bR.bw h.wf st cB,h.dL.bw h.wf st cB,h.read.bw h.wf st cB,h.EW.bw h.wf st cB,h.AQ,fun i l hi=>let ⟨v,h1,h2⟩:=h.q8 i l hi;⟨v,h1,h2.bw h.wf st cB⟩⟩
theorem GM.Er{v:Value}{xs:List D}(h:GM w S ow b vs R g)(st:br (kG 13) X w S ow w' S' bX)(hw:Wf w' S' bX)(ho:dW w' S' bX 13 3 I6 v xs):GM w' S' bX b vs {R with bR:=v} {g with bR:=xs}:=
 ⟨hw,h.obj.bw st cB,h.fv.bw st,h.fl.bw st,h.arr.bw h.wf st cB,h.vI,fun i s hi=>let ⟨bs,h1,h2,h3⟩:=h.iC i s hi;⟨bs,h1,h2.bw h.wf hw st cB rfl,h3⟩,h.saved.bw h.wf st cB,h.kI.bw h.wf st cB,h.told.bw h.wf st cB,ho,h.dL.bw h.wf st cB,h.read.bw h.wf st cB,h.EW.bw h.wf st cB,h.AQ,fun i l hi=>let ⟨v,h1,h2⟩:=h.q8 i l hi;⟨v,h1,h2.bw h.wf st cB⟩⟩
theorem GM.Gl{v:Value}{xs:List D}(h:GM w S ow b vs R g)(st:br (kG 14) X w S ow w' S' bX)(hw:Wf w' S' bX)(ho:dW w' S' bX 14 3 I6 v xs):GM w' S' bX b vs {R with dL:=v} {g with dL:=xs}:=
 ⟨hw,h.obj.bw st cB,h.fv.bw st,h.fl.bw st,h.arr.bw h.wf st cB,h.vI,fun i s hi=>let ⟨bs,h1,h2,h3⟩:=h.iC i s hi;⟨bs,h1,h2.bw h.wf hw st cB rfl,h3⟩,h.saved.bw h.wf st cB,h.kI.bw h.wf st cB,h.told.bw h.wf st cB,h.bR.bw h.wf st cB,ho,h.read.bw h.wf st cB,h.EW.bw h.wf st cB,h.AQ,fun i l hi=>let ⟨v,h1,h2⟩:=h.q8 i l hi;⟨v,h1,h2.bw h.wf st cB⟩⟩
theorem GM.Dr{i bs:Nat}{s':RS}(h:GM w S ow b vs R g)(st:br (kG (1000+i)) X w S ow w' S' bX)(hw:Wf w' S' bX)(hi:i<g.iC.length)(hb:R.lb[i]? =some bs)(ho:mP w' S' bX (1000+i) (ew 0) bs [cR s',cL s'])(jA:dK (.dJ fq) (encS s'))(hv:g.bJ.length≤5):GM w' S' bX b vs R {g with iC:=g.iC.set i s'}:=
 ⟨hw,h.obj.bw st cB,h.fv.bw st,h.fl.bw st,h.arr.bw h.wf st cB,by rw[bE];exact h.vI,fun j s hj=>(by
  rw[cT]at hj
  by_cases yp:i=j
  ·subst yp
   rw[if_pos rfl,if_pos hi]at hj
   injection hj with hj
   subst hj
   exact⟨bs,hb,ho,jA⟩
  ·rw[if_neg yp]at hj
   obtain⟨b2,h1,h2,h3⟩:=h.iC j s hj
   exact⟨b2,h1,h2.bw h.wf hw st cB rfl,h3⟩),h.saved.bw h.wf st cB,h.kI.bw h.wf st cB,h.told.bw h.wf st cB,h.bR.bw h.wf st cB,h.dL.bw h.wf st cB,h.read.bw h.wf st cB,h.EW.bw h.wf st cB,h.AQ,fun j l hj=>let ⟨v,h1,h2⟩:=h.q8 j l hj;⟨v,h1,h2.bw h.wf st (by have h9:j<g.bJ.length:=(aH.1 hj).1;simp only[kG];omega)⟩⟩
theorem GM.O0{i:Nat}{v:Value}{l:List D}(h:GM w S ow b vs R g)(st:br (kG (100+i)) X w S ow w' S' bX)(hw:Wf w' S' bX)(hi:i<g.bJ.length)(ho:dW w' S' bX (100+i) 3 I6 v l)(hn:i<100):GM w' S' bX b vs {R with vv:=R.vv.set i v} {g with bJ:=g.bJ.set i l}:=
 ⟨hw,h.obj.bw st cB,h.fv.bw st,h.fl.bw st,h.arr.bw h.wf st cB,h.vI,fun i s hi=>let ⟨bs,h1,h2,h3⟩:=h.iC i s hi;⟨bs,h1,h2.bw h.wf hw st cB rfl,h3⟩,h.saved.bw h.wf st cB,h.kI.bw h.wf st cB,h.told.bw h.wf st cB,h.bR.bw h.wf st cB,h.dL.bw h.wf st cB,h.read.bw h.wf st cB,h.EW.bw h.wf st cB,by rw[bE,bE];exact h.AQ,fun j x hj=>(by
  rw[cT]at hj
  by_cases yp:i=j
  ·subst yp
   rw[if_pos rfl,if_pos hi]at hj
   injection hj with hj
   subst hj
   exact⟨v,by rw[cT,if_pos rfl,if_pos (by rw[h.AQ];exact hi)],ho⟩
  ·rw[if_neg yp]at hj
   obtain⟨b2,h1,h2⟩:=h.q8 j x hj
   exact⟨b2,by rw[cT,if_neg yp];exact h1,h2.bw h.wf st cB⟩)⟩
theorem GM.cell(h:GM w S ow b vs R g){X:Nat→Prop}(hX: ¬X b){j:Nat}{v:Value}(hj:vs[j]? =some v): ∀w',SX X w w'→w'.cell? ⟨b,j,none⟩=some v:=by
 intro w' hw
 rw[bg (hw.2 b h.obj.lt hX)]
 exact k9 h.obj.heap hj
theorem GM.bu{w1:World}(h:GM w S ow b vs R g)(e:Cn w w1):GM w1 S ow b vs R g:=by
 refine h.bw (br.bu e ax ax S ow) ⟨fun b o hs=>by rw[e.heap];exact h.wf.s b o hs,fun b l hl=>by rw[e.heap];exact h.wf.o b l hl,h.wf.d⟩
end
theorem Wb{ex:Bool}{w:World}{S S2:bU}{T:TypeId}{t:Ty}{v:Value}{d:D}(h:xJ ex w 0 S T t v d)(hS: ∀b o,S b o→S2 b o)(hb: ∀b,v.ownBlock=some b→ ∀o,S2 b o):cH w S2 v d:=by
 obtain⟨xs,l,rfl,dm,_,hr⟩:=h.own
 rcases dm.2 with⟨rfl,hn⟩|⟨g,cap,cur,rfl,_,hg,ke,He,kP,LB⟩
 ·have:l=[] :=au hn
  subst this
  exact .nil _ _
 ·by_cases fY:l=[]
  ·subst fY;exact .nil _ _
  ·obtain⟨l',lD,_,iG⟩:=bK.1 h.has
   injection lD with lD;subst lD
   refine .list g 0 cap t.cells.length xs l h.sz fY ke dm.1 (fun i hi=>hb g rfl _) ?_ ?_ ?_
   ·intro i u hu
    have:=dm.cells (g:=g) rfl i u hu
    rw[gF,ay]at this
    rw[ay];exact this
   ·intro i d hd
    exact(cN (iG d (ca hd))).1
   ·intro i d j u c hd hc hu
    exact(hr i d j u c hd hc hu).keep hS (fun _ _ _=>rfl)
theorem ya{w:World}{S S2:bU}{τ:Nat→Value}{r:bD}{v:Value}{d:D}(h:k7 w 0 S τ r v d)(hS: ∀b o,S b o→S2 b o)(hb: ∀j T,r.2=some (j,T)→ ∀b,(τ j).ownBlock=some b→ ∀o,S2 b o):cH w S2 v d:=by
 obtain⟨t,ro⟩:=r
 cases ro with
 |none=>exact h.1.keep hS (fun _ _ _=>rfl)
 |some jT=>
  obtain⟨j,T⟩:=jT
  obtain⟨rfl,hO⟩:=h
  exact Wb hO hS (hb j T rfl)
theorem EE{w:World}{S:bU}{τ:Nat→Value}{r:bD}{v:Value}{d:D}(h:k7 w 0 S τ r v d):Has (JC r) d:=by
 obtain⟨t,ro⟩:=r
 cases ro with
 |none=>exact h.2
 |some jT=>
  obtain⟨j,T⟩:=jT
  exact h.2.has
theorem wA{w:World}{S:bU}{τ:Nat→Value}{rc:List bD}{b:Nat}{cells:List D}(h:Gd w S τ rc b cells):cells.length=rc.length∧dK (.dJ (rc.map JC)) cells:=by
 obtain⟨jZ,T,_,h2,h3,h4,_⟩:=h
 refine⟨h3,jQ (by rw[aw];exact h3) ?_⟩
 intro j u x hu hx
 rw[ah,da]at hu
 obtain⟨r,hr,rfl⟩:=hu
 have hj:j<jZ.length:=by rw[h2];exact(aH.1 hr).1
 exact EE (h4 j r (jZ[j]'hj) x hr (aW _) hx)
theorem KJ: ∀{a b:List Ty} {x y:List D},x.length=a.length→dK (.dJ a) x→dK (.dJ b) y→dK (.dJ (a++b)) (x++y)
 | [],b,x,y,hl,_,h2=>by
  have:x=[] :=au hl
  subst this;exact h2
 |t::a,b,x,y,hl,h1,h2=>by
  obtain⟨u,r,rfl,h3,h4⟩:=aj.1 h1
  exact aj.2 ⟨u,r++y,rfl,h3,KJ (by simpa using hl) h4 h2⟩
section
variable{w w':World}{S S':bU}{ow bX:Ow}{l b:Nat}{s:RS}
theorem iz(h:mP w S ow l (ew 0) b [cR s,cL s]):dK (.dJ fq) (encS s):=by
 obtain⟨β,τ,_,ly,_⟩:=h
 obtain⟨h1,h2⟩:=wA (ly.cC 0 nD (cR s) rfl rfl)
 obtain⟨h3,h4⟩:=wA (ly.cC 1 kb (cL s) rfl rfl)
 exact KJ (by rw[aw];exact h1) h2 h4
theorem QT(h:mP w S ow l (ew 0) b [cR s,cL s])(S2:bU)(hS: ∀b o,S b o→S2 b o)(hl: ∀b o,ow b=some l→S2 b o):cH w S2 (.pointer (some ⟨b,0,none⟩)) (Hy s)∧Has wZ (Hy s):=by
 obtain⟨β,τ,hb,ly,yf⟩:=h
 obtain⟨v0,T0,a1,a2,a3,a4,a5⟩:=ly.cC 0 nD (cR s) rfl rfl
 obtain⟨v1,T1,b1,b2,b3,b4,b5⟩:=ly.cC 1 kb (cL s) rfl rfl
 have RL:ow (β 0)=some l:=yf _ (.inl ⟨0,by decide,rfl⟩)
 have hm1:ow (β 1)=some l:=yf _ (.inl ⟨1,by decide,rfl⟩)
 have dm: ∀(o:Nat) (rc:List bD),(ew 0).cC[o]? =some rc→ ∀(i:Nat) (r:bD),rc[i]? =some r→ ∀j T,r.2=some (j,T)→ ∀b,(τ j).ownBlock=some b→ ∀o,S2 b o:=by
  intro o rc ho i r hr j T hj b' ju o'
  exact hl b' o' (yf b' (.inr ⟨j,dh.2 ⟨rc,ca ho,bH.2 ⟨r,ca hr,by rw[hj];rfl⟩⟩,ju⟩))
 have avJ:cH w S2 (.pointer (some ⟨β 1,0,none⟩)) (.ptr (cL s)):=by
  refine .ptr (β 1) v1 (cL s) (by rw[b2,b3]) (fun i _=>hl _ i hm1) (fun i v hv=>k9 b1 hv) ?_
  intro i v d hv hd
  have hi:i<kb.length:=by rw[←b2];exact(aH.1 hv).1
  have hr:kb[i]? =some (kb[i]'hi):=aW _
  exact ya (b4 i _ v d hr hv hd) hS (dm 1 kb rfl i _ hr)
 have alL:Hy s= .ptr ((cR s).set 13 (.ptr (cL s))):=rfl
 have hlen:(cR s).length=v0.length:=by rw[a2];exact a3
 constructor
 ·rw[alL,←hb]
  refine .ptr (β 0) v0 _ (by rw[bE];exact hlen.symm) (fun i _=>hl _ i RL) (fun i v hv=>k9 a1 hv) ?_
  intro i v d hv hd
  have hi:i<nD.length:=by rw[←a2];exact(aH.1 hv).1
  rw[cT]at hd
  by_cases RQ:13=i
  ·subst RQ
   rw[if_pos rfl,if_pos (by rw[a3];exact hi)]at hd
   injection hd with hd
   subst hd
   have LD:=ly.link (by decide) 0 13 nD rfl rfl
   rw[k9 a1 hv]at LD
   injection LD with LD
   subst LD
   exact avJ
  ·rw[if_neg RQ]at hd
   have hr:nD[i]? =some (nD[i]'hi):=aW _
   exact ya (a4 i _ v d hr hv hd) hS (dm 0 nD rfl i _ hr)
 ·rw[alL]
  refine jH.2 ⟨_,rfl,jQ (by rw[bE,a3,aw]) ?_⟩
  intro j u x hu hx
  rw[ah,da]at hu
  obtain⟨r,hr,rfl⟩:=hu
  rw[cT]at hx
  by_cases RQ:13=j
  ·subst RQ
   rw[if_pos rfl,if_pos (by rw[a3];decide)]at hx
   injection hx with hx
   subst hx
   have E0:r=NY:=by
    have:nD[13]? =some NY:=rfl
    rw[this]at hr;injection hr with hr;exact hr.symm
   subst E0
   rw[if_pos rfl]
   refine jH.2 ⟨_,rfl,?_⟩
   exact(wA (ly.cC 1 kb (cL s) rfl rfl)).2
  ·rw[if_neg RQ]at hx
   have hj:j<v0.length:=by rw[a2];exact(aH.1 hr).1
   have hc:=a4 j r (v0[j]'hj) x hr (aW _) hx
   by_cases LD:r=NY
   ·exfalso
    subst LD
    have hj2:=(aH.1 hr).1
    have hj3:j<51:=hj2
    have iG:((List.range 51).all fun j=>j==13|| !(nD[j]? ==some NY))=true:=by decide+kernel
    have:=cn.1 iG j (cW.2 hj3)
    rw[hr]at this
    simp only[beq_self_eq_true,Bool.not_true,Bool.or_false,beq_iff_eq]at this
    exact RQ this.symm
   ·rw[if_neg LD];exact EE hc
theorem vj(h:mP w S ow l (ew 0) b [cR s,cL s])(hw:Wf w S ow)(cI:Ok s 0):
  Calls Try.prog 12 #[.pointer (some ⟨b,0,none⟩)] w fun e w'=> ∃A1 n1 c1 A2 n2 c2,e= .returned (.agg [.int .i64 s.role,.int .i64 s.bR,.int .i64 s.term,.int .i64 s.vote,.int .i64 s.aZ,.int .i64 (s.li+s.le.length),.int .i64 s.li,.slice A1 n1 c1,.slice A2 n2 c2].toArray)∧
   n1=(vo (fO s)).length∧br ax ax w S ow w' S ow∧Wf w' S ow:=by
 obtain⟨hr,hh⟩:=QT h (fun b o=>S b o∨ow b=some l) (fun _ _ h=>.inl h) (fun _ _ h=>.inr h)
 refine(c12.calls rfl w (fun b o=>S b o∨ow b=some l) [.pointer (some ⟨b,0,none⟩)] [Hy s] (fun b o hs=>hs.elim (hw.s b o) (hw.o b l)) rfl ?_ (aj.2 ⟨_,_,rfl,hh,dr.2 rfl⟩) cI).mono ?_
 ·intro i v d hv hd
  match i,hv,hd with
  |0,hv,hd=>injection hv with hv;injection hd with hd;subst hv hd;exact hr
 ·rintro e w1 ⟨v,S',τ,rfl,hb,_,_,_,fi,_⟩
  have oZ:br ax ax w S ow w1 S ow∧Wf w1 S ow:=⟨⟨hb.size,hb.os,hb.tape,hb.output,fun b _ ju _ _=>hb.block b ju,fun b ju _ _=>hb.block b ju,fun _ _ h=>h,fun b o hs=>bg (hb.block b (hw.s b o hs)),fun _ _ h _=>h,fun _ _ h=>.inl h,fun _ _ h=>h,fun _ _ h=>.inl h⟩,
   ⟨fun b o hs=>ar (hw.s b o hs) hb.size,fun b l hl=>ar (hw.o b l hl) hb.size,hw.d⟩⟩
  rcases fi with⟨c,hc,hq⟩|⟨hc,_⟩
  ·injection hc with hc
   subst hc
   unfold hH at hq
   rw[if_pos rfl]at hq
   obtain⟨us,ds,rfl,hd,zP,wN,eW⟩:=hq
   have qC:ds=[D.int .i64 s.role,.int .i64 s.bR,.int .i64 s.term,.int .i64 s.vote,.int .i64 s.aZ,.int .i64 (s.li+s.le.length),.int .i64 s.li,cD 0 (fO s),cD 1 (fO s)] :=by
    have e:cF 12 [Hy s] = .agg [D.int .i64 s.role,.int .i64 s.bR,.int .i64 s.term,.int .i64 s.vote,.int .i64 s.aZ,.int .i64 (s.li+s.le.length),.int .i64 s.li,cD 0 (fO s),cD 1 (fO s)] :=rfl
    rw[e]at hd
    injection hd with hd
    exact hd.symm
   subst qC
   have avj:us.length=9:=zP
   match us,avj with
   | [u0,u1,u2,u3,u4,u5,u6,u7,u8],_=>
    have g0:=(eW 0 _ _ _ rfl rfl rfl).1.cX
    have g1:=(eW 1 _ _ _ rfl rfl rfl).1.cX
    have g2:=(eW 2 _ _ _ rfl rfl rfl).1.cX
    have g3:=(eW 3 _ _ _ rfl rfl rfl).1.cX
    have g4:=(eW 4 _ _ _ rfl rfl rfl).1.cX
    have g5:=(eW 5 _ _ _ rfl rfl rfl).1.cX
    have g6:=(eW 6 _ _ _ rfl rfl rfl).1.cX
    subst g0 g1 g2 g3 g4 g5 g6
    obtain⟨rfl,h7⟩:=eW 7 _ _ _ rfl rfl rfl
    obtain⟨rfl,h8⟩:=eW 8 _ _ _ rfl rfl rfl
    obtain⟨x7,l7,e7,o7,_⟩:=h7.own
    obtain⟨x8,l8,e8,o8,_⟩:=h8.own
    have hv: ∀{v:Value} {n:Nat} {xs:List Value},w1.ownsRow 0 3 1 v n xs→ ∃A c,v= .slice A n c:=by
     intro v n xs ho
     rcases ho.2 with⟨rfl,hn⟩|⟨g,cap,cur,rfl,_⟩
     ·exact⟨none,0,by rw[hn]⟩
     ·exact⟨_,cap,rfl⟩
    obtain⟨A1,q1,i1⟩:=hv o7
    obtain⟨A2,q2,i2⟩:=hv o8
    refine⟨A1,l7.length,q1,A2,l8.length,q2,by rw[i1,i2],?_,oZ⟩
    have:(cD 0 (fO s)).aV=l7:=by rw[e7];rfl
    unfold vo jR
    rw[aw]
    rw[←this]
    rfl
  ·exact absurd rfl hc
theorem vQ{τ:Nat→Value}{v:Value}{d:D}{ts:List Ty}(h:iL w 0 S τ [(true,pl ts)] v d):cH w S v d∧Has (.agg (.dJ ts)) d:=by
 rcases h with⟨c,hc,hq⟩|⟨hc,_⟩
 ·injection hc with hc
  subst hc
  unfold hH at hq
  rw[if_pos rfl]at hq
  obtain⟨us,ds,rfl,rfl,zP,wN,eW⟩:=hq
  have jY: ∀(i:Nat) u y,us[i]? =some u→ds[i]? =some y→ ∃t,ts[i]? =some t∧cH w S u y∧Has t y:=by
   intro i u y hu hy
   have hi:i<ts.length:=by have:=(aH.1 hu).1;rw[zP]at this;simpa [pl]using this
   have hr:(pl ts)[i]? =some (ts[i]'hi,none):=by simp[pl,aW hi]
   exact⟨ts[i]'hi,aW hi,eW i _ u y hr hu hy⟩
  refine⟨.agg us ds (by rw[zP];exact wN.symm) (fun i u y hu hy=>(jY i u y hu hy).choose_spec.2.1),eN.2 ⟨ds,rfl,jQ (by rw[wN];simp[pl]) ?_⟩⟩
  intro j t x ht hx
  have hj:j<us.length:=by have:=(aH.1 hx).1;rw[zP,←wN];exact this
  obtain⟨t',h1,_,h2⟩:=jY j (us[j]'hj) x (aW _) hx
  rw[ht]at h1;injection h1 with h1;subst h1;exact h2
 ·exact absurd rfl hc
def akL:List Ty:=[.bool,I6,I6,.list eP,.ptr (.dJ yB),.list mj,.list eP,.list Ak]
def JD:Ty:=.agg (.dJ akL)
theorem Az{x:Int}(h:mP w S ow l (ew 0) b [cR s,cL s])(hw:Wf w S ow)(qY:1000≤l)(hx:oY .i64 x)(cI:Ok s 20):
  Calls Try.prog 15 #[.pointer (some ⟨b,0,none⟩),.int .i64 x] w fun e w'=> ∃v S' bX,e= .returned v∧br (kG l) ax w S ow w' S' bX∧Wf w' S' bX∧mP w' S' bX l (ew 0) b [cR (fW x s).2,cL (fW x s).2] ∧cH w' S' v (fW x s).1∧Has JD (fW x s).1:=by
 have jA:dK (.dJ s15.params) ([D.int .i64 x] ++[cR s,cL s].flatten):=aj.2 ⟨_,_,rfl,⟨x,rfl,hx⟩,iz h⟩
 refine(h.call (ob0:=ew 0) (vs:=[.int .i64 x]) (n:=1) c15 rfl rfl rfl rfl rfl rfl (by decide) (.inl (by decide)) rfl qY hw rfl rfl ?_ jA cI).mono ?_
 ·intro i v d hv hd
  match i,hv,hd with
  |0,hv,hd=>injection hv with hv;injection hd with hd;subst hv hd;exact .int _ _
 ·rintro e w1 ⟨v,S',bX,τ,d0,outs,rfl,pa,mM,oZ,lu,fX,fi⟩
  have e:cF 15 ([D.int .i64 x] ++[cR s,cL s].flatten)= .fx [(fW x s).1,.agg (cR (fW x s).2),.agg (cL (fW x s).2)] :=rfl
  rw[e]at pa
  injection pa with pa
  have SR:outs.length=2:=mM
  match outs,SR with
  | [o1,o2],_=>
   simp only[cZ,List.map_nil,eJ,D.agg.injEq,and_true]at pa
   obtain⟨rfl,rfl,rfl⟩:=pa
   exact⟨v,S',bX,rfl,oZ,lu,fX,(vQ fi).1,(vQ fi).2⟩
theorem Qx{x:D}{u:Value}(h:mP w S ow l (ew 0) b [cR s,cL s])(hw:Wf w S ow)(qY:1000≤l)(hx:Has mj x)(hr:cH w S u x)(cI:Ok s (20+(cD 12 x).aV.length))(hlen:(cD 12 x).aV.length≤2147483648):
  Calls Try.prog 17 #[.pointer (some ⟨b,0,none⟩),u] w fun e w'=> ∃v S' bX,e= .returned v∧br (kG l) ax w S ow w' S' bX∧Wf w' S' bX∧mP w' S' bX l (ew 0) b [cR (pg x s).2,cL (pg x s).2] ∧cH w' S' v (pg x s).1∧Has JD (pg x s).1:=by
 have jA:dK (.dJ s17.params) ([x] ++[cR s,cL s].flatten):=aj.2 ⟨_,_,rfl,hx,iz h⟩
 refine(h.call (ob0:=ew 0) (vs:=[u]) (n:=1) c17 rfl rfl rfl rfl rfl rfl (by decide) (.inl (by decide)) rfl qY hw rfl rfl ?_ jA ⟨cI,hlen⟩).mono ?_
 ·intro i v d hv hd
  match i,hv,hd with
  |0,hv,hd=>injection hv with hv;injection hd with hd;subst hv hd;exact hr
 ·rintro e w1 ⟨v,S',bX,τ,d0,outs,rfl,pa,mM,oZ,lu,fX,fi⟩
  have e:cF 17 ([x] ++[cR s,cL s].flatten)= .fx [(pg x s).1,.agg (cR (pg x s).2),.agg (cL (pg x s).2)] :=rfl
  rw[e]at pa
  injection pa with pa
  have SR:outs.length=2:=mM
  match outs,SR with
  | [o1,o2],_=>
   simp only[cZ,List.map_nil,eJ,D.agg.injEq,and_true]at pa
   obtain⟨rfl,rfl,rfl⟩:=pa
   exact⟨v,S',bX,rfl,oZ,lu,fX,(vQ fi).1,(vQ fi).2⟩
end
noncomputable section
def aQ(i:Nat)(f:Func):=Du i (jz f)
abbrev oM(d x:Nat)(g:Option (Nat×Bool):=none):OK:=(some d,.move (.tmp x),g)
abbrev oA(d x:Nat)(g:Option (Nat×Bool):=none):OK:=(some d,.assign (.tmp x),g)
abbrev oN(d x:Nat)(g:Option (Nat×Bool):=none):OK:=(some d,.nilCheck (.tmp x),g)
abbrev oF(d t x i:Nat)(g:Option (Nat×Bool):=none):OK:=(some d,.fieldAddr t (.tmp x) i,g)
abbrev oL(d t x:Nat)(g:Option (Nat×Bool):=none):OK:=(some d,.load t (.tmp x),g)
abbrev oI(d t x y:Nat)(g:Option (Nat×Bool):=none):OK:=(some d,.indexAddr t (.tmp x) (.tmp y),g)
abbrev oC(d f:Nat)(a:Array Operand)(t:Array Nat)(g:Option (Nat×Bool):=none):OK:=(some d,.call {callee:=.value (.func f),args:=a,argTypes:=t},g)
abbrev oE(d x t:Nat)(g:Option (Nat×Bool):=none):OK:=(some d,.call {callee:=.builtin .len,args:=#[.tmp x],argTypes:=#[t]},g)
abbrev oP(d x y:Nat)(b:Bool)(g:Option (Nat×Bool):=none):OK:=(some d,.pick (.tmp x) (.tmp y) (.const (.bool b)),g)
abbrev oB(d:Nat)(o:BinOp)(t x y:Nat)(g:Option (Nat×Bool):=none):OK:=(some d,.binOp o t (.tmp x) (.tmp y) t,g)
abbrev oS(t x y:Nat)(g:Option (Nat×Bool):=none):OK:=(none,.store t (.tmp x) (.tmp y),g)
def aaT:=aQ 0 Try.f54
def aaS:=aQ 1 Try.f54
def aaR:=aQ 2 Try.f54
def aaQ:=aQ 3 Try.f54
theorem amE:b8 aaT=[(some 4,.assign (.const (.slice none 0 0)),none)] :=by kernel_rfl
theorem amD:b8 aaS=[oM 5 0,
 oE 6 5 29,
 oM 7 1,
 oB 8 .leq 3 6 7] :=by kernel_rfl
theorem amC:b8 aaR=[oM 9 0,
 (some 10,.buildSlice 29 1 #[(0,.const (.int .i64 0))],none),
 (some 11,.call {callee:=.builtin .append,args:= #[(.tmp 9),(.tmp 10)],argTypes:= #[29,29]},none),
 oA 0 11] :=by kernel_rfl
theorem amB:b8 aaQ=[oM 12 0,
 oA 4 12] :=by kernel_rfl
theorem ahi:jz Try.f54=(.seq (.region 0 aaT false) (.seq (.block 0 (.loop (.seq (.seq (.region 1 aaS false) (.cond (.tmp 8) .skip (.exit 0))) (.block 1 (.region 2 aaR false))))) (.seq (.region 3 aaQ false) .ret))):=by kernel_rfl
theorem U0:Try.f54.body=some (jz Try.f54):=by kernel_rfl
theorem auT:Try.f54.ntmps=13:=by kernel_rfl
theorem amk:Try.f54.results= #[.tmp 4] :=by kernel_rfl
theorem Pj(args:Array Value)(w:World):(callFunc 54 args).run Try.prog w= .ok (.enter 54 args) w:=by
 unfold callFunc
 have hn:Try.f54.name≠ "runtime.NumGoroutine" :=by decide+kernel
 simp[Try.func54,U0,hn]
def aa1:=aQ 0 Try.f19
def aa0:=aQ 1 Try.f19
def Oy:=aQ 2 Try.f19
def aaZ:=aQ 3 Try.f19
def T6:=aQ 4 Try.f19
def T5:=aQ 5 Try.f19
def T4:=aQ 6 Try.f19
def T3:=aQ 7 Try.f19
def Ox:=aQ 8 Try.f19
def TZ:=aQ 9 Try.f19
def HV:=aQ 10 Try.f19
def HU:=aQ 11 Try.f19
def HT:=aQ 12 Try.f19
def HS:=aQ 13 Try.f19
def DA:=aQ 14 Try.f19
theorem am5:b8 aa1=[oM 7 0,
 oN 8 7,
 oF 9 59 8 1,
 oL 10 54 9,
 oM 11 1,
 oI 12 54 10 11,
 oL 13 52 12,
 oC 14 12 #[(.tmp 13)] #[52],
 (some 4,.alloc 67,none),
 oS 67 4 14] :=by kernel_rfl
theorem am4:b8 aa0=[oF 15 67 4 2,
 oF 16 61 15 0,
 oL 17 3 16,
 oM 18 0,
 oN 19 18,
 oF 20 59 19 7,
 oL 21 29 20,
 oM 22 1,
 oI 23 29 21 22,
 oL 24 3 23,
 oB 25 .lss 3 17 24,
 oM 26 25,
 oF 27 67 4 2 (some (11,false)),
 oF 28 61 27 0 (some (11,false)),
 oL 29 3 28 (some (11,false)),
 (some 30,.binOp .gtr 3 (.tmp 29) (.const (.int .i64 5000)) 3,some (11,false)),
 (some 31,.pick (.tmp 26) (.const (.bool true)) (.tmp 30),none)] :=by kernel_rfl
theorem am3:b8 Oy=[oM 32 0,
 oM 33 0,
 oN 34 33,
 oF 35 59 34 9,
 oL 36 4 35,
 oM 37 36,
 oF 38 67 4 2 (some (5,false)),
 oF 39 61 38 0 (some (5,false)),
 oL 40 3 39 (some (5,false)),
 oM 41 0 (some (5,false)),
 oN 42 41 (some (5,false)),
 oF 43 59 42 7 (some (5,false)),
 oL 44 29 43 (some (5,false)),
 oM 45 1 (some (5,false)),
 oI 46 29 44 45 (some (5,false)),
 oL 47 3 46 (some (5,false)),
 oB 48 .lss 3 40 47 (some (5,false)),
 (some 49,.pick (.tmp 37) (.const (.bool true)) (.tmp 48),none),
 oN 50 32,
 oF 51 59 50 9,
 oS 4 51 49] :=by kernel_rfl
theorem am2:b8 aaZ=[oM 52 0,
 oN 53 52,
 oF 54 59 53 7,
 oL 55 29 54,
 oM 56 1,
 oF 57 67 4 2,
 oF 58 61 57 0,
 oL 59 3 58,
 oI 60 29 55 56,
 oS 3 60 59] :=by kernel_rfl
theorem am1:b8 T6=[oM 61 0,
 oN 62 61,
 oF 63 59 62 6,
 oL 64 57 63,
 oM 65 1,
 oM 66 0,
 oN 67 66,
 oF 68 59 67 6,
 oL 69 57 68,
 oM 70 1,
 oI 71 57 69 70,
 oL 72 29 71,
 oF 73 67 4 2,
 oF 74 61 73 0,
 oL 75 3 74,
 oC 76 54 #[(.tmp 72),(.tmp 75)] #[29,3],
 oI 77 57 64 65,
 oS 29 77 76] :=by kernel_rfl
theorem am0:b8 T5=[oM 78 0,
 oN 79 78,
 oF 80 59 79 6,
 oL 81 57 80,
 oM 82 1,
 oI 83 57 81 82,
 oL 84 29 83,
 oF 85 67 4 2,
 oF 86 61 85 0,
 oL 87 3 86,
 oI 88 29 84 87,
 oL 89 3 88,
 oA 5 89] :=by kernel_rfl
theorem amZ:b8 T4=[oM 90 5,
 (some 91,.binOp .neq 3 (.tmp 90) (.const (.int .i64 0)) 3,none),
 oM 92 91,
 oF 93 67 4 2 (some (2,true)),
 oF 94 61 93 1 (some (2,true)),
 oL 95 3 94 (some (2,true)),
 oM 96 5 (some (2,true)),
 oB 97 .neq 3 95 96 (some (2,true)),
 oP 98 92 97 false] :=by kernel_rfl
theorem amY:b8 T3=[oM 99 0,
 oN 100 99,
 oF 101 59 100 9,
 (none,.store 4 (.tmp 101) (.const (.bool true)),none)] :=by kernel_rfl
theorem amX:b8 Ox=[oM 102 0,
 oN 103 102,
 oF 104 59 103 6,
 oL 105 57 104,
 oM 106 1,
 oI 107 57 105 106,
 oL 108 29 107,
 oF 109 67 4 2,
 oF 110 61 109 0,
 oL 111 3 110,
 oF 112 67 4 2,
 oF 113 61 112 1,
 oL 114 3 113,
 oI 115 29 108 111,
 oS 3 115 114] :=by kernel_rfl
theorem amW:b8 TZ=[oF 116 67 4 0,
 oL 117 3 116,
 (some 118,.binOp .eql 3 (.tmp 117) (.const (.int .i64 2)) 3,none)] :=by kernel_rfl
theorem afW:b8 HV=[oM 119 0,
 oM 120 0,
 oN 121 120,
 oF 122 59 121 5,
 oL 123 29 122,
 oF 124 67 4 2,
 oF 125 61 124 0,
 oL 126 3 125,
 oC 127 54 #[(.tmp 123),(.tmp 126)] #[29,3],
 oN 128 119,
 oF 129 59 128 5,
 oS 29 129 127] :=by kernel_rfl
theorem afV:b8 HU=[oM 130 0,
 oN 131 130,
 oF 132 59 131 5,
 oL 133 29 132,
 oF 134 67 4 2,
 oF 135 61 134 0,
 oL 136 3 135,
 oI 137 29 133 136,
 oL 138 3 137,
 oA 6 138] :=by kernel_rfl
theorem afU:b8 HT=[oM 139 6,
 (some 140,.binOp .neq 3 (.tmp 139) (.const (.int .i64 0)) 3,none),
 oM 141 140,
 oM 142 6 (some (2,true)),
 oM 143 1 (some (2,true)),
 (some 144,.binOp .add 3 (.tmp 143) (.const (.int .i64 1)) 3,some (2,true)),
 oB 145 .neq 3 142 144 (some (2,true)),
 oP 146 141 145 false] :=by kernel_rfl
theorem afT:b8 HS=[oM 147 0,
 oN 148 147,
 oF 149 59 148 9,
 (none,.store 4 (.tmp 149) (.const (.bool true)),none)] :=by kernel_rfl
theorem afS:b8 DA=[oM 150 0,
 oN 151 150,
 oF 152 59 151 5,
 oL 153 29 152,
 oF 154 67 4 2,
 oF 155 61 154 0,
 oL 156 3 155,
 oM 157 1,
 (some 158,.binOp .add 3 (.tmp 157) (.const (.int .i64 1)) 3,none),
 oI 159 29 153 156,
 oS 3 159 158] :=by kernel_rfl
theorem ahk:jz Try.f19=(.seq (.region 0 aa1 false) (.seq (.seq (.region 1 aa0 true) (.cond (.tmp 31) (.seq (.region 2 Oy true) .ret) .skip)) (.seq (.region 3 aaZ true) (.seq (.region 4 T6 true) (.seq (.region 5 T5 true) (.seq (.seq (.region 6 T4 false) (.cond (.tmp 98) (.region 7 T3 false) .skip)) (.seq (.region 8 Ox true) (.seq (.region 9 TZ false) (.cond (.tmp 118) (.seq (.region 10 HV true) (.seq (.region 11 HU true) (.seq (.seq (.region 12 HT false) (.cond (.tmp 146) (.region 13 HS false) .skip)) (.region 14 DA true)))) .skip))))))))):=by kernel_rfl
theorem U2:Try.f19.body=some (jz Try.f19):=by kernel_rfl
theorem auV:Try.f19.ntmps=160:=by kernel_rfl
theorem TA:Try.f19.results= #[] :=by kernel_rfl
theorem Pk(args:Array Value)(w:World):(callFunc 19 args).run Try.prog w= .ok (.enter 19 args) w:=by
 unfold callFunc
 have hn:Try.f19.name≠ "runtime.NumGoroutine" :=by decide+kernel
 simp[Try.func19,U2,hn]
def aaY:=aQ 0 Try.f30
def aaX:=aQ 1 Try.f30
def aaW:=aQ 2 Try.f30
def aaV:=aQ 3 Try.f30
def anU:=aQ 4 Try.f30
def anT:=aQ 5 Try.f30
def anS:=aQ 6 Try.f30
def anQ:=aQ 8 Try.f30
def anP:=aQ 9 Try.f30
def anR:=aQ 7 Try.f30
def ags:=aQ 10 Try.f30
def agr:=aQ 11 Try.f30
def Vj:=aQ 12 Try.f30
def Vi:=aQ 13 Try.f30
def MA:=aQ 14 Try.f30
def Mz:=aQ 15 Try.f30
def My:=aQ 17 Try.f30
def Mx:=aQ 18 Try.f30
def HR:=aQ 16 Try.f30
def Dz:=aQ 19 Try.f30
def Dy:=aQ 20 Try.f30
def HQ:=aQ 21 Try.f30
theorem amV:b8 aaY=[(some 5,.box 75 (.tmp 2),none)] :=by kernel_rfl
theorem amU:b8 aaX=[oM 11 0,
 oN 12 11,
 oF 13 59 12 2,
 oL 14 55 13,
 oM 15 1,
 oI 16 55 14 15,
 oL 17 65 16,
 (some 6,.alloc 65,none),
 oS 65 6 17] :=by kernel_rfl
theorem amT:b8 aaW=[oF 18 75 5 1,
 oL 19 61 18,
 oF 20 65 6 0,
 oS 61 20 19] :=by kernel_rfl
theorem amS:b8 aaV=[oF 21 75 5 3,
 oL 22 72 21,
 (some 23,.binOp .neq 72 (.tmp 22) (.const (.pointer none)) 72,none)] :=by kernel_rfl
theorem afR:b8 Vj=[oF 75 75 5 2,
 oL 76 28 75,
 oE 77 76 28,
 (some 78,.binOp .gtr 3 (.tmp 77) (.const (.int .i64 0)) 3,none)] :=by kernel_rfl
theorem afQ:b8 Vi=[(some 9,.assign (.const (.slice none 0 0)),none)] :=by kernel_rfl
theorem afP:b8 MA=[(some 10,.assign (.const (.int .i64 0)),none)] :=by kernel_rfl
theorem afO:b8 Mz=[oM 79 10,
 oF 80 65 6 2,
 oL 81 28 80,
 oE 82 81 28,
 oB 83 .lss 3 79 82] :=by kernel_rfl
theorem afM:b8 My=[oF 86 65 6 2,
 oL 87 28 86,
 oM 88 10,
 oI 89 28 87 88,
 oF 90 78 89 0,
 oL 91 3 90,
 oF 92 75 5 2,
 oL 93 28 92,
 (some 94,.indexAddr 28 (.tmp 93) (.const (.int .i64 0)),none),
 oF 95 78 94 0,
 oL 96 3 95,
 oB 97 .lss 3 91 96] :=by kernel_rfl
theorem afL:b8 Mx=[oM 98 9,
 oF 99 65 6 2,
 oL 100 28 99,
 oM 101 10,
 oI 102 28 100 101,
 oL 103 78 102,
 (some 104,.buildSlice 28 1 #[(0,.tmp 103)],none),
 (some 105,.call {callee:=.builtin .append,args:= #[(.tmp 98),(.tmp 104)],argTypes:= #[28,28]},none),
 oA 9 105] :=by kernel_rfl
theorem afN:b8 HR=[oM 84 10,
 (some 85,.binOp .add 3 (.tmp 84) (.const (.int .i64 1)) 3,none),
 oA 10 85] :=by kernel_rfl
theorem afK:b8 Dz=[oM 106 9,
 oF 107 75 5 2,
 oL 108 28 107,
 (some 109,.call {callee:=.builtin .append,args:= #[(.tmp 106),(.tmp 108)],argTypes:= #[28,28]},none),
 oA 9 109] :=by kernel_rfl
theorem afJ:b8 Dy=[oM 110 9,
 oF 111 65 6 2,
 oS 28 111 110] :=by kernel_rfl
theorem afI:b8 HQ=[oM 112 0,
 oN 113 112,
 oF 114 59 113 2,
 oL 115 55 114,
 oM 116 1,
 oL 117 65 6,
 oI 118 55 115 116,
 oS 65 118 117] :=by kernel_rfl
theorem ahj:jz Try.f30=(.seq (.region 0 aaY false) (.seq (.region 1 aaX false) (.seq (.region 2 aaW false) (.seq (.seq (.region 3 aaV false) (.cond (.tmp 23) (.seq (.region 4 anU false) (.seq (.seq (.region 5 anT false) (.block 0 (.loop (.seq (.seq (.region 6 anS false) (.cond (.tmp 28) .skip (.exit 0))) (.seq (.block 1 (.seq (.region 8 anQ true) (.cond (.tmp 59) (.region 9 anP false) .skip))) (.region 7 anR false)))))) (.seq (.region 10 ags false) (.region 11 agr false)))) .skip)) (.seq (.seq (.region 12 Vj false) (.cond (.tmp 78) (.seq (.region 13 Vi false) (.seq (.seq (.region 14 MA false) (.block 2 (.loop (.seq (.seq (.region 15 Mz false) (.cond (.tmp 83) .skip (.exit 2))) (.seq (.block 3 (.seq (.region 17 My true) (.cond (.tmp 97) (.region 18 Mx false) .skip))) (.region 16 HR false)))))) (.seq (.region 19 Dz false) (.region 20 Dy false)))) .skip)) (.region 21 HQ true)))))):=by kernel_rfl
theorem U1:Try.f30.body=some (jz Try.f30):=by kernel_rfl
theorem auU:Try.f30.ntmps=119:=by kernel_rfl
theorem aml:Try.f30.results= #[] :=by kernel_rfl
theorem ZD(args:Array Value)(w:World):(callFunc 30 args).run Try.prog w= .ok (.enter 30 args) w:=by
 unfold callFunc
 have hn:Try.f30.name≠ "runtime.NumGoroutine" :=by decide+kernel
 simp[Try.func30,U1,hn]
def aa4:=aQ 0 Try.f14
def aa3:=aQ 1 Try.f14
def aa2:=aQ 2 Try.f14
def Ud:=aQ 3 Try.f14
def Uc:=aQ 4 Try.f14
def Ub:=aQ 5 Try.f14
def Ua:=aQ 6 Try.f14
def T8:=aQ 8 Try.f14
def T7:=aQ 9 Try.f14
def ME:=aQ 10 Try.f14
def MD:=aQ 11 Try.f14
def MC:=aQ 12 Try.f14
def MB:=aQ 13 Try.f14
def HX:=aQ 14 Try.f14
def DB:=aQ 15 Try.f14
def T9:=aQ 7 Try.f14
def HW:=aQ 16 Try.f14
theorem ang:b8 aa4=[(some 6,.box 75 (.tmp 2),none)] :=by kernel_rfl
theorem anf:b8 aa3=[oF 12 75 6 0,
 oL 13 4 12] :=by kernel_rfl
theorem ane:b8 aa2=[oM 14 0,
 oM 15 1,
 oL 16 75 6,
 oC 17 30 #[(.tmp 14),(.tmp 15),(.tmp 16)] #[24,3,75]] :=by kernel_rfl
theorem anc:b8 Ud=[oM 18 0,
 oN 19 18,
 oF 20 59 19 3,
 oL 21 56 20,
 oE 22 21 56,
 (some 23,.binOp .lss 3 (.tmp 22) (.const (.int .i64 400)) 3,none),
 oM 24 23,
 oM 25 3 (some (6,true)),
 (some 26,.unOp .not 4 (.tmp 25),some (6,true)),
 oP 27 24 26 false] :=by kernel_rfl
theorem anb:b8 Uc=[oM 28 0,
 oM 29 0,
 oN 30 29,
 oF 31 59 30 3,
 oL 32 56 31,
 oF 33 75 6 4,
 oL 34 56 33,
 (some 35,.call {callee:=.builtin .append,args:= #[(.tmp 32),(.tmp 34)],argTypes:= #[56,56]},none),
 oN 36 28,
 oF 37 59 36 3,
 oS 56 37 35] :=by kernel_rfl
theorem ana:b8 Ub=[(some 8,.assign (.const (.int .i64 0)),none)] :=by kernel_rfl
theorem am9:b8 Ua=[oM 38 8,
 oF 39 75 6 5,
 oL 40 28 39,
 oE 41 40 28,
 oB 42 .lss 3 38 41] :=by kernel_rfl
theorem am7:b8 T8=[oF 45 75 6 5,
 oL 46 28 45,
 oM 47 8,
 oI 48 28 46 47,
 oL 49 78 48,
 (some 9,.alloc 78,none),
 oS 78 9 49] :=by kernel_rfl
theorem am6:b8 T7=[oM 50 0,
 oN 51 50,
 oF 52 59 51 4,
 oL 53 28 52,
 oE 54 53 28,
 oF 55 78 9 0,
 oL 56 3 55,
 oB 57 .leq 3 54 56] :=by kernel_rfl
theorem af3:b8 ME=[oM 58 0,
 oM 59 0,
 oN 60 59,
 oF 61 59 60 4,
 oL 62 28 61,
 (some 63,.build 78 #[],none),
 (some 64,.buildSlice 28 1 #[(0,.tmp 63)],none),
 (some 65,.call {callee:=.builtin .append,args:= #[(.tmp 62),(.tmp 64)],argTypes:= #[28,28]},none),
 oN 66 58,
 oF 67 59 66 4,
 oS 28 67 65] :=by kernel_rfl
theorem af2:b8 MD=[oM 68 0,
 oN 69 68,
 oF 70 59 69 4,
 oL 71 28 70,
 oF 72 78 9 0,
 oL 73 3 72,
 oI 74 28 71 73,
 oL 75 78 74,
 (some 10,.alloc 78,none),
 oS 78 10 75] :=by kernel_rfl
theorem af1:b8 MC=[oF 76 78 9 2,
 oL 77 44 76,
 oF 78 78 10 2,
 oL 79 44 78,
 oC 80 31 #[(.tmp 77),(.tmp 79)] #[44,44],
 oA 11 80] :=by kernel_rfl
theorem af0:b8 MB=[oF 81 78 10 0,
 oL 82 3 81,
 (some 83,.binOp .neq 3 (.tmp 82) (.const (.int .i64 0)) 3,none),
 oM 84 83,
 oF 85 78 10 1 (some (3,true)),
 oL 86 3 85 (some (3,true)),
 oF 87 78 9 1 (some (3,true)),
 oL 88 3 87 (some (3,true)),
 oB 89 .neq 3 86 88 (some (3,true)),
 oM 90 89 (some (3,true)),
 oM 91 11 (some (9,false)),
 (some 92,.unOp .not 4 (.tmp 91),some (9,false)),
 (some 93,.pick (.tmp 90) (.const (.bool true)) (.tmp 92),some (3,true)),
 oP 94 84 93 false] :=by kernel_rfl
theorem afZ:b8 HX=[oM 95 0,
 oN 96 95,
 oF 97 59 96 9,
 (none,.store 4 (.tmp 97) (.const (.bool true)),none)] :=by kernel_rfl
theorem afY:b8 DB=[oM 98 0,
 oN 99 98,
 oF 100 59 99 4,
 oL 101 28 100,
 oF 102 78 9 0,
 oL 103 3 102,
 oL 104 78 9,
 oI 105 28 101 103,
 oS 78 105 104] :=by kernel_rfl
theorem am8:b8 T9=[oM 43 8,
 (some 44,.binOp .add 3 (.tmp 43) (.const (.int .i64 1)) 3,none),
 oA 8 44] :=by kernel_rfl
theorem afX:b8 HW=[oM 106 0,
 oM 107 1,
 oC 108 19 #[(.tmp 106),(.tmp 107)] #[24,3]] :=by kernel_rfl
theorem ahl:jz Try.f14=(.seq (.region 0 aa4 false) (.seq (.seq (.region 1 aa3 false) (.cond (.tmp 13) (.region 2 aa2 false) .skip)) (.seq (.seq (.region 3 Ud false) (.cond (.tmp 27) (.region 4 Uc true) .skip)) (.seq (.seq (.region 5 Ub false) (.block 0 (.loop (.seq (.seq (.region 6 Ua false) (.cond (.tmp 42) .skip (.exit 0))) (.seq (.block 1 (.seq (.region 8 T8 false) (.seq (.block 2 (.loop (.seq (.seq (.region 9 T7 true) (.cond (.tmp 57) .skip (.exit 2))) (.block 3 (.region 10 ME false))))) (.seq (.region 11 MD true) (.seq (.region 12 MC false) (.seq (.seq (.region 13 MB false) (.cond (.tmp 94) (.region 14 HX false) .skip)) (.region 15 DB true))))))) (.region 7 T9 false)))))) (.region 16 HW false))))):=by kernel_rfl
theorem U3:Try.f14.body=some (jz Try.f14):=by kernel_rfl
theorem auW:Try.f14.ntmps=109:=by kernel_rfl
theorem amm:Try.f14.results= #[] :=by kernel_rfl
theorem yT(args:Array Value)(w:World):(callFunc 14 args).run Try.prog w= .ok (.enter 14 args) w:=by
 unfold callFunc
 have hn:Try.f14.name≠ "runtime.NumGoroutine" :=by decide+kernel
 simp[Try.func14,U3,hn]
def akT:=aQ 0 Try.f9
def akS:=aQ 1 Try.f9
def akR:=aQ 2 Try.f9
def akQ:=aQ 3 Try.f9
def akO:=aQ 5 Try.f9
def akP:=aQ 4 Try.f9
def aev:=aQ 6 Try.f9
def aeu:=aQ 7 Try.f9
def akM:=aQ 9 Try.f9
def akN:=aQ 8 Try.f9
def TJ:=aQ 10 Try.f9
def TI:=aQ 11 Try.f9
def TG:=aQ 13 Try.f9
def TF:=aQ 14 Try.f9
def TE:=aQ 15 Try.f9
def TD:=aQ 16 Try.f9
def TH:=aQ 12 Try.f9
def TC:=aQ 17 Try.f9
theorem aud:b8 akT=[(some 4,.assign (.const (.pointer none)),none)] :=by kernel_rfl
theorem auc:b8 akS=[(some 9,.build 59 #[],none),
 (some 10,.box 59 (.tmp 9),none),
 oA 5 10] :=by kernel_rfl
theorem aub:b8 akR=[(some 6,.assign (.const (.int .i64 1)),none)] :=by kernel_rfl
theorem aua:b8 akQ=[oM 11 6,
 oM 12 1,
 oB 13 .leq 3 11 12] :=by kernel_rfl
theorem at8:b8 akO=[oM 16 5,
 oM 17 5,
 oN 18 17,
 oF 19 59 18 0,
 oF 20 31 19 0,
 oL 21 29 20,
 oM 22 6,
 (some 23,.buildSlice 29 1 #[(0,.tmp 22)],none),
 (some 24,.call {callee:=.builtin .append,args:= #[(.tmp 21),(.tmp 23)],argTypes:= #[29,29]},none),
 oN 25 16,
 oF 26 59 25 0,
 oF 27 31 26 0,
 oS 29 27 24] :=by kernel_rfl
theorem at9:b8 akP=[oM 14 6,
 (some 15,.binOp .add 3 (.tmp 14) (.const (.int .i64 1)) 3,none),
 oA 6 15] :=by kernel_rfl
theorem at7:b8 aev=[oM 28 1,
 (some 29,.binOp .add 3 (.tmp 28) (.const (.int .i64 1)) 3,none),
 oA 7 29] :=by kernel_rfl
theorem at6:b8 aeu=[oM 30 7,
 oM 31 0,
 oB 32 .leq 3 30 31] :=by kernel_rfl
theorem amA:b8 TJ=[(some 8,.assign (.const (.int .i64 1)),none)] :=by kernel_rfl
theorem amz:b8 TI=[oM 47 8,
 oM 48 0,
 oB 49 .leq 3 47 48] :=by kernel_rfl
theorem amx:b8 TG=[oM 52 5,
 oM 53 5,
 oN 54 53,
 oF 55 59 54 2,
 oL 56 55 55,
 (some 57,.build 65 #[],none),
 (some 58,.buildSlice 55 1 #[(0,.tmp 57)],none),
 (some 59,.call {callee:=.builtin .append,args:= #[(.tmp 56),(.tmp 58)],argTypes:= #[55,55]},none),
 oN 60 52,
 oF 61 59 60 2,
 oS 55 61 59] :=by kernel_rfl
theorem amw:b8 TF=[oM 62 5,
 oM 63 5,
 oN 64 63,
 oF 65 59 64 1,
 oL 66 54 65,
 oM 67 8,
 oM 68 5,
 oN 69 68,
 oF 70 59 69 0,
 oL 71 31 70,
 (some 72,.build 65 #[],none),
 oC 73 11 #[(.tmp 67),(.tmp 71),(.tmp 72)] #[3,31,65],
 (some 74,.buildSlice 54 1 #[(0,.tmp 73)],none),
 (some 75,.call {callee:=.builtin .append,args:= #[(.tmp 66),(.tmp 74)],argTypes:= #[54,54]},none),
 oN 76 62,
 oF 77 59 76 1,
 oS 54 77 75] :=by kernel_rfl
theorem amv:b8 TE=[oM 78 5,
 oM 79 5,
 oN 80 79,
 oF 81 59 80 6,
 oL 82 57 81,
 (some 83,.buildSlice 57 1 #[(0,.const (.slice none 0 0))],none),
 (some 84,.call {callee:=.builtin .append,args:= #[(.tmp 82),(.tmp 83)],argTypes:= #[57,57]},none),
 oN 85 78,
 oF 86 59 85 6,
 oS 57 86 84] :=by kernel_rfl
theorem amu:b8 TD=[oM 87 5,
 oM 88 5,
 oN 89 88,
 oF 90 59 89 7,
 oL 91 29 90,
 (some 92,.buildSlice 29 1 #[(0,.const (.int .i64 0))],none),
 (some 93,.call {callee:=.builtin .append,args:= #[(.tmp 91),(.tmp 92)],argTypes:= #[29,29]},none),
 oN 94 87,
 oF 95 59 94 7,
 oS 29 95 93] :=by kernel_rfl
theorem amy:b8 TH=[oM 50 8,
 (some 51,.binOp .add 3 (.tmp 50) (.const (.int .i64 1)) 3,none),
 oA 8 51] :=by kernel_rfl
theorem amt:b8 TC=[oM 96 5,
 oA 4 96] :=by kernel_rfl
theorem ao3:jz Try.f9=(.seq (.region 0 akT false) (.seq (.region 1 akS false) (.seq (.seq (.region 2 akR false) (.block 0 (.loop (.seq (.seq (.region 3 akQ false) (.cond (.tmp 13) .skip (.exit 0))) (.seq (.block 1 (.region 5 akO false)) (.region 4 akP false)))))) (.seq (.seq (.region 6 aev false) (.block 2 (.loop (.seq (.seq (.region 7 aeu false) (.cond (.tmp 32) .skip (.exit 2))) (.seq (.block 3 (.region 9 akM false)) (.region 8 akN false)))))) (.seq (.seq (.region 10 TJ false) (.block 4 (.loop (.seq (.seq (.region 11 TI false) (.cond (.tmp 49) .skip (.exit 4))) (.seq (.block 5 (.seq (.region 13 TG false) (.seq (.region 14 TF true) (.seq (.region 15 TE false) (.region 16 TD false))))) (.region 12 TH false)))))) (.seq (.region 17 TC false) .ret)))))):=by kernel_rfl
theorem aaA:Try.f9.body=some (jz Try.f9):=by kernel_rfl
theorem nt9:Try.f9.ntmps=97:=by kernel_rfl
theorem at2:Try.f9.results= #[.tmp 4] :=by kernel_rfl
theorem VK(args:Array Value)(w:World):(callFunc 9 args).run Try.prog w= .ok (.enter 9 args) w:=by
 unfold callFunc
 have hn:Try.f9.name≠ "runtime.NumGoroutine" :=by decide+kernel
 simp[Try.func9,aaA,hn]
def aa9:=aQ 0 Try.f13
def aa8:=aQ 1 Try.f13
def aa7:=aQ 2 Try.f13
def aa6:=aQ 3 Try.f13
def Ui:=aQ 5 Try.f13
def aa5:=aQ 4 Try.f13
def Uh:=aQ 6 Try.f13
def Ug:=aQ 7 Try.f13
def Ue:=aQ 9 Try.f13
def Uf:=aQ 8 Try.f13
def MG:=aQ 10 Try.f13
def MF:=aQ 11 Try.f13
theorem anr:b8 aa9=[(some 0,.assign (.const (.bool false)),none)] :=by kernel_rfl
theorem anq:b8 aa8=[oC 5 9 #[(.const (.int .i64 3)),(.const (.int .i64 3))] #[3,3],
 oA 1 5] :=by kernel_rfl
theorem anp:b8 aa7=[(some 2,.assign (.const (.int .i64 0)),none)] :=by kernel_rfl
theorem ano:b8 aa6=[oM 6 2,
 (some 7,.binOp .lss 3 (.tmp 6) (.const (.int .i64 10)) 3,none)] :=by kernel_rfl
theorem anl:b8 Ui=[oM 10 1,
 oM 11 1,
 oN 12 11,
 oF 13 59 12 1,
 oL 14 54 13,
 (some 15,.indexAddr 54 (.tmp 14) (.const (.int .i64 0)),none),
 oL 16 52 15,
 oC 17 15 #[(.tmp 16),(.const (.int .i64 0))] #[52,3],
 oC 18 14 #[(.tmp 10),(.const (.int .i64 0)),(.tmp 17),(.const (.bool false))] #[24,3,75,4]] :=by kernel_rfl
theorem anm:b8 aa5=[oM 8 2,
 (some 9,.binOp .add 3 (.tmp 8) (.const (.int .i64 1)) 3,none),
 oA 2 9] :=by kernel_rfl
theorem ank:b8 Uh=[(some 3,.assign (.const (.int .i64 0)),none)] :=by kernel_rfl
theorem anj:b8 Ug=[oM 19 3,
 (some 20,.binOp .lss 3 (.tmp 19) (.const (.int .i64 4)) 3,none)] :=by kernel_rfl
theorem anh:b8 Ue=[oM 23 1,
 (some 24,.build 51 #[(0,.const (.int .i64 6))],none),
 oC 25 10 #[(.tmp 23),(.tmp 24)] #[24,51]] :=by kernel_rfl
theorem ani:b8 Uf=[oM 21 3,
 (some 22,.binOp .add 3 (.tmp 21) (.const (.int .i64 1)) 3,none),
 oA 3 22] :=by kernel_rfl
theorem af5:b8 MG=[oM 26 1,
 oN 27 26,
 oF 28 59 27 1,
 oL 29 54 28,
 (some 30,.indexAddr 54 (.tmp 29) (.const (.int .i64 0)),none),
 oL 31 52 30,
 oC 32 12 #[(.tmp 31)] #[52],
 (some 4,.alloc 67,none),
 oS 67 4 32] :=by kernel_rfl
theorem af4:b8 MF=[oF 33 67 4 0,
 oL 34 3 33,
 (some 35,.binOp .eql 3 (.tmp 34) (.const (.int .i64 2)) 3,none),
 oM 36 35,
 oF 37 67 4 3 (some (3,true)),
 oL 38 3 37 (some (3,true)),
 (some 39,.binOp .eql 3 (.tmp 38) (.const (.int .i64 1)) 3,some (3,true)),
 oP 40 36 39 false,
 oM 41 40,
 oF 42 67 4 2 (some (8,true)),
 oF 43 61 42 0 (some (8,true)),
 oL 44 3 43 (some (8,true)),
 (some 45,.binOp .eql 3 (.tmp 44) (.const (.int .i64 1)) 3,some (8,true)),
 oP 46 41 45 false,
 oM 47 46,
 oM 48 1 (some (14,true)),
 oN 49 48 (some (14,true)),
 oF 50 59 49 9 (some (14,true)),
 oL 51 4 50 (some (14,true)),
 (some 52,.unOp .not 4 (.tmp 51),some (14,true)),
 oP 53 47 52 false,
 oA 0 53] :=by kernel_rfl
theorem ahm:jz Try.f13=(.seq (.region 0 aa9 false) (.seq (.region 1 aa8 false) (.seq (.seq (.region 2 aa7 false) (.block 0 (.loop (.seq (.seq (.region 3 aa6 false) (.cond (.tmp 7) .skip (.exit 0))) (.seq (.block 1 (.region 5 Ui false)) (.region 4 aa5 false)))))) (.seq (.seq (.region 6 Uh false) (.block 2 (.loop (.seq (.seq (.region 7 Ug false) (.cond (.tmp 20) .skip (.exit 2))) (.seq (.block 3 (.region 9 Ue false)) (.region 8 Uf false)))))) (.seq (.region 10 MG false) (.seq (.region 11 MF false) .ret)))))):=by kernel_rfl
theorem U4:Try.f13.body=some (jz Try.f13):=by kernel_rfl
theorem auX:Try.f13.ntmps=54:=by kernel_rfl
theorem amn:Try.f13.results= #[.tmp 0] :=by kernel_rfl
theorem ZE(args:Array Value)(w:World):(callFunc 13 args).run Try.prog w= .ok (.enter 13 args) w:=by
 unfold callFunc
 have hn:Try.f13.name≠ "runtime.NumGoroutine" :=by decide+kernel
 simp[Try.func13,U4,hn]
def abn:=aQ 0 Try.f10
def abm:=aQ 1 Try.f10
def abl:=aQ 2 Try.f10
def abk:=aQ 3 Try.f10
def abj:=aQ 4 Try.f10
def an0:=aQ 5 Try.f10
def abi:=aQ 6 Try.f10
def anZ:=aQ 7 Try.f10
def anY:=aQ 8 Try.f10
def agV:=aQ 10 Try.f10
def anX:=aQ 9 Try.f10
def Vx:=aQ 11 Try.f10
def Vw:=aQ 12 Try.f10
def Vv:=aQ 13 Try.f10
def agU:=aQ 14 Try.f10
def agT:=aQ 15 Try.f10
def agR:=aQ 17 Try.f10
def agQ:=aQ 18 Try.f10
def agP:=aQ 19 Try.f10
def agO:=aQ 20 Try.f10
def agN:=aQ 21 Try.f10
def agM:=aQ 22 Try.f10
def agL:=aQ 23 Try.f10
def agK:=aQ 24 Try.f10
def agJ:=aQ 25 Try.f10
def agS:=aQ 16 Try.f10
def Vu:=aQ 26 Try.f10
def MP:=aQ 27 Try.f10
def MO:=aQ 28 Try.f10
def MN:=aQ 29 Try.f10
def ML:=aQ 30 Try.f10
def MI:=aQ 32 Try.f10
def MH:=aQ 33 Try.f10
def MK:=aQ 31 Try.f10
def Vt:=aQ 34 Try.f10
def agI:=aQ 35 Try.f10
def agH:=aQ 36 Try.f10
def agG:=aQ 37 Try.f10
def agF:=aQ 38 Try.f10
def agE:=aQ 39 Try.f10
def agD:=aQ 40 Try.f10
def Vs:=aQ 41 Try.f10
def Vr:=aQ 42 Try.f10
def agC:=aQ 43 Try.f10
def agB:=aQ 44 Try.f10
def agA:=aQ 45 Try.f10
def agz:=aQ 46 Try.f10
def agy:=aQ 47 Try.f10
def Vq:=aQ 48 Try.f10
def agx:=aQ 49 Try.f10
def agw:=aQ 50 Try.f10
def agv:=aQ 51 Try.f10
def Vp:=aQ 52 Try.f10
def Vo:=aQ 53 Try.f10
def Vn:=aQ 54 Try.f10
def agu:=aQ 55 Try.f10
def Vm:=aQ 56 Try.f10
def Vl:=aQ 57 Try.f10
theorem aaO:b8 abn=[(some 3,.box 51 (.tmp 1),none)] :=by kernel_rfl
theorem aaN:b8 abm=[oF 22 51 3 1,
 oL 23 3 22,
 oM 24 0,
 oN 25 24,
 oF 26 59 25 1,
 oL 27 54 26,
 oE 28 27 54,
 oC 29 8 #[(.tmp 23),(.tmp 28)] #[3,3],
 oA 4 29] :=by kernel_rfl
theorem aaM:b8 abl=[oF 30 51 3 0,
 oL 31 3 30,
 oC 32 8 #[(.tmp 31),(.const (.int .i64 12))] #[3,3]] :=by kernel_rfl
theorem aaL:b8 abk=[(some 34,.binOp .eql 3 (.tmp 32) (.const (.int .i64 0)) 3,none),
 oA 33 34] :=by kernel_rfl
theorem aaK:b8 abj=[(some 35,.binOp .eql 3 (.tmp 32) (.const (.int .i64 1)) 3,none),
 oA 33 35] :=by kernel_rfl
theorem aaJ:b8 abi=[(some 51,.binOp .eql 3 (.tmp 32) (.const (.int .i64 2)) 3,none),
 oA 50 51] :=by kernel_rfl
theorem Ve:b8 Vx=[(some 71,.binOp .eql 3 (.tmp 32) (.const (.int .i64 3)) 3,none),
 oA 70 71] :=by kernel_rfl
theorem Vd:b8 Vw=[(some 72,.binOp .eql 3 (.tmp 32) (.const (.int .i64 4)) 3,none),
 oA 70 72] :=by kernel_rfl
theorem Vc:b8 Vv=[(some 73,.binOp .eql 3 (.tmp 32) (.const (.int .i64 5)) 3,none),
 oA 70 73] :=by kernel_rfl
theorem Vb:b8 Vu=[(some 164,.binOp .eql 3 (.tmp 32) (.const (.int .i64 6)) 3,none),
 oA 163 164] :=by kernel_rfl
theorem agm:b8 MP=[oM 165 0,
 oN 166 165,
 oF 167 59 166 3,
 oL 168 56 167,
 oA 10 168] :=by kernel_rfl
theorem agl:b8 MO=[oM 169 0,
 oN 170 169,
 oF 171 59 170 3,
 (none,.store 56 (.tmp 171) (.const (.slice none 0 0)),none)] :=by kernel_rfl
theorem agk:b8 MN=[(some 11,.assign (.const (.int .i64 0)),none)] :=by kernel_rfl
theorem agj:b8 ML=[oM 172 11,
 oM 173 10,
 oE 174 173 56,
 oB 175 .lss 3 172 174] :=by kernel_rfl
theorem agh:b8 MI=[oM 178 10,
 oM 179 11,
 oI 180 56 178 179,
 oF 181 49 180 2,
 oL 182 3 181,
 (some 183,.binOp .geq 3 (.tmp 182) (.const (.int .i64 1)) 3,none),
 oM 184 183,
 oM 185 10 (some (6,true)),
 oM 186 11 (some (6,true)),
 oI 187 56 185 186 (some (6,true)),
 oF 188 49 187 2 (some (6,true)),
 oL 189 3 188 (some (6,true)),
 oM 190 0 (some (6,true)),
 oN 191 190 (some (6,true)),
 oF 192 59 191 1 (some (6,true)),
 oL 193 54 192 (some (6,true)),
 oE 194 193 54 (some (6,true)),
 oB 195 .leq 3 189 194 (some (6,true)),
 oP 196 184 195 false] :=by kernel_rfl
theorem agf:b8 MH=[oM 197 0,
 oM 198 10,
 oM 199 11,
 oI 200 56 198 199,
 oF 201 49 200 2,
 oL 202 3 201,
 (some 203,.binOp .sub 3 (.tmp 202) (.const (.int .i64 1)) 3,none),
 oM 204 0,
 oN 205 204,
 oF 206 59 205 1,
 oL 207 54 206,
 oM 208 10,
 oM 209 11,
 oI 210 56 208 209,
 oF 211 49 210 2,
 oL 212 3 211,
 (some 213,.binOp .sub 3 (.tmp 212) (.const (.int .i64 1)) 3,none),
 oI 214 54 207 213,
 oL 215 52 214,
 oM 216 10,
 oM 217 11,
 oI 218 56 216 217,
 oL 219 49 218,
 oC 220 17 #[(.tmp 215),(.tmp 219)] #[52,49],
 oC 221 14 #[(.tmp 197),(.tmp 203),(.tmp 220),(.const (.bool false))] #[24,3,75,4]] :=by kernel_rfl
theorem agi:b8 MK=[oM 176 11,
 (some 177,.binOp .add 3 (.tmp 176) (.const (.int .i64 1)) 3,none),
 oA 11 177] :=by kernel_rfl
theorem age:b8 Vt=[(some 223,.binOp .eql 3 (.tmp 32) (.const (.int .i64 7)) 3,none),
 oA 222 223] :=by kernel_rfl
theorem agd:b8 Vs=[(some 261,.binOp .eql 3 (.tmp 32) (.const (.int .i64 8)) 3,none),
 oA 260 261] :=by kernel_rfl
theorem agc:b8 Vr=[(some 262,.binOp .eql 3 (.tmp 32) (.const (.int .i64 9)) 3,none),
 oA 260 262] :=by kernel_rfl
theorem agb:b8 Vq=[(some 292,.binOp .eql 3 (.tmp 32) (.const (.int .i64 10)) 3,none),
 oA 291 292] :=by kernel_rfl
theorem aga:b8 Vp=[(some 329,.binOp .eql 3 (.tmp 32) (.const (.int .i64 11)) 3,none),
 oA 328 329] :=by kernel_rfl
theorem af9:b8 Vo=[oM 330 4,
 (some 331,.binOp .add 3 (.tmp 330) (.const (.int .i64 1)) 3,none),
 oM 332 0,
 oN 333 332,
 oF 334 59 333 0,
 oL 335 31 334,
 oM 336 0,
 oN 337 336,
 oF 338 59 337 2,
 oL 339 55 338,
 oM 340 4,
 oI 341 55 339 340,
 oL 342 65 341,
 oC 343 11 #[(.tmp 331),(.tmp 335),(.tmp 342)] #[3,31,65],
 oA 21 343] :=by kernel_rfl
theorem af8:b8 Vn=[oM 344 21,
 (some 345,.binOp .eql 52 (.tmp 344) (.const (.pointer none)) 52,none)] :=by kernel_rfl
theorem af7:b8 Vm=[oM 349 0,
 oN 350 349,
 oF 351 59 350 1,
 oL 352 54 351,
 oM 353 4,
 oM 354 21,
 oI 355 54 352 353,
 oS 52 355 354] :=by kernel_rfl
theorem af6:b8 Vl=[oM 356 0,
 oM 357 4,
 oC 358 19 #[(.tmp 356),(.tmp 357)] #[24,3]] :=by kernel_rfl
theorem VQ:jz Try.f10=(.seq (.region 0 abn false) (.seq (.region 1 abm true) (.seq (.region 2 abl false) (.block 0 (.seq (.seq (.region 3 abk false) (.cond (.tmp 33) .skip (.region 4 abj false))) (.cond (.tmp 33) (.region 5 an0 true) (.seq (.region 6 abi false) (.cond (.tmp 50) (.seq (.region 7 anZ false) (.block 1 (.loop (.seq (.seq (.region 8 anY false) (.cond (.tmp 53) .skip (.exit 1))) (.seq (.block 2 (.region 10 agV true)) (.region 9 anX false)))))) (.seq (.seq (.region 11 Vx false) (.cond (.tmp 70) .skip (.seq (.region 12 Vw false) (.cond (.tmp 70) .skip (.region 13 Vv false))))) (.cond (.tmp 70) (.seq (.region 14 agU false) (.block 3 (.loop (.seq (.seq (.region 15 agT false) (.cond (.tmp 88) .skip (.exit 3))) (.seq (.block 4 (.seq (.region 17 agR true) (.seq (.region 18 agQ false) (.seq (.seq (.region 19 agP false) (.cond (.tmp 112) (.seq (.region 20 agO false) (.seq (.region 21 agN false) (.seq (.region 22 agM false) (.region 23 agL false)))) .skip)) (.seq (.region 24 agK true) (.cond (.tmp 146) (.region 25 agJ true) .skip)))))) (.region 16 agS false)))))) (.seq (.region 26 Vu false) (.cond (.tmp 163) (.seq (.region 27 MP false) (.seq (.region 28 MO false) (.seq (.region 29 MN false) (.block 5 (.loop (.seq (.seq (.region 30 ML false) (.cond (.tmp 175) .skip (.exit 5))) (.seq (.block 6 (.seq (.region 32 MI true) (.cond (.tmp 196) (.region 33 MH true) .skip))) (.region 31 MK false)))))))) (.seq (.region 34 Vt false) (.cond (.tmp 222) (.seq (.region 35 agI false) (.cond (.tmp 229) (.seq (.region 36 agH true) (.seq (.region 37 agG false) (.seq (.region 38 agF false) (.seq (.region 39 agE false) (.region 40 agD false))))) .skip)) (.seq (.seq (.region 41 Vs false) (.cond (.tmp 260) .skip (.region 42 Vr false))) (.cond (.tmp 260) (.seq (.region 43 agC false) (.seq (.seq (.region 44 agB false) (.cond (.tmp 271) (.region 45 agA false) .skip)) (.seq (.region 46 agz true) (.region 47 agy false)))) (.seq (.region 48 Vq false) (.cond (.tmp 291) (.seq (.region 49 agx false) (.seq (.region 50 agw true) (.region 51 agv false))) (.seq (.region 52 Vp false) (.cond (.tmp 328) (.seq (.region 53 Vo true) (.seq (.seq (.region 54 Vn false) (.cond (.tmp 345) (.seq (.region 55 agu false) .ret) .skip)) (.seq (.region 56 Vm false) (.region 57 Vl false)))) .skip)))))))))))))))))))):=by kernel_rfl
theorem Mp:Try.f10.body=some (jz Try.f10):=by kernel_rfl
theorem akU:Try.f10.ntmps=359:=by kernel_rfl
theorem aaG:Try.f10.results= #[] :=by kernel_rfl
theorem Pn(args:Array Value)(w:World):(callFunc 10 args).run Try.prog w= .ok (.enter 10 args) w:=by
 unfold callFunc
 have hn:Try.f10.name≠ "runtime.NumGoroutine" :=by decide+kernel
 simp[Try.func10,Mp,hn]
def abh:=aQ 0 Try.f11
def abg:=aQ 1 Try.f11
def abf:=aQ 2 Try.f11
def abe:=aQ 3 Try.f11
def anW:=aQ 4 Try.f11
def abd:=aQ 5 Try.f11
def abc:=aQ 6 Try.f11
def anV:=aQ 7 Try.f11
def abb:=aQ 8 Try.f11
def aba:=aQ 9 Try.f11
def agt:=aQ 10 Try.f11
def Vk:=aQ 11 Try.f11
theorem anA:b8 abh=[(some 4,.box 31 (.tmp 1),none),
 (some 5,.box 65 (.tmp 2),none),
 (some 6,.assign (.const (.pointer none)),none)] :=by kernel_rfl
theorem anz:b8 abg=[oM 13 0,
 oC 14 20 #[(.tmp 13),(.const (.int .i64 1)),(.const (.int .i64 5))] #[3,3,3],
 oM 15 14,
 oL 16 31 4 (some (2,true)),
 oC 17 21 #[(.tmp 16)] #[31] (some (2,true)),
 oP 18 15 17 false,
 oM 19 18,
 oF 20 65 5 0 (some (6,true)),
 oF 21 61 20 0 (some (6,true)),
 oL 22 3 21 (some (6,true)),
 oC 23 20 #[(.tmp 22),(.const (.int .i64 0)),(.const (.int .i64 1099511627776))] #[3,3,3] (some (6,true)),
 oP 24 19 23 false,
 oM 25 24,
 oF 26 65 5 0 (some (12,true)),
 oF 27 61 26 1 (some (12,true)),
 oL 28 3 27 (some (12,true)),
 oC 29 20 #[(.tmp 28),(.const (.int .i64 0)),(.const (.int .i64 1099511627776))] #[3,3,3] (some (12,true)),
 oP 30 25 29 false,
 oA 7 30] :=by kernel_rfl
theorem anx:b8 abf=[oF 31 65 5 1,
 oF 32 63 31 0,
 oL 33 3 32,
 oF 34 65 5 1,
 oF 35 63 34 1,
 oL 36 3 35,
 oC 37 22 #[(.tmp 33),(.tmp 36)] #[3,3],
 oA 8 37] :=by kernel_rfl
theorem anw:b8 abe=[oM 38 7,
 (some 39,.unOp .not 4 (.tmp 38),none),
 oM 40 39,
 oM 41 8 (some (2,false)),
 (some 42,.binOp .eql 90 (.tmp 41) (.const (.pointer none)) 90,some (2,false)),
 (some 43,.pick (.tmp 40) (.const (.bool true)) (.tmp 42),none),
 oM 44 43,
 oF 45 65 5 1 (some (6,false)),
 oF 46 63 45 0 (some (6,false)),
 oL 47 3 46 (some (6,false)),
 (some 48,.binOp .gtr 3 (.tmp 47) (.const (.int .i64 0)) 3,some (6,false)),
 oM 49 48 (some (6,false)),
 oF 50 65 5 1 (some (11,true)),
 oF 51 63 50 2 (some (11,true)),
 oL 52 31 51 (some (11,true)),
 oC 53 21 #[(.tmp 52)] #[31] (some (11,true)),
 (some 54,.unOp .not 4 (.tmp 53),some (11,true)),
 oM 55 54 (some (11,true)),
 oF 56 65 5 1 (some (17,false)),
 oF 57 63 56 3 (some (17,false)),
 oL 58 27 57 (some (17,false)),
 oE 59 58 27 (some (17,false)),
 oC 60 20 #[(.tmp 59),(.const (.int .i64 1)),(.const (.int .i64 1048576))] #[3,3,3] (some (17,false)),
 (some 61,.unOp .not 4 (.tmp 60),some (17,false)),
 (some 62,.pick (.tmp 55) (.const (.bool true)) (.tmp 61),some (11,true)),
 oP 63 49 62 false (some (6,false)),
 (some 64,.pick (.tmp 44) (.const (.bool true)) (.tmp 63),none)] :=by kernel_rfl
theorem anv:b8 abd=[oM 66 8,
 oF 67 65 5 1,
 oF 68 63 67 0,
 oL 69 3 68,
 oF 70 65 5 1,
 oF 71 63 70 1,
 oL 72 3 71,
 oF 73 65 5 2,
 oL 74 28 73,
 oC 75 23 #[(.tmp 66),(.tmp 69),(.tmp 72),(.tmp 74)] #[90,3,3,28],
 oM 65 75,
 (some 76,.extract (.tmp 65) 0,none),
 (some 77,.extract (.tmp 65) 1,none),
 oA 9 76,
 oA 10 77] :=by kernel_rfl
theorem anu:b8 abc=[oM 78 10,
 (some 79,.unOp .not 4 (.tmp 78),none),
 oM 80 79,
 oF 81 65 5 2 (some (2,false)),
 oL 82 28 81 (some (2,false)),
 oC 83 24 #[(.tmp 82)] #[28] (some (2,false)),
 (some 84,.unOp .not 4 (.tmp 83),some (2,false)),
 (some 85,.pick (.tmp 80) (.const (.bool true)) (.tmp 84),none)] :=by kernel_rfl
theorem ant:b8 abb=[oM 87 8,
 oC 88 25 #[(.tmp 87)] #[90],
 oM 86 88,
 (some 89,.extract (.tmp 86) 0,none),
 (some 90,.extract (.tmp 86) 1,none),
 oA 11 89,
 oA 12 90] :=by kernel_rfl
theorem ans:b8 aba=[oM 91 12,
 oF 92 65 5 0,
 oF 93 61 92 0,
 oL 94 3 93,
 oB 95 .gtr 3 91 94] :=by kernel_rfl
theorem ahn:jz Try.f11=(.seq (.region 0 abh false) (.seq (.region 1 abg false) (.seq (.region 2 abf false) (.seq (.seq (.region 3 abe false) (.cond (.tmp 64) (.seq (.region 4 anW false) .ret) .skip)) (.seq (.seq (.region 5 abd false) (.seq (.region 6 abc false) (.cond (.tmp 85) (.seq (.region 7 anV false) .ret) .skip))) (.seq (.seq (.region 8 abb false) (.seq (.region 9 aba false) (.cond (.tmp 95) (.seq (.region 10 agt false) .ret) .skip))) (.seq (.region 11 Vk true) .ret))))))):=by kernel_rfl
theorem U5:Try.f11.body=some (jz Try.f11):=by kernel_rfl
theorem auY:Try.f11.ntmps=110:=by kernel_rfl
theorem amo:Try.f11.results= #[.tmp 6] :=by kernel_rfl
theorem Pm(args:Array Value)(w:World):(callFunc 11 args).run Try.prog w= .ok (.enter 11 args) w:=by
 unfold callFunc
 have hn:Try.f11.name≠ "runtime.NumGoroutine" :=by decide+kernel
 simp[Try.func11,U5,hn]
def aeD:=aQ 0 Try.f4
def aeC:=aQ 1 Try.f4
def aeB:=aQ 2 Try.f4
def aeA:=aQ 3 Try.f4
def Ya:=aQ 5 Try.f4
def aez:=aQ 4 Try.f4
def aey:=aQ 6 Try.f4
def aex:=aQ 7 Try.f4
def aew:=aQ 8 Try.f4
def TY:=aQ 10 Try.f4
def pY:=aQ 11 Try.f4
def TX:=aQ 12 Try.f4
def TW:=aQ 13 Try.f4
def aaU:=aQ 14 Try.f4
def TV:=aQ 15 Try.f4
def X9:=aQ 9 Try.f4
def TU:=aQ 16 Try.f4
def TS:=aQ 17 Try.f4
def TR:=aQ 18 Try.f4
def TQ:=aQ 19 Try.f4
def TP:=aQ 21 Try.f4
def TO:=aQ 22 Try.f4
def TN:=aQ 23 Try.f4
def Ov:=aQ 20 Try.f4
def TK:=aQ 24 Try.f4
theorem aun:b8 aeD=[(some 2,.assign (.const (.bool false)),none)] :=by kernel_rfl
theorem aum:b8 aeC=[oC 13 9 #[(.const (.int .i64 1)),(.const (.int .i64 1))] #[3,3],
 oA 3 13] :=by kernel_rfl
theorem aul:b8 aeB=[(some 4,.assign (.const (.int .i64 0)),none)] :=by kernel_rfl
theorem auk:b8 aeA=[oM 14 4,
 (some 15,.binOp .lss 3 (.tmp 14) (.const (.int .i64 10)) 3,none)] :=by kernel_rfl
theorem aui:b8 Ya=[oM 18 3,
 oM 19 3,
 oN 20 19,
 oF 21 59 20 1,
 oL 22 54 21,
 (some 23,.indexAddr 54 (.tmp 22) (.const (.int .i64 0)),none),
 oL 24 52 23,
 oC 25 15 #[(.tmp 24),(.const (.int .i64 0))] #[52,3],
 oC 26 14 #[(.tmp 18),(.const (.int .i64 0)),(.tmp 25),(.const (.bool false))] #[24,3,75,4]] :=by kernel_rfl
theorem auj:b8 aez=[oM 16 4,
 (some 17,.binOp .add 3 (.tmp 16) (.const (.int .i64 1)) 3,none),
 oA 4 17] :=by kernel_rfl
theorem auh:b8 aey=[(some 5,.assign (.const (.int .i64 1)),none)] :=by kernel_rfl
theorem aug:b8 aex=[(some 6,.assign (.const (.int .i64 0)),none)] :=by kernel_rfl
theorem auf:b8 aew=[oM 27 6,
 oM 28 0,
 oE 29 28 22,
 oB 30 .lss 3 27 29] :=by kernel_rfl
theorem amR:b8 TY=[oM 33 0,
 oM 34 6,
 oI 35 22 33 34,
 oF 36 51 35 4,
 oF 37 44 36 0,
 oL 38 3 37,
 (some 39,.binOp .eql 3 (.tmp 38) (.const (.int .i64 1)) 3,none),
 oM 40 39,
 oM 41 0 (some (7,false)),
 oM 42 6 (some (7,false)),
 oI 43 22 41 42 (some (7,false)),
 oF 44 51 43 4 (some (7,false)),
 oF 45 44 44 0 (some (7,false)),
 oL 46 3 45 (some (7,false)),
 (some 47,.binOp .eql 3 (.tmp 46) (.const (.int .i64 2)) 3,some (7,false)),
 (some 48,.pick (.tmp 40) (.const (.bool true)) (.tmp 47),none)] :=by kernel_rfl
theorem amQ:b8 TX=[oM 65 5,
 (some 66,.binOp .add 3 (.tmp 65) (.const (.int .i64 1)) 3,none),
 oA 5 66] :=by kernel_rfl
theorem amP:b8 TW=[oM 67 8,
 (some 68,.binOp .neq 45 (.tmp 67) (.const (.int .i64 0)) 45,none),
 oM 69 68,
 oF 70 78 7 0 (some (2,false)),
 oL 71 3 70 (some (2,false)),
 oM 72 5 (some (2,false)),
 oB 73 .neq 3 71 72 (some (2,false)),
 (some 74,.pick (.tmp 69) (.const (.bool true)) (.tmp 73),none),
 oM 75 74,
 oF 76 75 9 5 (some (8,false)),
 oL 77 28 76 (some (8,false)),
 oE 78 77 28 (some (8,false)),
 (some 79,.binOp .neq 3 (.tmp 78) (.const (.int .i64 1)) 3,some (8,false)),
 (some 80,.pick (.tmp 75) (.const (.bool true)) (.tmp 79),none),
 oM 81 80,
 oF 82 75 9 5 (some (14,false)),
 oL 83 28 82 (some (14,false)),
 (some 84,.indexAddr 28 (.tmp 83) (.const (.int .i64 0)),some (14,false)),
 oF 85 78 84 0 (some (14,false)),
 oL 86 3 85 (some (14,false)),
 oM 87 5 (some (14,false)),
 oB 88 .neq 3 86 87 (some (14,false)),
 (some 89,.pick (.tmp 81) (.const (.bool true)) (.tmp 88),none),
 oM 90 89,
 oF 91 75 9 0 (some (23,false)),
 oL 92 4 91 (some (23,false)),
 (some 93,.unOp .not 4 (.tmp 92),some (23,false)),
 (some 94,.pick (.tmp 90) (.const (.bool true)) (.tmp 93),none),
 oM 95 94,
 oF 96 75 9 4 (some (28,false)),
 oL 97 56 96 (some (28,false)),
 oE 98 97 56 (some (28,false)),
 (some 99,.binOp .neq 3 (.tmp 98) (.const (.int .i64 0)) 3,some (28,false)),
 (some 100,.pick (.tmp 95) (.const (.bool true)) (.tmp 99),none)] :=by kernel_rfl
theorem amO:b8 TV=[oM 101 3,
 oL 102 75 9,
 oC 103 14 #[(.tmp 101),(.const (.int .i64 0)),(.tmp 102),(.const (.bool false))] #[24,3,75,4]] :=by kernel_rfl
theorem aue:b8 X9=[oM 31 6,
 (some 32,.binOp .add 3 (.tmp 31) (.const (.int .i64 1)) 3,none),
 oA 6 32] :=by kernel_rfl
theorem amN:b8 TU=[oM 104 3,
 (some 105,.build 51 #[(0,.const (.int .i64 11))],none),
 oC 106 10 #[(.tmp 104),(.tmp 105)] #[24,51]] :=by kernel_rfl
theorem amM:b8 TS=[(some 10,.assign (.const (.slice none 0 0)),none)] :=by kernel_rfl
theorem amL:b8 TR=[(some 11,.assign (.const (.int .i64 0)),none)] :=by kernel_rfl
theorem amK:b8 TQ=[oM 107 11,
 (some 108,.binOp .lss 3 (.tmp 107) (.const (.int .i64 10)) 3,none)] :=by kernel_rfl
theorem amI:b8 TP=[oM 111 3,
 oN 112 111,
 oF 113 59 112 1,
 oL 114 54 113,
 (some 115,.indexAddr 54 (.tmp 114) (.const (.int .i64 0)),none),
 oL 116 52 115,
 oC 117 15 #[(.tmp 116),(.const (.int .i64 0))] #[52,3],
 (some 12,.alloc 75,none),
 oS 75 12 117] :=by kernel_rfl
theorem amH:b8 TO=[oM 118 10,
 oF 119 75 12 5,
 oL 120 28 119,
 (some 121,.call {callee:=.builtin .append,args:= #[(.tmp 118),(.tmp 120)],argTypes:= #[28,28]},none),
 oA 10 121] :=by kernel_rfl
theorem amG:b8 TN=[oM 122 3,
 oL 123 75 12,
 oC 124 14 #[(.tmp 122),(.const (.int .i64 0)),(.tmp 123),(.const (.bool false))] #[24,3,75,4]] :=by kernel_rfl
theorem amJ:b8 Ov=[oM 109 11,
 (some 110,.binOp .add 3 (.tmp 109) (.const (.int .i64 1)) 3,none),
 oA 11 110] :=by kernel_rfl
theorem amF:b8 TK=[oM 125 3,
 oN 126 125,
 oF 127 59 126 9,
 oL 128 4 127,
 (some 129,.unOp .not 4 (.tmp 128),none),
 oM 130 129,
 oM 131 10 (some (5,true)),
 oE 132 131 28 (some (5,true)),
 oM 133 5 (some (5,true)),
 (some 134,.binOp .add 3 (.tmp 133) (.const (.int .i64 1)) 3,some (5,true)),
 oB 135 .eql 3 132 134 (some (5,true)),
 oP 136 130 135 false,
 oM 137 136,
 oM 138 3 (some (12,true)),
 oN 139 138 (some (12,true)),
 oF 140 59 139 1 (some (12,true)),
 oL 141 54 140 (some (12,true)),
 (some 142,.indexAddr 54 (.tmp 141) (.const (.int .i64 0)),some (12,true)),
 oL 143 52 142 (some (12,true)),
 oC 144 12 #[(.tmp 143)] #[52] (some (12,true)),
 (some 145,.field 67 (.tmp 144) 0,some (12,true)),
 (some 146,.binOp .eql 3 (.tmp 145) (.const (.int .i64 2)) 3,some (12,true)),
 oP 147 137 146 false,
 oM 148 147,
 oC 149 13 #[] #[] (some (23,true)),
 oP 150 148 149 false,
 oA 2 150] :=by kernel_rfl
theorem UI:jz Try.f4=(.seq (.region 0 aeD false) (.seq (.region 1 aeC false) (.seq (.seq (.region 2 aeB false) (.block 0 (.loop (.seq (.seq (.region 3 aeA false) (.cond (.tmp 15) .skip (.exit 0))) (.seq (.block 1 (.region 5 Ya false)) (.region 4 aez false)))))) (.seq (.region 6 aey false) (.seq (.seq (.region 7 aex false) (.block 2 (.loop (.seq (.seq (.region 8 aew false) (.cond (.tmp 30) .skip (.exit 2))) (.seq (.block 3 (.seq (.seq (.region 10 TY false) (.cond (.tmp 48) (.exit 3) .skip)) (.seq (.region 11 pY true) (.seq (.region 12 TX false) (.seq (.seq (.region 13 TW false) (.cond (.tmp 100) (.seq (.region 14 aaU false) .ret) .skip)) (.region 15 TV false)))))) (.region 9 X9 false)))))) (.seq (.region 16 TU false) (.seq (.region 17 TS false) (.seq (.seq (.region 18 TR false) (.block 4 (.loop (.seq (.seq (.region 19 TQ false) (.cond (.tmp 108) .skip (.exit 4))) (.seq (.block 5 (.seq (.region 21 TP false) (.seq (.region 22 TO false) (.region 23 TN false)))) (.region 20 Ov false)))))) (.seq (.region 24 TK false) .ret))))))))):=by kernel_rfl
theorem aaB:Try.f4.body=some (jz Try.f4):=by kernel_rfl
theorem nt4:Try.f4.ntmps=151:=by kernel_rfl
theorem at3:Try.f4.results= #[.tmp 2] :=by kernel_rfl
theorem ahb(args:Array Value)(w:World):(callFunc 4 args).run Try.prog w= .ok (.enter 4 args) w:=by
 unfold callFunc
 have hn:Try.f4.name≠ "runtime.NumGoroutine" :=by decide+kernel
 simp[Try.func4,aaB,hn]
def UG:List ((Nat×Nat)×Nat):=[((31,0),0),((31,1),1),((44,0),0),((49,2),2),((49,3),3),((51,0),0),((51,1),1),((51,3),3),((51,4),49),((59,0),0),((59,1),2),((59,2),3),((59,3),4),((59,4),5),((59,5),6),((59,6),7),((59,7),8),((59,9),10),((61,0),0),((61,1),1),((63,0),0),((63,1),1),((63,2),2),((63,3),4),((65,0),0),((65,1),2),((65,2),7),((67,0),0),((67,1),1),((67,2),2),((67,3),4),((67,4),5),((67,5),6),((75,0),0),((75,1),1),((75,2),3),((75,3),4),((75,4),5),((75,5),6),((78,0),0),((78,1),1),((78,2),2)]
theorem aoQ:(UG.all fun x=>(nb Try.prog x.1.1 x.1.2).map (fun y=>(y.1.offset,decide (0<y.2)))==some (x.2,true))=true:=by kernel_rfl
theorem awu{t f off:Nat}(h:lk UG (t,f)=some off):(nb Try.prog t f).map (fun y=>(y.1.offset,decide (0<y.2)))=some (off,true):=by
 have:=cn.1 aoQ _ (jK h)
 simpa using this
end
attribute [local irreducible] TL
def aaD:List Nat:=[22,27,28,29,54,56]
theorem amj:(aaD.all fun t=>slB Try.prog t)=true:=by kernel_rfl
def akY(m:List (Nat×Value))(f:Callee):List Operand→List TypeId→Option Value
 | [x],[t] =>match f with
  |.builtin .len=>match oh m x with
   |some (.slice _ nn _)=>if aaD.contains t then some (.int .i64 nn) else none
   |_=>none
  |_=>none
 |_,_=>none
def smV(m:List (Nat×Value)):Op→Option Value
 |.move x=>oh m x
 |.assign x=>oh m x
 |.nilCheck x=>match oh m x with
  |some (.pointer (some ad))=>some (.pointer (some ad))
  |_=>none
 |.fieldAddr t x fl=>match oh m x with
  |some (.pointer (some ⟨b,o,none⟩))=>match lk UG (t,fl) with
   |some off=>some (.pointer (some ⟨b,o+off,none⟩))
   |none=>none
  |_=>none
 |.call c=>akY m c.callee c.args.toList c.argTypes.toList
 |_=>none
section
variable{ops:Array Oper}{Q:Exit→Act→World→Prop}{S:World→Prop}{n n0 i d:Nat}{a:Act}{w:World}{m:List (Nat×Value)}{gd:Option (Nat×Bool)}{L r:List OK}{v:Value}{x:Operand}
theorem sm{op:Op}{b:Bool}(k:Kn n a m)(h: ∀a',Kn n a' ((d,v)::m)→TL Try.prog ops Q S n0 L r (i+1) a' w)(hS:S w:=by assumption)(hg:tW L m gd=some b:=by rfl)(hd:d<n:=by decide)(hv:(match b with|true=>smV m op|false=>some undef)=some v:=by rfl):TL Try.prog ops Q S n0 L ((some d,op,gd)::r) i a w:=by
 cases b with
 |false=>injection hv with hv;subst hv;exact atE k hS hg hd h
 |true=>
 replace hv:smV m op=some v:=hv
 unfold smV at hv
 split at hv
 ·exact YH k hS hg hd hv h
 ·exact Gg k hS hg hd hv h
 ·split at hv
  ·rename_i hx
   injection hv with hv
   subst hv
   exact afC k hS hg hd hx h
  ·cases hv
 ·split at hv
  ·rename_i hx
   split at hv
   ·rename_i hf
    injection hv with hv
    subst hv
    exact amf k hS hg hd hx (awu hf) h
   ·cases hv
  ·cases hv
 ·rename_i c
  obtain⟨f,⟨ps⟩,⟨ts⟩⟩:=c
  unfold akY at hv
  split at hv
  ·rename_i x t e1 e2
   split at hv
   ·rename_i hf
    split at hv
    ·rename_i hx
     split at hv
     ·rename_i hc
      injection hv with hv
      subst hv
      have tH:ps=[x] :=e1
      have e2':ts=[t] :=e2
      have hf':f= .builtin .len:=hf
      subst tH e2' hf'
      exact Ml k hS hg hd hx (cn.1 amj t (by simpa using hc)) h
     ·cases hv
    ·cases hv
   ·cases hv
  ·cases hv
 ·cases hv
theorem ld{t:TypeId}{ad:Addr}(k:Kn n a m)(hc: ∀w',S w'→w'.cell? ad=some v)(h: ∀a',Kn n a' ((d,v)::m)→TL Try.prog ops Q S n0 L r (i+1) a' w)(hS:S w:=by assumption)(hg:tW L m gd=some true:=by rfl)(hd:d<n:=by decide)(hx:oh m x=some (.pointer (some ad)):=by rfl)
  (ha:j5 Try.prog t=false:=by kernel_rfl) (hu:(Try.prog.underlying t).isSome=true:=by kernel_rfl):TL Try.prog ops Q S n0 L ((some d,.load t x,gd)::r) i a w:=qD k hS hg hd hx ha hu hc h
theorem pk{y z:Operand}{c:Bool}(k:Kn n a m)(hx:oh m x=some (.bool c))(hy:oh m (if c then y else z)=some v)(h: ∀a',Kn n a' ((d,v)::m)→TL Try.prog ops Q S n0 L r (i+1) a' w)(hS:S w:=by assumption)(hg:tW L m gd=some true:=by rfl)(hd:d<n:=by decide):TL Try.prog ops Q S n0 L ((some d,.pick x y z,gd)::r) i a w:=YG k hS hg hd hx hy h
theorem cm{y:Operand}{t t2:TypeId}{bo:BinOp}{kk:IntKind}{p q:Int}{c:Bool}(k:Kn n a m)(hx:oh m x=some (.int kk p))(hy:oh m y=some (.int kk q))(hc:Hz bo p q=some c)(h: ∀a',Kn n a' ((d,.bool c)::m)→TL Try.prog ops Q S n0 L r (i+1) a' w)(hS:S w:=by assumption)(hg:tW L m gd=some true:=by rfl)(hd:d<n:=by decide):TL Try.prog ops Q S n0 L ((some d,.binOp bo t x y t2,gd)::r) i a w:=afE k hS hg hd hx hy hc h
theorem lN{t:TypeId}{b off nn:Nat}{vs:List Value}(k:Kn n a m)(hx:oh m x=some (.pointer (some ⟨b,off,none⟩)))(hl:vs.length=nn)(hc: ∀w',S w'→ ∀(j:Nat) v,vs[j]? =some v→w'.cell? ⟨b,off+j,none⟩=some v)(h: ∀a',Kn n a' ((d,.agg vs.toArray)::m)→TL Try.prog ops Q S n0 L r (i+1) a' w)(hS:S w:=by assumption)(hg:tW L m gd=some true:=by rfl)(hd:d<n:=by decide)(hs:jF Try.prog t=some nn:=by kernel_rfl)(ha:j5 Try.prog t=true:=by kernel_rfl):TL Try.prog ops Q S n0 L ((some d,.load t x,gd)::r) i a w:=afD k hS hg hd hx hs ha hl hc h
theorem CH{y:Operand}{t el:TypeId}{b nn cap sz s:Nat}{kk:IntKind}(k:Kn n a m)(hx:oh m x=some (.slice (some ⟨b,0,none⟩) nn cap))(hy:oh m y=some (.int kk (s:Int)))(h1:s<nn)(h: ∀a',Kn n a' ((d,.pointer (some ⟨b,s*sz,none⟩))::m)→TL Try.prog ops Q S n0 L r (i+1) a' w)(hS:S w:=by assumption)(hg:tW L m gd=some true:=by rfl)(hd:d<n:=by decide)(hu:Try.prog.underlying t=some (.slice el):=by kernel_rfl)(iY:jF Try.prog el=some sz:=by kernel_rfl):TL Try.prog ops Q S n0 L ((some d,.indexAddr t x y,gd)::r) i a w:=Mm k hS hg hd hx hy hu iY h1 h
theorem rg{id:Nat}{draw:Bool}{Q':Exit→Act→World→Prop}(X:Nat→Prop)(hQ:QP Q)(hl:b8 ops=L)(h: ∀w1,Cn w w1→TL Try.prog ops Q' (SX X w1) 0 L L 0 a w1)(hd:draw=true→tOk ops 0=true:=by decide)(hR: ∀c a w,Q' (.panic c) a w=Q (.panic c) a w:=by intro _ _ _;rfl):(Code.region id ops draw).wp Try.prog Q' a w:=
 lR 0 X mix (fun c a d v w h=>by rw[hR]at h⊢;exact hQ c a d v w h) hl hd h
end
def gU(l:List D)(n:Int):List D:=l++List.replicate (n+1-l.length).toNat (.int .i64 0)
theorem Lc{l:List D}{n:Int}(h:(l.length:Int)≤n):gU (l++[.int .i64 0]) n=gU l n:=by
 unfold gU
 rw[ez,an,bG]
 congr 1
 rw[show(n+1-(l.length:Int)).toNat=(n+1-((l.length+1:Nat):Int)).toNat+1 by omega,List.replicate_succ]
 rfl
theorem Ld{l:List D}{n:Int}(h:n<(l.length:Int)):gU l n=l:=by
 unfold gU
 rw[show(n+1-(l.length:Int)).toNat=0 by omega]
 simp
theorem Ra:I6.bytes=8:=rfl
theorem pN{n:Nat}(h:n≤100000000):oG I6 n:=by
 refine⟨by simp only[maxLen];omega,?_⟩
 rw[Ra];omega
theorem Bp{w:World}{S:bU}{ow:Ow}{jD:Nat}{v:Value}{l:List D}{n:Int}(h:dW w S ow jD 3 I6 v l)(hw:Wf w S ow)(h0:0≤n)(hn:n≤1000000)(hl:l.length≤2000000):
  Calls Try.prog 54 [v,.int .i64 n].toArray w fun e w'=> ∃v' bX,e= .returned v'∧br (kG jD) ax w S ow w' S bX∧Wf w' S bX∧dW w' S bX jD 3 I6 v' (gU l n)∧(gU l n).length≤2000001:=by
 refine lU Try.func54 U0 ahi auT (by show 2≤13;omega) ?_
 intro a k
 have hQ:=kj (P:=Try.prog) (fn:=Try.f54) (R:=fun e w'=> ∃v' bX,e= .returned v'∧br (kG jD) ax w S ow w' S bX∧Wf w' S bX∧dW w' S bX jD 3 I6 v' (gU l n)∧(gU l n).length≤2000001)
 refine wp_seq (rg ax hQ amE ?_)
 intro w1 e1
 have s0:=SX.refl ax w1
 repeat refine sm k fun a k=> ?_
 refine aJ ?_
 have SO:=br.bu e1 (kG jD) ax S ow
 have lY:Wf w1 S ow:=⟨fun b o hs=>by rw[e1.heap];exact hw.s b o hs,fun b l hl=>by rw[e1.heap];exact hw.o b l hl,hw.d⟩
 have h1:=h.bw hw (br.bu e1 ax ax S ow) (fun h=>h)
 refine wp_seq (wp_block (wp_loop_ghost (fun m a W=> ∃v1 l1 fE,m=(n+1-(l1.length:Int)).toNat∧Kn 13 a [(0,v1),(1,.int .i64 n)] ∧br (kG jD) ax w S ow W S fE∧Wf W S fE∧dW W S fE jD 3 I6 v1 l1∧gU l1 n=gU l n∧l1.length≤2000001) (n+1-(l.length:Int)).toNat
  ⟨v,l,ow,rfl,k.sub ⟨rfl,rfl,trivial⟩,SO,lY,h1,rfl,by omega⟩ ?_))
 clear k SO lY h1 s0 e1 w1
 rintro m a W ⟨v1,l1,fE,rfl,k,oZ,iB,ho,hg,hlen⟩
 obtain⟨A,cap,rfl⟩:=ho.slice
 refine wp_seq (wp_seq (rg ax hQ amD ?_))
 intro w1 e1
 have s0:=SX.refl ax w1
 repeat refine sm k fun a k=> ?_
 refine cm (c:=decide ((l1.length:Int)≤n)) k rfl rfl rfl fun a k=> ?_
 refine aJ ?_
 have SO:=oZ.RB hw iB (br.bu e1 (kG jD) ax S fE) (fun _ h=>h.elim)
 have lY:Wf w1 S fE:=⟨fun b o hs=>by rw[e1.heap];exact iB.s b o hs,fun b l hl=>by rw[e1.heap];exact iB.o b l hl,iB.d⟩
 have Xe:=ho.bw iB (br.bu e1 ax ax S fE) (fun h=>h)
 refine bz k rfl ?_
 by_cases hc:(l1.length:Int)≤n
 ·rw[if_pos (by simpa using hc)]
  refine wp_skip ?_
  refine wp_block (rg (fun b=>fE b=some jD) hQ amC ?_)
  intro w2 e2
  have s0:=SX.refl (fun b=>fE b=some jD) w2
  have jn:Wf w2 S fE:=⟨fun b o hs=>by rw[e2.heap];exact lY.s b o hs,fun b l hl=>by rw[e2.heap];exact lY.o b l hl,lY.d⟩
  have zR:=Xe.bw lY (br.bu e2 ax ax S fE) (fun h=>h)
  have aeX:=SO.RB hw lY (br.bu e2 (kG jD) ax S fE) (fun _ h=>h.elim)
  repeat refine sm k fun a k=> ?_
  refine qK (kk:=1) (T:=3) k (by decide) rfl (by decide) rfl (by kernel_rfl) rfl (fun _=>SX.alloc _ _ _) fun a k=> ?_
  obtain⟨vK,rD⟩:=br.alloc jn (.cells (Value.int .i64 0).cells 3)
  have XJ:=zR.bw jn vK (fun h=>h)
  refine yq k (by decide) rfl (by decide) fun ty pos af=> ?_
  obtain⟨v',w',fh,bX,JI,tG,ho4⟩:=XJ.Qm (P:=Try.prog) (tt:=29) (by kernel_rfl) rfl rD ty w2.heap.size (d:=.int .i64 0) ⟨0,rfl,by decide⟩ (us:=[.int .i64 0]) rfl (heap_alloc_new w2 _) (by
   intro j u c hu hc
   match j,hu,hc with
   |0,hu,hc=>injection hu with hu;injection hc with hc;subst hu hc;exact .int _ _) (pN (by omega))
  refine⟨v',w',k8 (k.op rfl) (k.op rfl) fh,fun _=>(SX.alloc _ _ _).trans (SX.jD (fun _ h=>h) JI),fun a k=> ?_⟩
  have s1:SX (fun b=>fE b=some jD) w2 w':=(SX.alloc _ _ _).trans (SX.jD (fun _ h=>h) JI)
  repeat refine sm k fun a k=> ?_
  refine aJ ?_
  refine⟨_,?_,v',l1++[.int .i64 0],bX,rfl,k.sub ⟨rfl,rfl,trivial⟩,aeX.RB hw jn (br.trN jn rD vK JI (fun _ h=>h.elim)) (fun _ h=>h.elim),tG,ho4,(Lc hc).trans hg,by rw[an,bG];omega⟩
  rw[an,bG];omega
 ·rw[if_neg (by simpa using hc)]
  refine wp_exit ?_
  refine wp_seq (rg ax hQ amB ?_)
  intro w2 e2
  have s0:=SX.refl ax w2
  repeat refine sm k fun a k=> ?_
  refine aJ ?_
  have aeX:=SO.RB hw lY (br.bu e2 (kG jD) ax S fE) (fun _ h=>h.elim)
  have hd:=Ld (l:=l1) (n:=n) (by omega)
  have zR:=Xe.bw lY (br.bu e2 ax ax S fE) (fun h=>h)
  refine wp_ret (uX amk k rfl ⟨_,fE,rfl,aeX,⟨fun b o hs=>by rw[e2.heap];exact lY.s b o hs,fun b l hl=>by rw[e2.heap];exact lY.o b l hl,lY.d⟩,?_,?_⟩).1
  ·rw[←hg,hd];exact zR
  ·rw[←hg,hd];exact hlen
def ka(g:GS)(i:Nat):RS:=g.iC.getD i dR
def sr(l:List D)(i:Nat):Int:=(l.getD i .top).aq
def Dp(i:Nat)(x:RS)(g:GS):GS:=
 let ld:=gU g.bR x.term
 let WX:=sr ld x.term.toNat
 {g with bR:=ld.set x.term.toNat (.int .i64 (i+1)),bad:=g.bad||(WX !=0&&WX !=(i+1:Int))}
def rq(i:Nat)(x:RS)(g:GS):GS:=
 let l:=gU (g.bJ.getD i []) x.term
 let E4:=sr l x.term.toNat
 {g with bJ:=g.bJ.set i (l.set x.term.toNat (.int .i64 x.vote)),bad:=g.bad||(E4 !=0&&x.vote !=E4)}
def ph(i:Nat)(g:GS):GS:=
 let x:=ka g i
 if x.term<sr g.dL i∨5000<x.term then{g with bad:=g.bad||decide (x.term<sr g.dL i)}
 else
  let g2:=rq i x {g with dL:=g.dL.set i (.int .i64 x.term)}
  if x.role=2 then Dp i x g2 else g2
def LG(l:Nat):Prop:=l<60∨100≤l
structure Fy(g:GS):Prop where
 n5:g.iC.length≤5
 dL:g.dL.length=g.iC.length
 bJ:g.bJ.length=g.iC.length
 saved:g.saved.length=g.iC.length
 lead:g.bR.length≤2000000
 vl: ∀l∈g.bJ,l.length≤2000000
theorem ag0{d:D}(h:Has I6 d):d= .int .i64 d.aq∧oY .i64 d.aq:=by
 obtain⟨n,rfl,hn⟩:=h
 exact⟨rfl,hn⟩
theorem zn{l:List D}(h: ∀x∈l,Has I6 x){i:Nat}(hi:i<l.length):l[i]? =some (.int .i64 (sr l i)):=by
 have e:l[i]? =some l[i] :=aW hi
 obtain⟨h1,_⟩:=ag0 (h _ (ca e))
 rw[e]
 unfold sr
 rw[av,e,bL]
 exact congrArg some h1
theorem GM.CD{w:World}{S:bU}{ow:Ow}{b:Nat}{R:GR}{g:GS}{c:Bool}(h:GM w S ow b (R.cells c) R g)(v:Bool):br (kG 0) ax w S ow (w.setRow b ((R.cells c).set 10 (.bool v)).toArray) S ow∧GM (w.setRow b ((R.cells c).set 10 (.bool v)).toArray) S ow b (R.cells v) R {g with bad:=v}:=by
 obtain⟨h1,h2,h3⟩:=h.obj.set h.wf (us:=(R.cells c).set 10 (.bool v))
 have:=h.setObj h1 h2 h3
 exact⟨h1,this.wf,this.obj,this.fv,this.fl,this.arr,this.vI,this.iC,this.saved,this.kI,this.told,this.bR,this.dL,this.read,this.EW,this.AQ,this.q8⟩
def pZ(w:World)(S:bU)(ow:Ow)(b:Nat)(g':GS)(e:Ending)(w':World):Prop:= ∃S' bX,e= .returned (.tuple #[])∧br LG ax w S ow w' S' bX∧nw w' S' bX b g'
def Kw(w:World)(S:bU)(ow:Ow)(b:Nat)(g':GS):Exit→Act→World→Prop:=bodyPost Try.prog Try.f19 (pZ w S ow b g')
def RD(x:RS)(v1 v2:Value):List Value:=[.int .i64 x.role,.int .i64 x.bR,.int .i64 x.term,.int .i64 x.vote,.int .i64 x.aZ,.int .i64 (x.li+x.le.length),.int .i64 x.li,v1,v2]
section
variable{w0 w:World}{S0 S:bU}{og ow:Ow}{b b4 i:Nat}{g0 g g':GS}{R:GR}{x:RS}{v1 v2:Value}{Q:Exit→Act→World→Prop}{a:Act}
theorem Kv(hQ:QP Q)(ra: ∀a w,Kw w0 S0 og b g' .ret a w→Q .ret a w)(gO:Wf w0 S0 og)(st:br LG ax w0 S0 og w S ow)(gm:GM w S ow b (R.cells g.bad) R g)(j6:R.la=R.lb)(me:R.va=R.vv)(lx:iH w S ow b4 67 (RD x v1 v2))
  (iw:i<g.dL.length) (hg:g'={g with bad:=g.bad||decide (x.term<sr g.dL i)}) (k:Kn 160 a [(4,.pointer (some ⟨b4,0,none⟩)),(0,bp b),(1,.int .i64 i)]):
  (Code.seq (.region 2 Oy true) .ret).wp Try.prog Q a w:=by
 have ht:=zn (fun y hy=>gm.dL.all y hy) iw
 refine wp_seq (lR (n0:=18) ax mix (fun c a d v w h=>hQ c a d v w h) am3 (fun _=>by kernel_rfl) ?_)
 intro w1 e1
 have eZ:=gm.bu e1
 have FP:=lx.bu e1
 have j8:=st.ba gO gm.wf (br.bu e1 ax ax S ow) (fun _ h=>h.elim)
 have s0:=SX.refl ax w1
 obtain⟨bt,Da,yg,Aa,Jq,Ju⟩:=dW.zm eZ.dL ht
 repeat (first|refine sm k fun a k=> ?_|refine ld k (FP.cell (fun h=>h) rfl) fun a k=> ?_|refine ld k (eZ.cell (fun h=>h) rfl) fun a k=> ?_)
 have fin: ∀(LL:List OK) (a:Act),Kn 160 a [(51,.pointer (some ⟨b,10,none⟩)),(49,.bool (g.bad||decide (x.term<sr g.dL i)))] →TL Try.prog Oy (Exit.then (Code.wp Try.prog Code.ret Q) Q) (SX ax w1) 18 LL [oS 4 51 49] 20 a w1:=by
  intro LL a k
  refine mW (cur:=R.cells g.bad) k (by decide) rfl (by kernel_rfl) rfl rfl rfl eZ.obj.heap (by show 10<11;omega) rfl (fun h=>absurd rfl h) fun a k=> ?_
  refine aJ (wp_ret (ra _ _ (nU TA k ?_).1))
  obtain⟨h1,h2⟩:=eZ.CD (g.bad||decide (x.term<sr g.dL i))
  exact⟨S,ow,rfl,j8.gX gO eZ.wf h1 (.inl (by decide)),R,by rw[hg];exact h2,j6,me⟩
 cases hb:g.bad with
 |true=>
  rw[hb]at k
  repeat (first|refine sm k fun a k=> ?_|refine ld k (FP.cell (fun h=>h) rfl) fun a k=> ?_|refine ld k (eZ.cell (fun h=>h) rfl) fun a k=> ?_)
  refine pk k rfl rfl fun a k=> ?_
  repeat (first|refine sm k fun a k=> ?_|refine ld k (FP.cell (fun h=>h) rfl) fun a k=> ?_|refine ld k (eZ.cell (fun h=>h) rfl) fun a k=> ?_)
  refine fin _ a (k.sub ⟨rfl,?_,trivial⟩)
  rw[hb];rfl
 |false=>
  rw[hb]at k
  repeat (first|refine sm k fun a k=> ?_|refine ld k (FP.cell (fun h=>h) rfl) fun a k=> ?_|refine ld k (eZ.cell (fun h=>h) rfl) fun a k=> ?_)
  rw[yg]at k
  refine CH (el:=3) (sz:=1) k rfl rfl iw fun a k=> ?_
  refine ld k (gf Aa (fun h=>h) Ju) fun a k=> ?_
  refine cm (c:=decide (x.term<sr g.dL i)) k rfl rfl rfl fun a k=> ?_
  refine pk k rfl rfl fun a k=> ?_
  repeat (first|refine sm k fun a k=> ?_|refine ld k (FP.cell (fun h=>h) rfl) fun a k=> ?_|refine ld k (eZ.cell (fun h=>h) rfl) fun a k=> ?_)
  refine fin _ a (k.sub ⟨rfl,?_,trivial⟩)
  rw[hb];rfl
end
theorem GC{n:Int}(h0:0≤n)(h:n≤4000000000000000000):oY .i64 n:=by
 have h1:i64.min= -9223372036854775808:=by decide
 have h2:i64.max=9223372036854775807:=by decide
 exact⟨by rw[h1];omega,by rw[h2];omega⟩
theorem KF{l:List D}{n:Int}(h:0≤n):n.toNat<(gU l n).length:=by
 unfold gU
 rw[an,List.length_replicate]
 omega
theorem Ik{n:Int}: ∀(j:Nat) u c,[Value.int .i64 n][j]? =some u→(D.int .i64 n).cells[j]? =some c→ ∀{w:World} {S:bU},cH w S u c:=by
 intro j u c hu hc w S
 match j,hu,hc with
 |0,hu,hc=>injection hu with hu;injection hc with hc;subst hu hc;exact .int _ _
section
variable{w0 w:World}{S0 S:bU}{og ow:Ow}{b b4 i:Nat}{g0 g g':GS}{R:GR}{x:RS}{v1 v2:Value}{Q:Exit→Act→World→Prop}{a:Act}
theorem QV(hQ:QP Q)(ra: ∀a w,Kw w0 S0 og b g' .normal a w→Q .normal a w)(gO:Wf w0 S0 og)(st:br LG ax w0 S0 og w S ow)(gm:GM w S ow b (R.cells g.bad) R g)(j6:R.la=R.lb)(me:R.va=R.vv)(lx:iH w S ow b4 67 (RD x v1 v2))
  (ht0:0≤x.term) (ht5:x.term≤5000) (qY:g.bR.length≤2000000) (hi:i<5) (hg:g'=Dp i x g) (k:Kn 160 a [(4,.pointer (some ⟨b4,0,none⟩)),(0,bp b),(1,.int .i64 i)]):
  (Code.seq (.region 10 HV true) (.seq (.region 11 HU true) (.seq (.seq (.region 12 HT false) (.cond (.tmp 146) (.region 13 HS false) .skip)) (.region 14 DA true)))).wp Try.prog Q a w:=by
 refine wp_seq (lR (n0:=8) (fun bb=>ow bb=some 13) mix (fun c a d v w h=>hQ c a d v w h) afW (fun _=>by kernel_rfl) ?_)
 intro w1 e1
 have eZ:=gm.bu e1
 have FP:=lx.bu e1
 have j8:=st.ba gO gm.wf (br.bu e1 ax ax S ow) (fun _ h=>h.elim)
 have s0:=SX.refl (fun bb=>ow bb=some 13) w1
 have vJ: ¬ow b=some 13:=by rw[eZ.obj.ow];decide
 have Xz: ¬ow b4=some 13:=by rw[FP.ow];decide
 repeat (first|refine sm k fun a k=> ?_|refine ld k (FP.cell Xz rfl) fun a k=> ?_|refine ld k (eZ.cell vJ rfl) fun a k=> ?_)
 refine j3 (vs:=[R.bR,.int .i64 x.term]) k (by decide) rfl (by decide) Pj rfl (Bp eZ.bR eZ.wf ht0 (by omega) qY) ?_
 rintro e w2 ⟨v',bX,rfl,gI,jn,zR,hlen⟩
 obtain⟨Av,cv,pn⟩:=zR.slice
 refine⟨_,rfl,fun _=>SX.jD (fun _ h=>h) gI,fun a k=> ?_⟩
 have s1:=SX.jD (X:=fun bb=>ow bb=some 13) (fun _ h=>h) gI
 have jB:=eZ.Er gI jn zR
 have Jc:=FP.bw gI (fun h=>h)
 have Sw:=j8.gX gO eZ.wf gI (.inl (by decide))
 repeat refine sm k fun a k=> ?_
 refine mW (cur:=R.cells g.bad) k (by decide) rfl (by kernel_rfl) rfl rfl (by rw[pn];rfl) jB.obj.heap (by show 6<11;omega) (by rw[pn];rfl) (fun h=>absurd rfl h) fun a k=> ?_
 refine aJ ?_
 obtain⟨iQ,tG,XJ⟩:=jB.obj.set jn (us:=(R.cells g.bad).set 6 v')
 have iV:GM _ S bX b ({R with bR:=v'}.cells g.bad) {R with bR:=v'} {g with bR:=gU g.bR x.term}:=jB.setObj iQ tG XJ
 have EY:=Jc.bw iQ (fun h=>h)
 have LR:=Sw.gX gO jn iQ (.inl (by decide))
 have k:=k.sub (l:=[(4,.pointer (some ⟨b4,0,none⟩)),(0,bp b),(1,.int .i64 i)]) ⟨rfl,rfl,rfl,trivial⟩
 generalize w2.setRow b _=w3 at iV EY LR⊢
 clear iQ tG XJ Sw Jc jB s1 gI jn zR s0 vJ Xz
 have bP:=KF (l:=g.bR) ht0
 have hgi:=zn (fun y hy=>iV.bR.all y hy) bP
 have hN:((x.term.toNat:Nat):Int)=x.term:=Int.toNat_of_nonneg ht0
 refine wp_seq (lR (n0:=9) ax mix (fun c a d v w h=>hQ c a d v w h) afV (fun _=>by kernel_rfl) ?_)
 intro w4 e4
 have mh:=iV.bu e4
 have ui:=EY.bu e4
 have jX:=LR.ba gO iV.wf (br.bu e4 ax ax S bX) (fun _ h=>h.elim)
 have s0:=SX.refl ax w4
 repeat (first|refine sm k fun a k=> ?_|refine ld k (ui.cell (fun h=>h) rfl) fun a k=> ?_|refine ld k (mh.cell (fun h=>h) rfl) fun a k=> ?_)
 obtain⟨bt,Da,yg,Aa,Jq,Ju⟩:=dW.zm mh.bR hgi
 rw[show({R with bR:=v'}:GR).bR=v' from rfl]at yg
 rw[←hN]at k
 rw[yg]at k
 refine CH (el:=3) (sz:=1) k rfl rfl bP fun a k=> ?_
 refine ld k (gf Aa (fun h=>h) Ju) fun a k=> ?_
 repeat refine sm k fun a k=> ?_
 refine aJ ?_
 have k:=k.sub (l:=[(6,.int .i64 (sr (gU g.bR x.term) x.term.toNat)),(4,.pointer (some ⟨b4,0,none⟩)),(0,bp b),(1,.int .i64 i)]) ⟨rfl,rfl,rfl,rfl,trivial⟩
 generalize aeO:sr (gU g.bR x.term) x.term.toNat=WX at k
 clear yg Aa Jq Ju
 have alW:i64.wrap ((i:Int)+1)=i+1:=wrap64 (by omega) (by omega)
 have last: ∀(a:Act) (W:World) (c:Bool) (gm:GM W S bX b ({R with bR:=v'}.cells c) {R with bR:=v'} {g with bR:=gU g.bR x.term,bad:=c}) (lx:iH W S bX b4 67 (RD x v1 v2)) (st:br LG ax w0 S0 og W S bX),
   c=(g.bad||(WX !=0&&WX !=(i+1:Int)))→Kn 160 a [(4,.pointer (some ⟨b4,0,none⟩)),(0,bp b),(1,.int .i64 i)] →(Code.region 14 DA true).wp Try.prog Q a W:=by
  intro a W c gm lx st hc k
  refine lR (n0:=10) ax mix hQ afS (fun _=>by kernel_rfl) ?_
  intro w5 e5
  have my:=gm.bu e5
  have AS:=lx.bu e5
  have mw:=st.ba gO gm.wf (br.bu e5 ax ax S bX) (fun _ h=>h.elim)
  have s0:=SX.refl ax w5
  repeat (first|refine sm k fun a k=> ?_|refine ld k (AS.cell (fun h=>h) rfl) fun a k=> ?_|refine ld k (my.cell (fun h=>h) rfl) fun a k=> ?_)
  refine lI (s:=(i:Int)+1) k (by assumption) rfl (by decide) rfl rfl alW fun a k=> ?_
  obtain⟨bt,Da,cur,yg,kR,lz,Aa,Jq,CF,Lz,Cg⟩:=my.bR.set (i:=x.term.toNat) (d:=.int .i64 (i+1)) (us:=[.int .i64 (i+1)]) my.wf bP ⟨_,rfl,GC (by omega) (by omega)⟩ rfl (fun j u c h1 h2=>Ik j u c h1 h2)
  rw[show({R with bR:=v'}:GR).bR=v' from rfl]at yg
  rw[←hN]at k
  rw[yg]at k
  refine CH (el:=3) (sz:=1) k rfl rfl bP fun a k=> ?_
  refine pX (vs:=[.int .i64 (i+1)]) (cur:=cur) k (by decide) rfl (by kernel_rfl) rfl rfl rfl kR lz (by simp[Value.oneCell']) (fun h=>absurd rfl h) fun a k=> ?_
  refine aJ (ra _ _ (nU TA k ?_).2)
  have wQ:=my.Er CF Lz Cg
  refine⟨S,bX,rfl,mw.gX gO my.wf CF (.inl (by decide)),{R with bR:=v'},?_,j6,me⟩
  rw[hg]
  have:Dp i x g={g with bR:=(gU g.bR x.term).set x.term.toNat (.int .i64 (i+1)),bad:=c}:=by
   unfold Dp;simp only;rw[aeO,hc]
  rw[this]
  exact wQ
 refine wp_seq (wp_seq (rg ax hQ afU ?_))
 intro w5 e5
 have my:=mh.bu e5
 have AS:=ui.bu e5
 have mw:=jX.ba gO mh.wf (br.bu e5 ax ax S bX) (fun _ h=>h.elim)
 have s0:=SX.refl ax w5
 repeat refine sm k fun a k=> ?_
 by_cases hz:WX=0
 ·refine cm (c:=false) k rfl rfl (by rw[hz];rfl) fun a k=> ?_
  repeat refine sm k fun a k=> ?_
  refine pk k rfl rfl fun a k=> ?_
  refine aJ (bz k rfl (wp_skip ?_))
  exact last _ _ g.bad my AS mw (by rw[hz];cases g.bad<;>rfl) (k.sub ⟨rfl,rfl,rfl,trivial⟩)
 ·refine cm (c:=true) k rfl rfl (congrArg some (by simpa using hz)) fun a k=> ?_
  repeat refine sm k fun a k=> ?_
  refine lI (s:=(i:Int)+1) k (by assumption) rfl (by decide) rfl rfl alW fun a k=> ?_
  refine cm (c:=WX !=(i+1:Int)) k rfl rfl rfl fun a k=> ?_
  refine pk k rfl rfl fun a k=> ?_
  refine aJ (bz k rfl ?_)
  by_cases hq:(WX !=(i+1:Int))=true
  ·rw[if_pos hq]
   refine rg ax hQ afT ?_
   intro w6 e6
   have wQ:=my.bu e6
   have RE:=AS.bu e6
   have mL:=mw.ba gO my.wf (br.bu e6 ax ax S bX) (fun _ h=>h.elim)
   have s0:=SX.refl ax w6
   repeat refine sm k fun a k=> ?_
   refine mW (cur:={R with bR:=v'}.cells g.bad) k (by decide) rfl (by kernel_rfl) rfl rfl rfl wQ.obj.heap (by show 10<11;omega) rfl (fun h=>absurd rfl h) fun a k=> ?_
   obtain⟨h1,h2⟩:=wQ.CD true
   refine aJ (last _ _ true h2 (RE.bw h1 (fun h=>h)) (mL.gX gO wQ.wf h1 (.inl (by decide))) ?_ (k.sub ⟨rfl,rfl,rfl,trivial⟩))
   rw[hq,show(WX !=0)=true by simpa using hz];cases g.bad<;>rfl
  ·rw[if_neg hq]
   refine wp_skip (last _ _ g.bad my AS mw ?_ (k.sub ⟨rfl,rfl,rfl,trivial⟩))
   rw[show(WX !=(i+1:Int))=false by simpa using hq];cases g.bad<;>simp
end
section
variable{w0 w:World}{S0 S:bU}{og ow:Ow}{b b4 i:Nat}{g0 g g':GS}{R:GR}{x:RS}{v1 v2:Value}{Q:Exit→Act→World→Prop}{a:Act}
noncomputable def zj:Code:=.seq (.region 9 TZ false) (.cond (.tmp 118) (.seq (.region 10 HV true) (.seq (.region 11 HU true) (.seq (.seq (.region 12 HT false) (.cond (.tmp 146) (.region 13 HS false) .skip)) (.region 14 DA true)))) .skip)
theorem QU(hQ:QP Q)(ra: ∀a w S ow R,Kn 160 a [(4,.pointer (some ⟨b4,0,none⟩)),(0,bp b),(1,.int .i64 i)] →br LG ax w0 S0 og w S ow→GM w S ow b (R.cells (rq i x g).bad) R (rq i x g)→R.la=R.lb→R.va=R.vv→iH w S ow b4 67 (RD x v1 v2)→zj.wp Try.prog Q a w)(gO:Wf w0 S0 og)(st:br LG ax w0 S0 og w S ow)(gm:GM w S ow b (R.cells g.bad) R g)(j6:R.la=R.lb)(me:R.va=R.vv)(lx:iH w S ow b4 67 (RD x v1 v2))
  (ht0:0≤x.term) (ht5:x.term≤5000) (zX: ∀l∈g.bJ,l.length≤2000000) (hi:i<g.bJ.length) (hi5:i<5) (N1:oY .i64 x.vote) (k:Kn 160 a [(4,.pointer (some ⟨b4,0,none⟩)),(0,bp b),(1,.int .i64 i)]):
  (Code.seq (.region 4 T6 true) (.seq (.region 5 T5 true) (.seq (.seq (.region 6 T4 false) (.cond (.tmp 98) (.region 7 T3 false) .skip)) (.seq (.region 8 Ox true) zj)))).wp Try.prog Q a w:=by
 obtain⟨l,Ch⟩: ∃l,g.bJ[i]? =some l:=⟨_,aW hi⟩
 have Sj:g.bJ.getD i [] =l:=by rw[av,Ch,bL]
 have qY:=zX l (ca Ch)
 refine wp_seq (lR (n0:=15) (fun bb=>ow bb=some (100+i)) mix (fun c a d v w h=>hQ c a d v w h) am1 (fun _=>by kernel_rfl) ?_)
 intro w1 e1
 have eZ:=gm.bu e1
 have FP:=lx.bu e1
 have j8:=st.ba gO gm.wf (br.bu e1 ax ax S ow) (fun _ h=>h.elim)
 have s0:=SX.refl (fun bb=>ow bb=some (100+i)) w1
 have vJ: ¬ow b=some (100+i):=by rw[eZ.obj.ow];intro e;injection e with e;omega
 have Xz: ¬ow b4=some (100+i):=by rw[FP.ow];intro e;cases e
 obtain⟨v,Jn,hov⟩:=eZ.q8 i l Ch
 obtain⟨bv,amb,hRv,PU,fX,Hh⟩:=eZ.EW.elem (i:=i) (u:=v) (by rw[me];exact Jn)
 have Jm:R.va.length=g.bJ.length:=by rw[me];exact eZ.AQ
 have E7: ¬ow bv=some (100+i):=by rw[fX];intro e;injection e with e;omega
 repeat (first|refine sm k fun a k=> ?_|refine ld k (FP.cell Xz rfl) fun a k=> ?_|refine ld k (eZ.cell vJ rfl) fun a k=> ?_)
 rw[hRv]at k
 refine CH (el:=29) (sz:=1) k rfl rfl (by rw[Jm];exact hi) fun a k=> ?_
 refine qD k (by assumption) rfl (by decide) rfl (by kernel_rfl) (by kernel_rfl) (gf PU E7 (by rw[cd];exact Hh)) fun a k=> ?_
 repeat (first|refine sm k fun a k=> ?_|refine ld k (FP.cell Xz rfl) fun a k=> ?_|refine ld k (eZ.cell vJ rfl) fun a k=> ?_)
 refine j3 (vs:=[v,.int .i64 x.term]) k (by decide) rfl (by decide) Pj rfl (Bp hov eZ.wf ht0 (by omega) qY) ?_
 rintro e w2 ⟨v',bX,rfl,gI,jn,zR,hlen⟩
 obtain⟨Av,cv,pn⟩:=zR.slice
 refine⟨_,rfl,fun _=>SX.jD (fun _ h=>h) gI,fun a k=> ?_⟩
 have s1:=SX.jD (X:=fun bb=>ow bb=some (100+i)) (fun _ h=>h) gI
 have jB:=eZ.O0 gI jn hi zR (by omega)
 have Jc:=FP.bw gI (fun h=>h)
 have Sw:=j8.gX gO eZ.wf gI (.inr (by omega))
 refine CH (el:=29) (sz:=1) k rfl rfl (by rw[Jm];exact hi) fun a k=> ?_
 obtain⟨bv2,ayE,cur,alZ,kR,lz,awc,BY,iQ,tG,hrw⟩:=jB.EW.set (i:=i) (u:=v') jn (by show i<R.va.length;rw[Jm];exact hi)
 have abL:R.bJ=_:=alZ
 rw[hRv]at abL
 injection abL with h1 _ h3
 injection h1 with h1
 injection h1 with h1 _
 subst h1
 rw[cd]at k
 refine pX (vs:=[v']) (cur:=cur) k (by decide) rfl (by kernel_rfl) rfl rfl (by rw[pn];rfl) kR lz (by rw[pn];simp[Value.oneCell']) (fun h=>absurd rfl h) fun a k=> ?_
 refine aJ ?_
 have iV:=jB.U6 iQ tG hrw
 have EY:=Jc.bw iQ (fun h=>h)
 have LR:=Sw.gX gO jn iQ (.inl (by decide))
 have k:=k.sub (l:=[(4,.pointer (some ⟨b4,0,none⟩)),(0,bp b),(1,.int .i64 i)]) ⟨rfl,rfl,rfl,trivial⟩
 have bP:=KF (l:=l) ht0
 have hgi:=zn (fun y hy=>zR.all y hy) bP
 have hN:((x.term.toNat:Nat):Int)=x.term:=Int.toNat_of_nonneg ht0
 have Sq: ∃R3:GR,R3=({R with bJ:=R.bJ,va:=R.va.set i v',vv:=R.vv.set i v'}:GR):=⟨_,rfl⟩
 obtain⟨R3,Sq⟩:=Sq
 generalize w2.setRow bv _=w3 at iV EY LR⊢
 have iV:GM w3 S bX b (R3.cells g.bad) R3 {g with bJ:=g.bJ.set i (gU l x.term)}:=by rw[Sq];exact iV
 have Td:R3.la=R3.lb:=by rw[Sq];exact j6
 have Hq:R3.va=R3.vv:=by rw[Sq];show R.va.set i v'=R.vv.set i v';rw[me]
 have alx:({g with bJ:=g.bJ.set i (gU l x.term)}:GS).bJ[i]? =some (gU l x.term):=by show(g.bJ.set i (gU l x.term))[i]? =_;rw[cT,if_pos rfl,if_pos hi]
 clear Sq
 clear hrw iQ tG kR lz alZ BY awc Sw Jc jB s1 gI zR s0 vJ Xz hRv PU fX Hh Jm E7 hov Jn
 refine wp_seq (lR (n0:=12) ax mix (fun c a d v w h=>hQ c a d v w h) am0 (fun _=>by kernel_rfl) ?_)
 intro w4 e4
 have mh:=iV.bu e4
 have ui:=EY.bu e4
 have jX:=LR.ba gO iV.wf (br.bu e4 ax ax S bX) (fun _ h=>h.elim)
 have s0:=SX.refl ax w4
 obtain⟨v4,Jn,hov⟩:=mh.q8 i _ alx
 obtain⟨bv,amb,hRv,PU,fX,Hh⟩:=mh.EW.elem (i:=i) (u:=v4) (by rw[Hq];exact Jn)
 have Jm:R3.va.length=g.bJ.length:=by rw[Hq,mh.AQ];show(g.bJ.set i _).length=_;rw[bE]
 obtain⟨bt,Da,yg,Aa,Jq,Ju⟩:=dW.zm hov hgi
 repeat (first|refine sm k fun a k=> ?_|refine ld k (ui.cell (fun h=>h) rfl) fun a k=> ?_|refine ld k (mh.cell (fun h=>h) rfl) fun a k=> ?_)
 rw[hRv]at k
 refine CH (el:=29) (sz:=1) k rfl rfl (by rw[Jm];exact hi) fun a k=> ?_
 refine qD (v:=v4) k (by assumption) rfl (by decide) rfl (by kernel_rfl) (by kernel_rfl) (gf PU (fun h=>h) (by rw[cd];exact Hh)) fun a k=> ?_
 repeat (first|refine sm k fun a k=> ?_|refine ld k (ui.cell (fun h=>h) rfl) fun a k=> ?_|refine ld k (mh.cell (fun h=>h) rfl) fun a k=> ?_)
 rw[←hN]at k
 rw[yg]at k
 refine CH (el:=3) (sz:=1) k rfl rfl bP fun a k=> ?_
 refine ld k (gf Aa (fun h=>h) Ju) fun a k=> ?_
 repeat refine sm k fun a k=> ?_
 refine aJ ?_
 have k:=k.sub (l:=[(5,.int .i64 (sr (gU l x.term) x.term.toNat)),(4,.pointer (some ⟨b4,0,none⟩)),(0,bp b),(1,.int .i64 i)]) ⟨rfl,rfl,rfl,rfl,trivial⟩
 generalize aeO:sr (gU l x.term) x.term.toNat=E4 at k
 clear yg Aa Jq Ju hRv PU fX Hh Jm hov Jn s0
 have last: ∀(a:Act) (W:World) (c:Bool) (gm:GM W S bX b (R3.cells c) R3 {g with bJ:=g.bJ.set i (gU l x.term),bad:=c}) (lx:iH W S bX b4 67 (RD x v1 v2)) (st:br LG ax w0 S0 og W S bX),
   c=(g.bad||(E4 !=0&&x.vote !=E4))→Kn 160 a [(4,.pointer (some ⟨b4,0,none⟩)),(0,bp b),(1,.int .i64 i)] →(Code.seq (.region 8 Ox true) zj).wp Try.prog Q a W:=by
  intro a W c gm lx st hc k
  refine wp_seq (lR (n0:=13) ax mix (fun c a d v w h=>hQ c a d v w h) amX (fun _=>by kernel_rfl) ?_)
  intro w5 e5
  have my:=gm.bu e5
  have AS:=lx.bu e5
  have mw:=st.ba gO gm.wf (br.bu e5 ax ax S bX) (fun _ h=>h.elim)
  have s0:=SX.refl ax w5
  obtain⟨v5,Jn,hov⟩:=my.q8 i (gU l x.term) alx
  obtain⟨bv,amb,hRv,PU,fX,Hh⟩:=my.EW.elem (i:=i) (u:=v5) (by rw[Hq];exact Jn)
  have Jm:R3.va.length=g.bJ.length:=by rw[Hq,my.AQ];show(g.bJ.set i _).length=_;rw[bE]
  obtain⟨bt,Da,cur,yg,kR,lz,Aa,Jq,CF,Lz,Cg⟩:=hov.set (i:=x.term.toNat) (d:=.int .i64 x.vote) (us:=[.int .i64 x.vote]) my.wf bP ⟨_,rfl,N1⟩ rfl (fun j u c h1 h2=>Ik j u c h1 h2)
  repeat (first|refine sm k fun a k=> ?_|refine ld k (AS.cell (fun h=>h) rfl) fun a k=> ?_|refine ld k (my.cell (fun h=>h) rfl) fun a k=> ?_)
  rw[hRv]at k
  refine CH (el:=29) (sz:=1) k rfl rfl (by rw[Jm];exact hi) fun a k=> ?_
  refine qD (v:=v5) k (by assumption) rfl (by decide) rfl (by kernel_rfl) (by kernel_rfl) (gf PU (fun h=>h) (by rw[cd];exact Hh)) fun a k=> ?_
  repeat (first|refine sm k fun a k=> ?_|refine ld k (AS.cell (fun h=>h) rfl) fun a k=> ?_|refine ld k (my.cell (fun h=>h) rfl) fun a k=> ?_)
  rw[←hN]at k
  rw[yg]at k
  refine CH (el:=3) (sz:=1) k rfl rfl bP fun a k=> ?_
  refine pX (vs:=[.int .i64 x.vote]) (cur:=cur) k (by decide) rfl (by kernel_rfl) rfl rfl rfl kR lz (by simp[Value.oneCell']) (fun h=>absurd rfl h) fun a k=> ?_
  refine aJ ?_
  have wQ:=my.O0 CF Lz (by show i<(g.bJ.set i _).length;rw[bE];exact hi) Cg (by omega)
  have e6:rq i x g={g with bJ:=(g.bJ.set i (gU l x.term)).set i ((gU l x.term).set x.term.toNat (.int .i64 x.vote)),bad:=c}:=by
   unfold rq;simp only;rw[Sj,aeO,hc,List.set_set]
  have RZ:R3.vv.set i v5=R3.vv:=by
   apply gi
   intro j
   rw[cT]
   by_cases yp:i=j
   ·subst yp
    rw[if_pos rfl]
    have:=(aH.1 Jn).1
    rw[if_pos this,Jn]
   ·rw[if_neg yp]
  rw[RZ]at wQ
  refine ra _ _ S bX R3 (k.sub ⟨rfl,rfl,rfl,trivial⟩) (mw.gX gO my.wf CF (.inr (by omega))) ?_ Td Hq (AS.bw CF (fun h=>h))
  rw[e6]
  exact wQ
 refine wp_seq (wp_seq (rg ax hQ amZ ?_))
 intro w5 e5
 have my:=mh.bu e5
 have AS:=ui.bu e5
 have mw:=jX.ba gO mh.wf (br.bu e5 ax ax S bX) (fun _ h=>h.elim)
 have s0:=SX.refl ax w5
 repeat refine sm k fun a k=> ?_
 by_cases hz:E4=0
 ·refine cm (c:=false) k rfl rfl (by rw[hz];rfl) fun a k=> ?_
  repeat refine sm k fun a k=> ?_
  refine pk k rfl rfl fun a k=> ?_
  refine aJ (bz k rfl (wp_skip ?_))
  exact last _ _ g.bad my AS mw (by rw[hz];cases g.bad<;>rfl) (k.sub ⟨rfl,rfl,rfl,trivial⟩)
 ·refine cm (c:=true) k rfl rfl (congrArg some (by simpa using hz)) fun a k=> ?_
  repeat (first|refine sm k fun a k=> ?_|refine ld k (AS.cell (fun h=>h) rfl) fun a k=> ?_)
  refine cm (c:=x.vote !=E4) k rfl rfl rfl fun a k=> ?_
  refine pk k rfl rfl fun a k=> ?_
  refine aJ (bz k rfl ?_)
  by_cases hq:(x.vote !=E4)=true
  ·rw[if_pos hq]
   refine rg ax hQ amY ?_
   intro w6 e6
   have wQ:=my.bu e6
   have RE:=AS.bu e6
   have mL:=mw.ba gO my.wf (br.bu e6 ax ax S bX) (fun _ h=>h.elim)
   have s0:=SX.refl ax w6
   repeat refine sm k fun a k=> ?_
   refine mW (cur:=R3.cells g.bad) k (by decide) rfl (by kernel_rfl) rfl rfl rfl wQ.obj.heap (by show 10<11;omega) rfl (fun h=>absurd rfl h) fun a k=> ?_
   obtain⟨h1,h2⟩:=wQ.CD true
   refine aJ (last _ _ true h2 (RE.bw h1 (fun h=>h)) (mL.gX gO wQ.wf h1 (.inl (by decide))) ?_ (k.sub ⟨rfl,rfl,rfl,trivial⟩))
   rw[hq,show(E4 !=0)=true by simpa using hz];cases g.bad<;>rfl
  ·rw[if_neg hq]
   refine wp_skip (last _ _ g.bad my AS mw ?_ (k.sub ⟨rfl,rfl,rfl,trivial⟩))
   rw[show(x.vote !=E4)=false by simpa using hq];cases g.bad<;>simp
end
theorem Ev{w:World}{S:bU}{ow:Ow}{b i:Nat}{g:GS}(h:nw w S ow b g)(hl:Fy g)(hi:i<g.iC.length)(cI:Ok (ka g i) 0):
  Calls Try.prog 19 [bp b,.int .i64 i].toArray w (pZ w S ow b (ph i g)):=by
 obtain⟨R,gm,j6,me⟩:=h
 have gm0:=gm
 have n5:=hl.n5
 have hx:g.iC[i]? =some (ka g i):=by unfold ka;rw[av,aW hi,bL]
 generalize Lp:ka g i=x at hx cI
 have iw:i<g.dL.length:=by rw[hl.dL];exact hi
 have ht:=zn (fun y hy=>gm.dL.all y hy) iw
 refine lU Try.func19 U2 ahk auV (by show 2≤160;omega) ?_
 intro a k
 have hQ:=kj (P:=Try.prog) (fn:=Try.f19) (R:=pZ w S ow b (ph i g))
 refine wp_seq (rg ax hQ am5 ?_)
 intro w1 e1
 have eZ:=gm.bu e1
 have j8:=br.bu e1 LG ax S ow
 have s0:=SX.refl ax w1
 repeat (first|refine sm k fun a k=> ?_|refine ld k (eZ.cell (fun h=>h) rfl) fun a k=> ?_)
 obtain⟨bs,Cj,fX,jA⟩:=eZ.iC i x hx
 obtain⟨bl,cap,E5,FX,mM,jY⟩:=eZ.arr.elem (i:=i) (u:=bp bs) (by rw[j6,ah,Cj];rfl)
 have FZ:(R.la.map bp).length=g.iC.length:=by rw[aw,j6];exact eZ.vI
 rw[E5]at k
 refine CH (el:=52) (sz:=1) k rfl rfl (by rw[FZ];exact hi) fun a k=> ?_
 refine qD (v:=bp bs) k (by assumption) rfl (by decide) rfl (by kernel_rfl) (by kernel_rfl) (gf FX (fun h=>h) (by rw[cd];exact jY)) fun a k=> ?_
 refine j3 (vs:=[bp bs]) k (by decide) rfl (by decide) c12.enter rfl (vj fX eZ.wf cI) ?_
 rintro e w2 ⟨A1,n1,c1,A2,n2,c2,rfl,-,gI,jn⟩
 refine⟨_,rfl,fun _=>gI.I8 _,fun a k=> ?_⟩
 have jB:=eZ.bw gI jn
 have s1:=gI.I8 ax
 refine oO (nn:=9) k (by decide) rfl (by decide) (by kernel_rfl) (fun zs _=>s1.trans (SX.alloc _ _ _)) fun zs yl a k=> ?_
 refine pX (vs:=[.int .i64 x.role,.int .i64 x.bR,.int .i64 x.term,.int .i64 x.vote,.int .i64 x.aZ,.int .i64 (x.li+x.le.length),.int .i64 x.li,.slice A1 n1 c1,.slice A2 n2 c2]) k (by decide) rfl (by kernel_rfl) rfl rfl rfl (heap_alloc_new w2 _) (by show 0+9≤zs.toArray.size;rw[cS];omega) (by simp[Value.oneCell']) (fun h=>absurd rfl h) fun a k=> ?_
 refine aJ ?_
 have e0:(zs.toArray.toList.take 0++[Value.int .i64 x.role,.int .i64 x.bR,.int .i64 x.term,.int .i64 x.vote,.int .i64 x.aZ,.int .i64 (x.li+x.le.length),.int .i64 x.li,.slice A1 n1 c1,.slice A2 n2 c2] ++zs.toArray.toList.drop (0+9))=[Value.int .i64 x.role,.int .i64 x.bR,.int .i64 x.term,.int .i64 x.vote,.int .i64 x.aZ,.int .i64 (x.li+x.le.length),.int .i64 x.li,.slice A1 n1 c1,.slice A2 n2 c2] :=by
  have:zs.toArray.toList.drop (0+9)=[] :=ck (by simp[yl])
  rw[this];simp
 rw[show List.length [Value.int .i64 x.role,.int .i64 x.bR,.int .i64 x.term,.int .i64 x.vote,.int .i64 x.aZ,.int .i64 (x.li+x.le.length),.int .i64 x.li,.slice A1 n1 c1,.slice A2 n2 c2] =9 from rfl,e0]
 obtain⟨FO,rD⟩:=br.alloc jn (.cells zs.toArray 67)
 have lx0:=iH.new jn 67 zs
 obtain⟨CF,Lz,lx⟩:=lx0.set rD (us:=[.int .i64 x.role,.int .i64 x.bR,.int .i64 x.term,.int .i64 x.vote,.int .i64 x.aZ,.int .i64 (x.li+x.le.length),.int .i64 x.li,.slice A1 n1 c1,.slice A2 n2 c2])
 have iV:=(jB.bw FO rD).bw CF Lz
 have iQ:br LG ax w S ow _ S ow:=(((j8.tr gm.wf eZ.wf gI (fun _ h=>h.elim)).tr gm.wf jn FO (fun _ h=>h.elim)).tr gm.wf rD CF (fun bb hb=>.inr (by rw[show bb=_ from hb];exact aR j8.size gI.size))).mono (fun _ h=>h.elim (fun h=>h.elim (fun h=>h.elim id (fun h=>h.elim)) (fun h=>h.elim)) (fun h=>h.elim)) (fun _ h=>h)
 generalize hb4:w2.heap.size=b4 at k lx iV iQ⊢
 generalize hW:(w2.alloc _).setRow b4 _=W at lx iV iQ⊢
 clear e0 CF Lz lx0 FO rD jB s1 gI jn j8 s0 hW
 have k:=k.sub (l:=[(4,.pointer (some ⟨b4,0,none⟩)),(0,bp b),(1,.int .i64 i)]) ⟨rfl,rfl,rfl,trivial⟩
 have lx:iH W S ow b4 67 (RD x (.slice A1 n1 c1) (.slice A2 n2 c2)):=lx
 have J2:ph i g=if x.term<sr g.dL i∨5000<x.term then{g with bad:=g.bad||decide (x.term<sr g.dL i)} else(if x.role=2 then Dp i x (rq i x {g with dL:=g.dL.set i (.int .i64 x.term)}) else rq i x {g with dL:=g.dL.set i (.int .i64 x.term)}):=by
  unfold ph;simp only;rw[Lp]
 refine wp_seq (wp_seq (lR (n0:=17) ax mix (fun c a d v w h=>hQ c a d v w h) am4 (fun _=>by kernel_rfl) ?_))
 intro w2 e2
 have mh:=iV.bu e2
 have ui:=lx.bu e2
 have jX:=br.ba gm.wf iV.wf iQ (br.bu e2 ax ax S ow) (fun _ h=>h.elim)
 have s0:=SX.refl ax w2
 repeat (first|refine sm k fun a k=> ?_|refine ld k (mh.cell (fun h=>h) rfl) fun a k=> ?_|refine ld k (ui.cell (fun h=>h) rfl) fun a k=> ?_)
 obtain⟨bt,Da,yg,Aa,Jq,Ju⟩:=dW.zm mh.dL ht
 rw[yg]at k
 refine CH (el:=3) (sz:=1) k rfl rfl iw fun a k=> ?_
 refine ld k (gf Aa (fun h=>h) Ju) fun a k=> ?_
 by_cases h1:x.term<sr g.dL i
 ·refine cm (c:=true) k rfl rfl (ahc h1) fun a k=> ?_
  repeat refine sm k fun a k=> ?_
  refine pk k rfl rfl fun a k=> ?_
  refine aJ (bz k rfl ?_)
  refine Kv (g':=ph i g) (fun c a d v w h=>hQ c a d v w h) (fun a w h=>h) gm.wf jX mh j6 me ui iw ?_ (k.sub ⟨rfl,rfl,rfl,trivial⟩)
  rw[J2,if_pos (.inl h1)]
 refine cm (c:=false) k rfl rfl (ahe h1) fun a k=> ?_
 repeat (first|refine sm k fun a k=> ?_|refine ld k (ui.cell (fun h=>h) rfl) fun a k=> ?_)
 by_cases h2:5000<x.term
 ·refine cm (c:=true) k rfl rfl (ahd h2) fun a k=> ?_
  refine pk k rfl rfl fun a k=> ?_
  refine aJ (bz k rfl ?_)
  refine Kv (g':=ph i g) (fun c a d v w h=>hQ c a d v w h) (fun a w h=>h) gm.wf jX mh j6 me ui iw ?_ (k.sub ⟨rfl,rfl,rfl,trivial⟩)
  rw[J2,if_pos (.inr h2)]
 refine cm (c:=false) k rfl rfl (VP h2) fun a k=> ?_
 refine pk k rfl rfl fun a k=> ?_
 refine aJ (bz k rfl (wp_skip ?_))
 rw[if_neg (by omega)]at J2
 have k:=k.sub (l:=[(4,.pointer (some ⟨b4,0,none⟩)),(0,bp b),(1,.int .i64 i)]) ⟨rfl,rfl,rfl,trivial⟩
 clear yg Aa Jq Ju s0
 refine wp_seq (lR (n0:=8) ax mix (fun c a d v w h=>hQ c a d v w h) am2 (fun _=>by kernel_rfl) ?_)
 intro w3 e3
 have my:=mh.bu e3
 have AS:=ui.bu e3
 have mw:=br.ba gm.wf mh.wf jX (br.bu e3 ax ax S ow) (fun _ h=>h.elim)
 have s0:=SX.refl ax w3
 have ly:=GC (n:=x.term) cI.tm (by omega)
 obtain⟨bt,Da,cur,yg,kR,lz,Aa,Jq,CF,Lz,Cg⟩:=my.dL.set (i:=i) (d:=.int .i64 x.term) (us:=[.int .i64 x.term]) my.wf iw ⟨_,rfl,ly⟩ rfl (fun j u c h1 h2=>Ik j u c h1 h2)
 repeat (first|refine sm k fun a k=> ?_|refine ld k (my.cell (fun h=>h) rfl) fun a k=> ?_|refine ld k (AS.cell (fun h=>h) rfl) fun a k=> ?_)
 rw[yg]at k
 refine CH (el:=3) (sz:=1) k rfl rfl iw fun a k=> ?_
 refine pX (vs:=[.int .i64 x.term]) (cur:=cur) k (by decide) rfl (by kernel_rfl) rfl rfl rfl kR lz (by simp[Value.oneCell']) (fun h=>absurd rfl h) fun a k=> ?_
 refine aJ ?_
 have wQ:=my.Gl CF Lz Cg
 have mL:=mw.gX gm.wf my.wf CF (.inl (by decide))
 have N1:oY .i64 x.vote:=by
  obtain⟨bs,_,_,jA⟩:=gm.iC i x hx
  obtain⟨y,hy,hh⟩:=dY jA 12 I6 (by rw[Ty.fa];rfl)
  have e:(encS x)[12]? =some (.int .i64 x.vote):=rfl
  rw[e]at hy
  injection hy with hy
  subst hy
  obtain⟨n,hn,hk⟩:=hh
  injection hn with _ hn
  rw[hn];exact hk
 refine QU (R:={R with dL:=R.dL}) (g:={g with dL:=g.dL.set i (.int .i64 x.term)}) (fun c a d v w h=>hQ c a d v w h) ?_ gm.wf mL wQ j6 me (AS.bw CF (fun h=>h)) cI.tm (by omega) hl.vl (by show i<g.bJ.length;rw[hl.bJ];exact hi) (by omega) N1 (k.sub ⟨rfl,rfl,rfl,trivial⟩)
 intro a w7 S7 Ly R7 k pR LN alB ak5 lx7
 unfold zj
 refine wp_seq (rg ax hQ amW ?_)
 intro w8 e8
 have r8:=LN.bu e8
 have G7:=lx7.bu e8
 have uh:=pR.ba gm.wf LN.wf (br.bu e8 ax ax S7 Ly) (fun _ h=>h.elim)
 have s0:=SX.refl ax w8
 repeat (first|refine sm k fun a k=> ?_|refine ld k (G7.cell (fun h=>h) rfl) fun a k=> ?_)
 refine cm (c:=x.role==2) k rfl rfl rfl fun a k=> ?_
 refine aJ (bz k rfl ?_)
 by_cases hr:x.role=2
 ·rw[if_pos (by simpa using hr)]
  refine QV (g':=ph i g) (fun c a d v w h=>hQ c a d v w h) (fun a w h=>h) gm.wf uh r8 alB ak5 G7 cI.tm (by omega) hl.lead (by omega) ?_ (k.sub ⟨rfl,rfl,rfl,trivial⟩)
  rw[J2,if_pos hr]
 ·rw[if_neg (by simpa using hr)]
  refine wp_skip (nU TA k ⟨S7,Ly,rfl,uh,R7,?_,alB,ak5⟩).2
  rw[J2,if_neg hr]
  exact r8
def yj(ow:Ow):Prop:= ∀b l,ow b=some l→LG l
theorem yj.bw{L X:Nat→Prop}{w w':World}{S S':bU}{ow bX:Ow}(h:yj ow)(st:br L X w S ow w' S' bX)(hL: ∀l,L l→LG l):yj bX:=fun b l hl=>(st.jD b l hl).elim (h b l) (hL l)
theorem br.lg{X:Nat→Prop}{w w':World}{S S':bU}{ow bX:Ow}(h:yj ow)(h':yj bX)(st:br (fun l=>LG l∨60≤l) X w S ow w' S' bX):br LG X w S ow w' S' bX:=by
 have hT: ∀l,LG l→(LG l∨60≤l):=fun _ h=>.inl h
 exact⟨st.size,st.os,st.tape,st.output,fun b l hb ho hl=>absurd (h b l ho) hl,st.free,st.kJ,st.cell,fun b l ho hl=>absurd (h b l ho) hl,fun b o hs=>(st.new b o hs).imp id (fun h1=>h1.imp id (fun⟨l,h2,_⟩=>⟨l,h2,h b l h2⟩)),st.rQ,fun b l hl=>.inr (h' b l hl)⟩
def p4(es:List D)(f:Int):List D:=es.filter fun e=>decide ((cD 0 e).aq<f)
def Cq(x o:D):List D:=if(cD 3 o).aV=[] then(cD 7 x).aV else p4 (cD 7 x).aV (cD 0 ((cD 3 o).aV.getD 0 .top)).aq++(cD 3 o).aV
def p6(i:Nat)(o:D)(g:GS):GS:=
 let x:=g.saved.getD i .top
 {g with saved:=g.saved.set i (.agg [cD 1 o,cD 2 o,cD 2 x,cD 3 x,cD 4 x,cD 5 x,cD 6 x,.list (Cq x o)])}
theorem ND{es:List D}{f:Int}{j:Nat}{e:D}(h:es[j]? =some e):p4 (es.take (j+1)) f=if(cD 0 e).aq<f then p4 (es.take j) f++[e] else p4 (es.take j) f:=by
 have hj:es.take (j+1)=es.take j++[e] :=by
  rw[dj,h];rfl
 unfold p4
 rw[hj,List.filter_append]
 by_cases hc:(cD 0 e).aq<f
 ·rw[if_pos hc];simp[hc]
 ·rw[if_neg hc];simp[hc]
theorem KD{es:List D}{f:Int}:(p4 es f).length≤es.length:=List.length_filter_le _ _
theorem ZF{d:D}(h:Has eP d):d.cells[0]? =some (.int .i64 (cD 0 d).aq):=by
 obtain⟨l,rfl,hl⟩:=eN.1 h
 obtain⟨x,r,rfl,hx,_⟩:=aj.1 hl
 obtain⟨n,rfl,_⟩:=hx
 rfl
theorem nj:eP.cells.length=29:=rfl
theorem wB{n:Nat}(h:n≤400000000000):oG eP n:=by
 refine⟨by simp only[maxLen];omega,?_⟩
 rw[qj];omega
section
variable{w0 w:World}{S0 S:bU}{og ow:Ow}{b b5 b6 i:Nat}{g:GS}{R:GR}{o:D}{Q:Exit→Act→World→Prop}{a:Act}{m:List (Nat×Value)}
theorem Ii{v:Value}{l:List D}{j:Nat}{d:D}(h:cH w S v (.list l))(hj:l[j]? =some d)(hd:Has eP d):
  ∃(bb off cap:Nat) (us:List Value),v= .slice (some ⟨bb,off,none⟩) l.length cap∧S bb (off+j*29)∧us.length=29∧(∀(q:Nat) u,us[q]? =some u→w.cell? ⟨bb,off+j*29+q,none⟩=some u)∧(∀(q:Nat) u c,us[q]? =some u→d.cells[q]? =some c→cH w S u c)∧us[0]? =some (.int .i64 (cD 0 d).aq)∧
   w.cell? ⟨bb,off+j*29+0,none⟩=some (.int .i64 (cD 0 d).aq):=by
 obtain⟨bb,off,cap,us,h1,h2,h3,h4,h5⟩:=h.OR hj hd (by rw[nj];decide)
 rw[nj]at h2 h3 h4
 obtain⟨u0,RI⟩: ∃u0,us[0]? =some u0:=⟨_,aW (by omega)⟩
 have:=(h5 0 u0 _ RI (ZF hd)).cX
 subst this
 exact⟨bb,off,cap,us,h1,h2,h3,h4,h5,RI,h4 0 _ RI⟩
def TT(l:Nat):Prop:=LG l∨60≤l
theorem TT.all(l:Nat):TT l:=by unfold TT LG;omega
theorem Ac{L X:Nat→Prop}{w0 w w1:World}{S0 S S1:bU}{og ow fE:Ow}(gO:Wf w0 S0 og)(hw:Wf w S ow)(h:br TT ax w0 S0 og w S ow)(k:br L X w S ow w1 S1 fE)(hX: ∀b,X b→w0.heap.size≤b):br TT ax w0 S0 og w1 S1 fE:=
 (h.tr gO hw k (fun b h=>.inr (hX b h))).mono (fun l _=>TT.all l) (fun _ h=>h)
def V2(w:World)(S:bU)(ow:Ow)(b:Nat)(g':GS):Exit→Act→World→Prop:=bodyPost Try.prog Try.f30 (pZ w S ow b g')
theorem V1{xs:List Value}{d:D}(hQ:QP Q)(ra: ∀a w,V2 w0 S0 og b {g with saved:=g.saved.set i d} .normal a w→Q .normal a w)(gO:Wf w0 S0 og)(N4:yj og)(st:br TT ax w0 S0 og w S ow)(hn:yj ow)(gm:GM w S ow b (R.cells g.bad) R g)(j6:R.la=R.lb)(me:R.va=R.vv)
  (lx:iH w S ow b6 65 xs) (nq:xs.length=8) (hr: ∀(j:Nat) u c,xs[j]? =some u→d.cells[j]? =some c→cH w S u c) (hd:Has ml d) (kv: ∀v∈xs,v.oneCell'=true) (hi:i<g.saved.length) (k:Kn 119 a [(6,.pointer (some ⟨b6,0,none⟩)),(0,bp b),(1,.int .i64 i)]):
  (Code.region 21 HQ true).wp Try.prog Q a w:=by
 refine lR (n0:=6) ax mix hQ afI (fun _=>by kernel_rfl) ?_
 intro w1 e1
 have eZ:=gm.bu e1
 have FP:=lx.bu e1
 have j8:=Ac gO gm.wf st (br.bu e1 ax ax S ow) (fun _ h=>h.elim)
 have s0:=SX.refl ax w1
 obtain⟨bt,Da,cur,yg,kR,lz,Aa,Jq,CF,Lz,Cg⟩:=eZ.saved.set (i:=i) (d:=d) (us:=xs) eZ.wf hi hd nq (fun j u c h1 h2=>(hr j u c h1 h2).bw (br.bu e1 ax ax S ow))
 repeat (first|refine sm k fun a k=> ?_|refine ld k (eZ.cell (fun h=>h) rfl) fun a k=> ?_)
 refine lN (vs:=xs) k rfl nq (fun w' lu j v hv=>by rw[ay];exact FP.cell (fun h=>h) hv w' lu) fun a k=> ?_
 rw[yg]at k
 refine CH (el:=65) (sz:=8) k rfl rfl hi fun a k=> ?_
 refine pX (vs:=xs) (cur:=cur) k (by decide) rfl (by rw[nq];kernel_rfl) rfl rfl rfl kR lz kv (fun h=>absurd rfl h) fun a k=> ?_
 refine aJ (ra _ _ (nU aml k ?_).2)
 have jB:=eZ.Gm CF Lz Cg
 have gI:=Ac gO eZ.wf j8 CF (fun _ h=>h.elim)
 exact⟨S,ow,rfl,br.lg N4 hn gI,R,jB,j6,me⟩
end
theorem Mg{w:World}{S:bU}{v:Value}{d:D}{ts:List Ty}(h:cH w S v d)(hd:Has (.agg (.dJ ts)) d)(hs:ts.all Ty.scalar=true): ∃(cs:List Value) (ds:List D),v= .agg cs.toArray∧d= .agg ds∧cs.length=ts.length∧ds.length=ts.length∧(∀(j:Nat) u c,cs[j]? =some u→ds[j]? =some c→cH w S u c)∧dK (.dJ ts) ds∧ ∀u∈cs,u.oneCell'=true:=by
 obtain⟨ds,rfl,hl⟩:=eN.1 hd
 obtain⟨cs,rfl,jY,hr⟩:=h.Ip
 have wN:ds.length=ts.length:=by rw[il hl,Ty.fa]
 refine⟨cs,ds,rfl,rfl,by omega,wN,hr,hl,?_⟩
 intro u hu
 obtain⟨j,hj⟩:=aE hu
 have lZ:j<cs.length:=(aH.1 hj).1
 obtain⟨x,hx,hh⟩:=dY hl j (ts[j]'(by omega)) (by rw[Ty.fa];exact aW _)
 exact(hr j u x hj hx).ko hh (cn.1 hs _ (aX _))
theorem yR{w:World}{S:bU}{v:Value}{d:D}{t:Ty}(h:cH w S v d)(hd:Has (.list t) d):d= .list d.aV∧ ∃A cap,v= .slice A d.aV.length cap:=by
 obtain⟨l,rfl,_⟩:=bK.1 hd
 exact⟨rfl,h.qd⟩
theorem na{t:Ty}{l:List D}(h:Has (.list t) (.list l)): ∀x∈l,Has t x:=by
 obtain⟨l',h1,_,h2⟩:=bK.1 h
 injection h1 with h1;subst h1;exact h2
section
variable{w0 w:World}{S0 S:bU}{og ow:Ow}{b b5 b6 i:Nat}{g:GS}{R:GR}{o:D}{Q:Exit→Act→World→Prop}{a:Act}{m:List (Nat×Value)}
noncomputable def Km:Code:=(.seq (.seq (.region 14 MA false) (.block 2 (.loop (.seq (.seq (.region 15 Mz false) (.cond (.tmp 83) .skip (.exit 2))) (.seq (.block 3 (.seq (.region 17 My true) (.cond (.tmp 97) (.region 18 Mx false) .skip))) (.region 16 HR false)))))) (.seq (.region 19 Dz false) (.region 20 Dy false)))
theorem QE{A3 A7:Option Addr}{c3 c7:Nat}{oe es:List D}{vo xs:List Value}(hQ:QP Q)(gO:Wf w0 S0 og)(st:br TT ax w0 S0 og w S ow)(hn:yj ow)(gm:GM w S ow b (R.cells g.bad) R g)
  (lo:iH w S ow b5 75 vo) (lx:iH w S ow b6 65 xs) (h6:w0.heap.size≤b6) (fY:b5≠b6)
  (hve:vo[3]? =some (.slice A3 oe.length c3)) (Xc:cH w S (.slice A3 oe.length c3) (.list oe)) (hhe:Has (.list eP) (.list oe)) (Xb:xs[7]? =some (.slice A7 es.length c7)) (nq:xs.length=8) (R6:cH w S (.slice A7 es.length c7) (.list es)) (LH:Has (.list eP) (.list es)) (iY:es.length+oe.length≤300000000000) (ir:oe≠ [])
  (k:Kn 119 a [(9,.slice none 0 0),(5,.pointer (some ⟨b5,0,none⟩)),(6,.pointer (some ⟨b6,0,none⟩)),(0,bp b),(1,.int .i64 i)])
  (jt: ∀a W S' bX v7,Kn 119 a [(6,.pointer (some ⟨b6,0,none⟩)),(0,bp b),(1,.int .i64 i)] →br TT ax w0 S0 og W S' bX→(∀u d,cH w S u d→cH W S' u d)→GM W S' bX b (R.cells g.bad) R g→iH W S' bX b6 65 (xs.set 7 v7)→yj bX→v7.oneCell'=true→
   cH W S' v7 (.list (p4 es (cD 0 (oe.getD 0 .top)).aq++oe))→Has (.list eP) (.list (p4 es (cD 0 (oe.getD 0 .top)).aq++oe))→Q .normal a W):Km.wp Try.prog Q a w:=by
 obtain⟨e0,RO⟩: ∃e0,oe[0]? =some e0:=by
  cases oe with
  |nil=>exact absurd rfl ir
  |cons x r=>exact⟨x,rfl⟩
 have hg0:oe.getD 0 .top=e0:=by rw[av,RO,bL]
 have hh0:=na hhe e0 (ca RO)
 generalize hf:(cD 0 (oe.getD 0 .top)).aq=f at jt
 unfold Km
 refine wp_seq (wp_seq (rg ax hQ afP ?_))
 intro w1 e1
 have s0:=SX.refl ax w1
 repeat refine sm k fun a k=> ?_
 refine aJ ?_
 have eZ:=gm.bu e1
 have Ci:=br.bu e1 ax ax S ow
 refine wp_block (wp_loop_ghost (fun mm a W=> ∃(j:Nat) (vk:Value) (fE:Ow),mm=es.length-j∧j≤es.length∧Kn 119 a [(9,vk),(10,.int .i64 j),(5,.pointer (some ⟨b5,0,none⟩)),(6,.pointer (some ⟨b6,0,none⟩)),(0,bp b),(1,.int .i64 i)] ∧
  br (kG 60) ax w S ow W S fE∧GM W S fE b (R.cells g.bad) R g∧dW W S fE 60 78 eP vk (p4 (es.take j) f)) (es.length-0)
  ⟨0,.slice none 0 0,ow,rfl,bf _,k.sub ⟨rfl,rfl,rfl,rfl,rfl,rfl,trivial⟩,br.bu e1 _ _ _ _,eZ,by rw[List.take_zero];exact dW.nil (by rw[nj];decide) (by decide)⟩ ?_)
 clear eZ Ci k s0 e1 w1
 rintro mm a W ⟨j,vk,fE,rfl,hj,k,j8,eZ,cI⟩
 have RY:=lo.bw j8 (fun h=>h)
 have FP:=lx.bw j8 (fun h=>h)
 refine wp_seq (wp_seq (rg ax hQ afO ?_))
 intro w2 e2
 have jB:=eZ.bu e2
 have tE:=RY.bu e2
 have Jc:=FP.bu e2
 have gI:=j8.RB gm.wf eZ.wf (br.bu e2 (kG 60) ax S fE) (fun _ h=>h.elim)
 have wU:=cI.bw eZ.wf (br.bu e2 ax ax S fE) (fun h=>h)
 have s0:=SX.refl ax w2
 repeat (first|refine sm k fun a k=> ?_|refine ld k (Jc.cell (fun h=>h) Xb) fun a k=> ?_)
 refine cm (c:=decide ((j:Int)<(es.length:Int))) k rfl rfl rfl fun a k=> ?_
 refine aJ (bz k rfl ?_)
 by_cases bP:(j:Int)<(es.length:Int)
 ·rw[if_pos (by simpa using bP)]
  refine wp_skip ?_
  have lZ:j<es.length:=by omega
  obtain⟨e,he⟩: ∃e,es[j]? =some e:=⟨_,aW lZ⟩
  have afi:=na LH e (ca he)
  have k:=k.sub (l:=[(9,vk),(10,.int .i64 j),(5,.pointer (some ⟨b5,0,none⟩)),(6,.pointer (some ⟨b6,0,none⟩)),(0,bp b),(1,.int .i64 i)]) ⟨rfl,rfl,rfl,rfl,rfl,rfl,trivial⟩
  have next: ∀(a:Act) (W':World) (vk':Value) (tC:Ow),Kn 119 a [(9,vk'),(10,.int .i64 j),(5,.pointer (some ⟨b5,0,none⟩)),(6,.pointer (some ⟨b6,0,none⟩)),(0,bp b),(1,.int .i64 i)] →br (kG 60) ax w S ow W' S tC→GM W' S tC b (R.cells g.bad) R g→dW W' S tC 60 78 eP vk' (p4 (es.take (j+1)) f)→
    (Code.region 16 HR false).wp Try.prog (Exit.then (fun a' w'=> ∃n',n'<es.length-j∧ ∃(j:Nat) (vk:Value) (fE:Ow),n'=es.length-j∧j≤es.length∧Kn 119 a' [(9,vk),(10,.int .i64 j),(5,.pointer (some ⟨b5,0,none⟩)),(6,.pointer (some ⟨b6,0,none⟩)),(0,bp b),(1,.int .i64 i)] ∧
     br (kG 60) ax w S ow w' S fE∧GM w' S fE b (R.cells g.bad) R g∧dW w' S fE 60 78 eP vk (p4 (es.take j) f)) (Exit.inBlock 2 (Exit.then (Code.wp Try.prog ((Code.region 19 Dz false).seq (.region 20 Dy false)) Q) Q))) a W':=by
   intro a W' vk' tC k iQ iV P7
   refine rg ax hQ afN ?_
   intro w4 e4
   have s0:=SX.refl ax w4
   repeat refine sm k fun a k=> ?_
   refine lI (s:=((j+1:Nat):Int)) k (by assumption) rfl (by decide) rfl rfl (wrap64 (by omega) (by omega)) fun a k=> ?_
   repeat refine sm k fun a k=> ?_
   refine aJ ⟨es.length-(j+1),by omega,j+1,vk',tC,rfl,by omega,k.sub ⟨rfl,rfl,rfl,rfl,rfl,rfl,trivial⟩,iQ.RB gm.wf iV.wf (br.bu e4 (kG 60) ax S tC) (fun _ h=>h.elim),iV.bu e4,P7.bw iV.wf (br.bu e4 ax ax S tC) (fun h=>h)⟩
  refine wp_seq (wp_block (wp_seq (lR (n0:=12) ax mix (fun c a d v w h=>hQ c a d v w h) afM (fun _=>by kernel_rfl) ?_)))
  intro w3 e3
  have iV:=jB.bu e3
  have tD:=tE.bu e3
  have EY:=Jc.bu e3
  have iQ:=gI.RB gm.wf jB.wf (br.bu e3 (kG 60) ax S fE) (fun _ h=>h.elim)
  have P7:=wU.bw jB.wf (br.bu e3 ax ax S fE) (fun h=>h)
  have s0:=SX.refl ax w3
  obtain⟨bx,ox,cx,ux,ak4,hSx,PH,hcx,alg,Hf,afp⟩:=Ii (R6.bw iQ) he afi
  obtain⟨bo,oo,co,uo,avd,hSo,huo,hco,aBD,hio,av8⟩:=Ii (Xc.bw iQ) RO hh0
  have hbx:=iV.wf.s _ _ hSx
  have hbo:=iV.wf.s _ _ hSo
  repeat (first|refine sm k fun a k=> ?_|refine ld k (EY.cell (fun h=>h) Xb) fun a k=> ?_)
  rw[ak4]at k
  refine qE (el:=78) (sz:=29) k (by assumption) rfl (by decide) rfl rfl (by kernel_rfl) (by kernel_rfl) (by omega) (by omega) fun a k=> ?_
  rw[cE]at k
  repeat refine sm k fun a k=> ?_
  refine qD (v:=.int .i64 (cD 0 e).aq) k (by assumption) rfl (by decide) rfl (by kernel_rfl) (by kernel_rfl) (gf hbx (fun h=>h) afp) fun a k=> ?_
  repeat (first|refine sm k fun a k=> ?_|refine ld k (tD.cell (fun h=>h) hve) fun a k=> ?_)
  rw[avd]at k
  refine qE (el:=78) (sz:=29) k (by assumption) rfl (by decide) rfl rfl (by kernel_rfl) (by kernel_rfl) (by omega) (by have:=(aH.1 RO).1;omega) fun a k=> ?_
  repeat refine sm k fun a k=> ?_
  refine qD (v:=.int .i64 (cD 0 e0).aq) k (by assumption) rfl (by decide) rfl (by kernel_rfl) (by kernel_rfl) (gf hbo (fun h=>h) av8) fun a k=> ?_
  refine cm (c:=decide ((cD 0 e).aq<(cD 0 e0).aq)) k rfl rfl rfl fun a k=> ?_
  refine aJ (bz k rfl ?_)
  have lE:f=(cD 0 e0).aq:=by rw[←hf,hg0]
  have LB:=ND (f:=f) he
  by_cases hc:(cD 0 e).aq<(cD 0 e0).aq
  ·rw[if_pos (by simpa using hc)]
   rw[if_pos (by rw[lE];exact hc)]at LB
   refine rg (fun bb=>fE bb=some 60) hQ afL ?_
   intro w4 e4
   have mh:=iV.bu e4
   have ui:=EY.bu e4
   have jX:=iQ.RB gm.wf iV.wf (br.bu e4 (kG 60) ax S fE) (fun _ h=>h.elim)
   have avx:=P7.bw iV.wf (br.bu e4 ax ax S fE) (fun h=>h)
   have s0:=SX.refl (fun bb=>fE bb=some 60) w4
   have PD: ¬fE b6=some 60:=by rw[ui.ow];intro e;cases e
   have hxx: ¬fE bx=some 60:=mh.wf.nx hSx (by decide)
   have k:=k.sub (l:=[(9,vk),(10,.int .i64 j),(5,.pointer (some ⟨b5,0,none⟩)),(6,.pointer (some ⟨b6,0,none⟩)),(0,bp b),(1,.int .i64 i)]) ⟨rfl,rfl,rfl,rfl,rfl,rfl,trivial⟩
   repeat (first|refine sm k fun a k=> ?_|refine ld k (ui.cell PD Xb) fun a k=> ?_)
   rw[ak4]at k
   refine qE (el:=78) (sz:=29) k (by assumption) rfl (by decide) rfl rfl (by kernel_rfl) (by kernel_rfl) (by omega) (by omega) fun a k=> ?_
   rw[cE]at k
   refine lN (vs:=ux) k rfl PH (fun w' lu q v hv=>gf (by rw[e4.heap];exact hbx) hxx ((e4.cell _).trans (hcx q v hv)) w' lu) fun a k=> ?_
   have Uo: ∀u∈ux,u.oneCell'=true:=by
    intro u hu
    obtain⟨q,hq⟩:=aE hu
    have FU:q<ux.length:=(aH.1 hq).1
    obtain⟨jY,kP⟩:=cN afi
    have R8:q<eP.cells.length:=by rw[nj];omega
    obtain⟨c,qZ,wP⟩:=kP q (eP.cells[q]'R8) (aW R8)
    exact(alg q u c hq qZ).ko wP (cn.1 (show eP.cells.all Ty.scalar=true from rfl) _ (aX R8))
   refine qK (kk:=29) (T:=78) k (by decide) rfl (by decide) rfl (by kernel_rfl) (by show ux.toArray.size=29;rw[cS];exact PH) (fun _=>SX.alloc _ _ _) fun a k=> ?_
   obtain⟨vK,rD⟩:=br.alloc mh.wf (.cells (Value.agg ux.toArray).cells 78)
   have avw:=avx.bw mh.wf vK (fun h=>h)
   have my:=mh.bw vK rD
   refine yq k (by decide) rfl (by decide) fun ty pos af=> ?_
   obtain⟨v',w',fh,bX,mL,zM,ho6⟩:=avw.Qm (P:=Try.prog) (tt:=28) (by kernel_rfl) rfl rD ty w4.heap.size (d:=e) afi (us:=ux) (by rw[nj];exact PH) (heap_alloc_new w4 _) (fun q u c h1 h2=>((alg q u c h1 h2).bw (br.bu e4 ax ax S fE)).bw vK) (wB (by have:=KD (es:=es.take j) (f:=f);rw[bj]at this;omega))
   have s1:SX (fun bb=>fE bb=some 60) w4 w':=(SX.alloc _ _ _).trans (SX.jD (fun _ h=>h) mL)
   refine⟨v',w',k8 (k.op rfl) (k.op rfl) fh,fun _=>s1,fun a k=> ?_⟩
   repeat refine sm k fun a k=> ?_
   refine aJ ?_
   refine next a w' v' bX (k.sub ⟨rfl,rfl,rfl,rfl,rfl,rfl,trivial⟩) (jX.RB gm.wf mh.wf (br.trN mh.wf rD vK mL (fun _ h=>h.elim)) (fun _ h=>h.elim)) (my.loc mL zM ⟨by decide,by decide⟩) ?_
   rw[LB];exact ho6
  ·rw[if_neg (by simpa using hc)]
   rw[if_neg (by rw[lE];exact hc)]at LB
   refine wp_skip (next a w3 vk fE (k.sub ⟨rfl,rfl,rfl,rfl,rfl,rfl,trivial⟩) iQ iV ?_)
   rw[LB];exact P7
 ·rw[if_neg (by simpa using bP)]
  refine wp_exit ?_
  have Jr:j=es.length:=by omega
  subst Jr
  rw[fS]at wU
  show(Code.seq (.region 19 Dz false) (.region 20 Dy false)).wp Try.prog Q a w2
  refine wp_seq (rg (fun bb=>fE bb=some 60) hQ afK ?_)
  intro w3 e3
  have iV:=jB.bu e3
  have tD:=tE.bu e3
  have EY:=Jc.bu e3
  have iQ:=gI.RB gm.wf jB.wf (br.bu e3 (kG 60) ax S fE) (fun _ h=>h.elim)
  have P7:=wU.bw jB.wf (br.bu e3 ax ax S fE) (fun h=>h)
  have s0:=SX.refl (fun bb=>fE bb=some 60) w3
  have PE: ¬fE b5=some 60:=by rw[tD.ow];intro e;cases e
  repeat (first|refine sm k fun a k=> ?_|refine ld k (tD.cell PE hve) fun a k=> ?_)
  refine yq k (by decide) rfl (by decide) fun ty pos af=> ?_
  obtain⟨A,c,news,E7,hA,yo,zZ,BS⟩:=(Xc.bw iQ).source (fun d hd=>(cN (na hhe d hd)).1)
  injection E7 with hxA _ W8
  subst hxA W8
  obtain⟨v',w',fh,bX,mL,zM,ho6⟩:=P7.pv (P:=Try.prog) (tt:=28) (ys:=oe) (by kernel_rfl) rfl iV.wf ty A3 c3 news hA yo zZ (na hhe) BS (wB (by have:=KD (es:=es) (f:=f);omega))
  have s1:SX (fun bb=>fE bb=some 60) w3 w':=SX.jD (fun _ h=>h) mL
  refine⟨v',w',k8 (k.op rfl) (k.op rfl) fh,fun _=>s1,fun a k=> ?_⟩
  repeat refine sm k fun a k=> ?_
  refine aJ ?_
  have wQ:=iV.loc mL zM ⟨by decide,by decide⟩
  have RE:=EY.bw mL (fun h=>h)
  have pR:=iQ.RB gm.wf iV.wf mL (fun _ h=>h.elim)
  refine rg ax hQ afJ ?_
  intro w8 e8
  have r8:=wQ.bu e8
  have G7:=RE.bu e8
  have uh:=pR.RB gm.wf wQ.wf (br.bu e8 (kG 60) ax S bX) (fun _ h=>h.elim)
  have ho8:=ho6.bw wQ.wf (br.bu e8 ax ax S bX) (fun h=>h)
  have s0:=SX.refl ax w8
  obtain⟨Av,cv,pn⟩:=ho8.slice
  repeat refine sm k fun a k=> ?_
  refine mW (cur:=xs) k (by decide) rfl (by kernel_rfl) rfl rfl (by rw[pn];rfl) G7.heap (by omega) (by rw[pn];rfl) (fun h=>absurd rfl h) fun a k=> ?_
  refine aJ ?_
  obtain⟨Lw,Xa,W5⟩:=G7.set r8.wf (us:=xs.set 7 v')
  have Jy:=r8.bw Lw Xa
  have ho9:=ho8.bw r8.wf Lw (fun h=>h)
  obtain⟨S',tC,JA,avb,jf,tV⟩:=ho9.freeze Xa
  have awt:=Jy.loc JA avb ⟨by decide,by decide⟩
  have auZ:=W5.bw JA (fun h=>h)
  have sa:br TT ax w0 S0 og w8 S bX:=Ac gO gm.wf st uh (fun _ h=>h.elim)
  have sb:=Ac gO r8.wf sa Lw (fun bb hb=>by rw[show bb=b6 from hb];exact h6)
  have sc:=Ac gO Xa sb JA (fun _ h=>h.elim)
  refine jt a _ S' tC v' (k.sub ⟨rfl,rfl,rfl,trivial⟩) sc (fun u d hr=>((hr.bw uh).bw Lw).bw JA) awt auZ ?_ (by rw[pn];rfl) jf ho9.has
  intro bb l hl
  have h1:=(JA.jD bb l hl)
  rcases h1 with h1|h1
  ·rcases uh.jD bb l h1 with h2|h2
   ·exact hn bb l h2
   ·rw[show l=60 from h2]at hl;exact absurd hl (tV bb)
  ·rw[show l=60 from h1]at hl;exact absurd hl (tV bb)
end
theorem ql{w:World}{S:bU}{ow:Ow}{T:TypeId}{zs us:List Value}(hw:Wf w S ow):br ax (kG w.heap.size) w S ow ((w.alloc (.cells zs.toArray T)).setRow w.heap.size us.toArray) S ow∧Wf ((w.alloc (.cells zs.toArray T)).setRow w.heap.size us.toArray) S ow∧iH ((w.alloc (.cells zs.toArray T)).setRow w.heap.size us.toArray) S ow w.heap.size T us:=by
 obtain⟨FO,rD⟩:=br.alloc hw (.cells zs.toArray T)
 obtain⟨CF,Lz,lx⟩:=(iH.new hw T zs).set rD (us:=us)
 have atJ:br ax (kG w.heap.size) w S ow _ S ow:=FO.mono (fun _ h=>h) (fun _ h=>h.elim)
 exact⟨(atJ.tr hw rD CF (fun _ h=>.inl h)).mono (fun _ h=>h.elim id id) (fun _ h=>h),Lz,lx⟩
theorem fill_eq{zs us:List Value}{n:Nat}(hz:zs.length=n)(hu:us.length=n):(zs.toArray.toList.take 0++us++zs.toArray.toList.drop (0+us.length))=us:=by
 have:zs.toArray.toList.drop (0+us.length)=[] :=ck (by simp;omega)
 rw[this];simp
theorem Nh{w:World}{S:bU}{ow:Ow}{b i:Nat}{g:GS}{vo:Value}{o:D}(h:nw w S ow b g)(hn:yj ow)(hi:i<g.saved.length)(ho:cH w S vo o)(FT:Has JD o)(hsn:cD 4 o= .gW)(iY:(cD 7 (g.saved.getD i .top)).aV.length+(cD 3 o).aV.length≤300000000000):
  Calls Try.prog 30 [bp b,.int .i64 i,vo].toArray w (pZ w S ow b (p6 i o g)):=by
 obtain⟨R,gm,j6,me⟩:=h
 obtain⟨co,Xo,rfl,rfl,uE,Ys,qB,L8,kv⟩:=Mg ho FT rfl
 obtain⟨d,hd⟩: ∃d,g.saved[i]? =some d:=⟨_,aW hi⟩
 have E3:g.saved.getD i .top=d:=by rw[av,hd,bL]
 have hhd:Has ml d:=gm.saved.all d (ca hd)
 rw[E3]at iY
 obtain⟨c0,c1,c2,c3,c4,c5,c6,c7,rfl⟩: ∃c0 c1 c2 c3 c4 c5 c6 c7,co=[c0,c1,c2,c3,c4,c5,c6,c7] :=by
  have Uz:co.length=8:=uE
  match co,Uz with
  | [c0,c1,c2,c3,c4,c5,c6,c7],_=>exact⟨c0,c1,c2,c3,c4,c5,c6,c7,rfl⟩
 obtain⟨d0,d1,d2,d3,d4,d5,d6,d7,rfl⟩: ∃c0 c1 c2 c3 c4 c5 c6 c7,Xo=[c0,c1,c2,c3,c4,c5,c6,c7] :=by
  have Uw:Xo.length=8:=Ys
  match Xo,Uw with
  | [c0,c1,c2,c3,c4,c5,c6,c7],_=>exact⟨c0,c1,c2,c3,c4,c5,c6,c7,rfl⟩
 have hd4:d4= .gW:=hsn
 subst hd4
 have hc4:c4= .pointer none:=(qB 4 _ _ rfl rfl).u9
 subst hc4
 obtain⟨x3,Z7,hh3⟩:=dY L8 3 (.list eP) (by rw[Ty.fa];rfl)
 injection Z7 with Z7
 subst Z7
 obtain⟨hd3,A3,q3,hc3⟩:=yR (qB 3 _ _ rfl rfl) hh3
 subst hc3
 have hr3:=qB 3 _ _ rfl rfl
 have hoe:(cD 3 (D.agg [d0,d1,d2,d3,.gW,d5,d6,d7])).aV=d3.aV:=rfl
 generalize aBE:d3.aV=oe at hd3 hr3 hoe kv qB
 subst hd3
 refine lU Try.func30 U1 ahj auU (by show 3≤119;omega) ?_
 intro a k
 have hQ:=kj (P:=Try.prog) (fn:=Try.f30) (R:=pZ w S ow b (p6 i (D.agg [d0,d1,d2,.list oe,.gW,d5,d6,d7]) g))
 refine wp_seq (rg ax hQ amV ?_)
 intro w1 e1
 refine uP (us:=[c0,c1,c2,.slice A3 oe.length q3,.pointer none,c5,c6,c7]) k (by decide) rfl (by decide) rfl rfl (fun h=>absurd rfl h) fun a k=> ?_
 refine aJ ?_
 have eZ:=gm.bu e1
 have sA:br TT ax w S ow w1 S ow:=br.bu e1 TT ax S ow
 obtain⟨gI,jn⟩:=br.alloc eZ.wf (.cells [c0,c1,c2,.slice A3 oe.length q3,.pointer none,c5,c6,c7].toArray 75)
 have tE:=iH.new eZ.wf 75 [c0,c1,c2,.slice A3 oe.length q3,.pointer none,c5,c6,c7]
 have jB:=eZ.bw gI jn
 have sB:=Ac gm.wf eZ.wf sA gI (fun _ h=>h.elim)
 have h5:w.heap.size≤w1.heap.size:=by rw[e1.heap];exact bn _
 generalize hb5:w1.heap.size=b5 at k tE h5
 generalize w1.alloc _=w2 at tE jB sB gI jn⊢
 have nK: ∀u d,cH w S u d→cH w2 S u d:=fun u d hr=>hr.bw sB
 clear gI sA eZ hb5 e1 w1
 refine wp_seq (rg ax hQ amU ?_)
 intro w3 e3
 have iV:=jB.bu e3
 have tD:=tE.bu e3
 have sC:=Ac gm.wf jB.wf sB (br.bu e3 ax ax S ow) (fun _ h=>h.elim)
 have s0:=SX.refl ax w3
 obtain⟨bt,Da,us,yg,Aa,Jq,SM,zQ,Hb⟩:=iV.saved.elem hd
 have Dg:us.length=8:=SM
 have ht8:ml.cells.length=8:=rfl
 rw[ht8]at zQ
 repeat (first|refine sm k fun a k=> ?_|refine ld k (iV.cell (fun h=>h) rfl) fun a k=> ?_)
 rw[yg]at k
 refine CH (el:=65) (sz:=8) k rfl rfl hi fun a k=> ?_
 refine lN (vs:=us) k rfl Dg (fun w' lu j v hv=>gf Aa (fun h=>h) (zQ j v hv) w' lu) fun a k=> ?_
 refine oO (nn:=8) k (by decide) rfl (by decide) (by kernel_rfl) (fun zs _=>SX.alloc _ _ _) fun zs yl a k=> ?_
 have Di: ∀u∈us,u.oneCell'=true:=by
  intro u hu
  obtain⟨q,hq⟩:=aE hu
  have FU:q<us.length:=(aH.1 hq).1
  obtain⟨jY,kP⟩:=cN hhd
  have R8:q<ml.cells.length:=by rw[ht8];omega
  obtain⟨c,qZ,wP⟩:=kP q (ml.cells[q]'R8) (aW R8)
  exact(Hb q u c hq qZ).ko wP (cn.1 (show ml.cells.all Ty.scalar=true from rfl) _ (aX R8))
 refine pX (vs:=us) (cur:=zs.toArray) k (by decide) rfl (by rw[Dg];kernel_rfl) rfl rfl rfl (heap_alloc_new w3 _) (by rw[cS];omega) Di (fun h=>absurd rfl h) fun a k=> ?_
 refine aJ ?_
 rw[fill_eq yl Dg]
 obtain⟨jX,tU,ui⟩:=ql (T:=65) (zs:=zs) (us:=us) iV.wf
 have mh:=iV.bw jX tU
 have h6:w.heap.size≤w3.heap.size:=sC.size
 have zU:=tD.bw jX (fun e=>by have:=tD.lt;rw[show b5=w3.heap.size from e]at this;omega)
 have fY:b5≠w3.heap.size:=fun e=>by have:=tD.lt;omega
 have sD:=Ac gm.wf iV.wf sC jX (fun bb hb=>by rw[show bb=_ from hb];exact h6)
 have L5: ∀(j:Nat) u c,us[j]? =some u→d.cells[j]? =some c→cH _ S u c:=fun j u c h1 h2=>(Hb j u c h1 h2).bw jX
 generalize hb6:w3.heap.size=b6 at k ui h6 fY sD mh zU L5⊢
 generalize hW4:(w3.alloc _).setRow b6 _=w4 at ui sD mh zU L5⊢
 have XE: ∀u d,cH w S u d→cH w4 S u d:=fun u d hr=>hr.bw sD
 have k:=k.sub (l:=[(5,.pointer (some ⟨b5,0,none⟩)),(6,.pointer (some ⟨b6,0,none⟩)),(0,bp b),(1,.int .i64 i)]) ⟨rfl,rfl,rfl,rfl,trivial⟩
 clear jX tU hW4 yg Aa Jq zQ Hb s0 sC tD iV nK sB tE jB yl
 obtain⟨dd,z8,Yt⟩:=eN.1 hhd
 subst z8
 have av4:dd.length=8:=by rw[il Yt,Ty.fa];rfl
 obtain⟨u0,u1,u2,u3,u4,u5,u6,u7,rfl⟩: ∃c0 c1 c2 c3 c4 c5 c6 c7,us=[c0,c1,c2,c3,c4,c5,c6,c7] :=by
  match us,Dg with
  | [c0,c1,c2,c3,c4,c5,c6,c7],_=>exact⟨c0,c1,c2,c3,c4,c5,c6,c7,rfl⟩
 obtain⟨y0,y1,y2,y3,y4,y5,y6,y7,rfl⟩: ∃c0 c1 c2 c3 c4 c5 c6 c7,dd=[c0,c1,c2,c3,c4,c5,c6,c7] :=by
  match dd,av4 with
  | [c0,c1,c2,c3,c4,c5,c6,c7],_=>exact⟨c0,c1,c2,c3,c4,c5,c6,c7,rfl⟩
 obtain⟨x7,Z6,hh7⟩:=dY Yt 7 (.list eP) (by rw[Ty.fa];rfl)
 injection Z6 with Z6
 subst Z6
 obtain⟨hd7,A7,q7,hc7⟩:=yR (L5 7 _ _ rfl rfl) hh7
 subst hc7
 have hr7:=L5 7 _ _ rfl rfl
 have alb:(cD 7 (D.agg [y0,y1,y2,y3,y4,y5,y6,y7])).aV=y7.aV:=rfl
 rw[alb,hoe]at iY
 generalize Fu:y7.aV=es at hd7 hr7 iY ui L5 alb Di
 subst hd7
 refine wp_seq (rg ax hQ amT ?_)
 intro w5 e5
 have my:=mh.bu e5
 have FQ:=zU.bu e5
 have AS:=ui.bu e5
 have sE:=Ac gm.wf mh.wf sD (br.bu e5 ax ax S ow) (fun _ h=>h.elim)
 have s0:=SX.refl ax w5
 repeat refine sm k fun a k=> ?_
 refine lN (vs:=[c1,c2]) k rfl rfl (fun w' lu j v hv=>by
  match j,hv with
  |0,hv=>exact FQ.cell (fun h=>h) (j:=1) hv w' lu
  |1,hv=>exact FQ.cell (fun h=>h) (j:=2) hv w' lu) fun a k=> ?_
 repeat refine sm k fun a k=> ?_
 have Dj: ∀u∈ [c1,c2],u.oneCell'=true:=fun u hu=>kv u (by simp at hu⊢;rcases hu with rfl|rfl<;>simp)
 refine pX (vs:=[c1,c2]) (cur:=[u0,u1,u2,u3,u4,u5,u6,.slice A7 es.length q7].toArray) k (by decide) rfl (by kernel_rfl) rfl rfl rfl AS.heap (by show 2≤8;omega) Dj (fun h=>absurd rfl h) fun a k=> ?_
 refine aJ ?_
 obtain⟨mL,zM,RE⟩:=AS.set my.wf (us:=[c1,c2,u2,u3,u4,u5,u6,.slice A7 es.length q7])
 have wQ:=my.bw mL zM
 have lo6:=FQ.bw mL fY
 have sF:=Ac gm.wf my.wf sE mL (fun bb hb=>by rw[show bb=b6 from hb];exact h6)
 have k:=k.sub (l:=[(5,.pointer (some ⟨b5,0,none⟩)),(6,.pointer (some ⟨b6,0,none⟩)),(0,bp b),(1,.int .i64 i)]) ⟨rfl,rfl,rfl,rfl,trivial⟩
 have JH: ∀(j:Nat) u c,[u0,u1,u2,u3,u4,u5,u6,.slice A7 es.length q7][j]? =some u→(D.agg [y0,y1,y2,y3,y4,y5,y6,.list es]).cells[j]? =some c→cH (w5.setRow b6 [c1,c2,u2,u3,u4,u5,u6,.slice A7 es.length q7].toArray) S u c:=fun j u c h1 h2=>((L5 j u c h1 h2).bw (br.bu e5 ax ax S ow)).bw mL
 show Code.wp Try.prog _ _ a (w5.setRow b6 [c1,c2,u2,u3,u4,u5,u6,.slice A7 es.length q7].toArray)
 generalize w5.setRow b6 [c1,c2,u2,u3,u4,u5,u6,.slice A7 es.length q7].toArray=w6 at RE wQ lo6 sF JH mL zM⊢
 have RJ: ∀u d,cH w S u d→cH w6 S u d:=fun u d hr=>hr.bw sF
 clear mL zM sE AS FQ my e5 s0 L5 ui zU mh sD XE
 have fin: ∀(a:Act) (W:World) (S':bU) (bX:Ow) (v7:Value) (l7:List D),Kn 119 a [(6,.pointer (some ⟨b6,0,none⟩)),(0,bp b),(1,.int .i64 i)] →br TT ax w S ow W S' bX→(∀u d,cH w6 S u d→cH W S' u d)→GM W S' bX b (R.cells g.bad) R g→iH W S' bX b6 65 [c1,c2,u2,u3,u4,u5,u6,v7] →yj bX→v7.oneCell'=true→
   cH W S' v7 (.list l7)→Has (.list eP) (.list l7)→l7=Cq (.agg [y0,y1,y2,y3,y4,y5,y6,.list es]) (.agg [d0,d1,d2,.list oe,.gW,d5,d6,d7])→(Code.region 21 HQ true).wp Try.prog (bodyPost Try.prog Try.f30 (pZ w S ow b (p6 i (D.agg [d0,d1,d2,.list oe,.gW,d5,d6,d7]) g))) a W:=by
  intro a W S' bX v7 l7 k sG mT gmG lxG hnG h7 Un Uv hl7
  refine V1 (d:=.agg [d1,d2,y2,y3,y4,y5,y6,.list l7]) hQ ?_ gm.wf hn sG hnG gmG j6 me lxG rfl ?_ ?_ ?_ hi k
  ·intro a w' hp
   have:p6 i (D.agg [d0,d1,d2,.list oe,.gW,d5,d6,d7]) g={g with saved:=g.saved.set i (.agg [d1,d2,y2,y3,y4,y5,y6,.list l7])}:=by
    unfold p6
    rw[E3,hl7]
    rfl
   rw[this]
   exact hp
  ·intro j u c h1 h2
   match j,h1,h2 with
   |0,h1,h2=>injection h1 with h1;injection h2 with h2;subst h1 h2;exact mT _ _ (RJ _ _ (qB 1 _ _ rfl rfl))
   |1,h1,h2=>injection h1 with h1;injection h2 with h2;subst h1 h2;exact mT _ _ (RJ _ _ (qB 2 _ _ rfl rfl))
   |2,h1,h2=>injection h1 with h1;injection h2 with h2;subst h1 h2;exact mT _ _ (JH 2 _ _ rfl rfl)
   |3,h1,h2=>injection h1 with h1;injection h2 with h2;subst h1 h2;exact mT _ _ (JH 3 _ _ rfl rfl)
   |4,h1,h2=>injection h1 with h1;injection h2 with h2;subst h1 h2;exact mT _ _ (JH 4 _ _ rfl rfl)
   |5,h1,h2=>injection h1 with h1;injection h2 with h2;subst h1 h2;exact mT _ _ (JH 5 _ _ rfl rfl)
   |6,h1,h2=>injection h1 with h1;injection h2 with h2;subst h1 h2;exact mT _ _ (JH 6 _ _ rfl rfl)
   |7,h1,h2=>injection h1 with h1;injection h2 with h2;subst h1 h2;exact Un
  ·obtain⟨_,_,e0,t0,r0⟩:=aj.1 Yt
   obtain⟨_,_,e1,t1,r1⟩:=aj.1 r0
   obtain⟨_,_,e2,t2,r2⟩:=aj.1 r1
   obtain⟨_,_,e3,t3,r3⟩:=aj.1 r2
   obtain⟨_,_,e4,t4,r4⟩:=aj.1 r3
   obtain⟨_,_,e5,t5,r5⟩:=aj.1 r4
   obtain⟨_,_,e6,t6,r6⟩:=aj.1 r5
   simp only[eJ]at e0 e1 e2 e3 e4 e5 e6
   obtain⟨rfl,rfl⟩:=e0
   obtain⟨rfl,rfl⟩:=e1
   obtain⟨rfl,rfl⟩:=e2
   obtain⟨rfl,rfl⟩:=e3
   obtain⟨rfl,rfl⟩:=e4
   obtain⟨rfl,rfl⟩:=e5
   obtain⟨rfl,rfl⟩:=e6
   obtain⟨z1,hz1,hy1⟩:=dY L8 1 I6 (by rw[Ty.fa];rfl)
   obtain⟨z2,hz2,zW⟩:=dY L8 2 I6 (by rw[Ty.fa];rfl)
   injection hz1 with hz1
   injection hz2 with hz2
   subst hz1 hz2
   exact eN.2 ⟨_,rfl,aj.2 ⟨_,_,rfl,hy1,aj.2 ⟨_,_,rfl,zW,aj.2 ⟨_,_,rfl,t2,aj.2 ⟨_,_,rfl,t3,aj.2 ⟨_,_,rfl,t4,aj.2 ⟨_,_,rfl,t5,aj.2 ⟨_,_,rfl,t6,aj.2 ⟨_,_,rfl,Uv,dr.2 rfl⟩⟩⟩⟩⟩⟩⟩⟩⟩
  ·intro v hv
   simp only[aM,fc,or_false]at hv
   rcases hv with rfl|rfl|rfl|rfl|rfl|rfl|rfl|rfl
   ·exact Dj _ (by simp)
   ·exact Dj _ (by simp)
   ·exact Di _ (by simp)
   ·exact Di _ (by simp)
   ·exact Di _ (by simp)
   ·exact Di _ (by simp)
   ·exact Di _ (by simp)
   ·exact h7
 refine wp_seq (wp_seq (rg ax hQ amS ?_))
 intro w7 e7
 have LN:=wQ.bu e7
 have lo7:=lo6.bu e7
 have lx7:=RE.bu e7
 have sH:=Ac gm.wf wQ.wf sF (br.bu e7 ax ax S ow) (fun _ h=>h.elim)
 have s0:=SX.refl ax w7
 repeat (first|refine sm k fun a k=> ?_|refine ld k (lo7.cell (fun h=>h) rfl) fun a k=> ?_)
 refine afB (by kernel_rfl) k (by assumption) rfl (by decide) rfl rfl fun a k=> ?_
 refine aJ (bz k rfl (wp_skip ?_))
 refine wp_seq (wp_seq (rg ax hQ afR ?_))
 intro w8 e8
 have r8:=LN.bu e8
 have lo8:=lo7.bu e8
 have G7:=lx7.bu e8
 have sI:=Ac gm.wf LN.wf sH (br.bu e8 ax ax S ow) (fun _ h=>h.elim)
 have s0:=SX.refl ax w8
 have hr8: ∀u d,cH w6 S u d→cH w8 S u d:=fun u d hr=>(hr.bw (br.bu e7 ax ax S ow)).bw (br.bu e8 ax ax S ow)
 repeat (first|refine sm k fun a k=> ?_|refine ld k (lo8.cell (fun h=>h) rfl) fun a k=> ?_)
 refine cm (c:=decide ((oe.length:Int)>0)) k rfl rfl rfl fun a k=> ?_
 refine aJ (bz k rfl ?_)
 have hsE: ∀x,Cq (.agg [y0,y1,y2,y3,y4,y5,y6,.list es]) (.agg [d0,d1,d2,.list oe,.gW,d5,d6,d7])=x↔(if oe=[] then es else p4 es (cD 0 (oe.getD 0 .top)).aq++oe)=x:=fun x=>dD
 by_cases SU:oe=[]
 ·rw[if_neg (by subst SU;simp)]
  refine wp_skip (fin a w8 S ow _ es (k.sub ⟨rfl,rfl,rfl,trivial⟩) sI hr8 r8 G7 hn rfl (hr8 _ _ (JH 7 _ _ rfl rfl)) hh7 ?_)
  exact((hsE es).2 (if_pos SU)).symm
 ·have ir:0<oe.length:=List.length_pos_iff.2 SU
  rw[if_pos (by simp;omega)]
  refine wp_seq (rg ax hQ afQ ?_)
  intro w9 e9
  have Jy:=r8.bu e9
  have lo9:=lo8.bu e9
  have W5:=G7.bu e9
  have sJ:=Ac gm.wf r8.wf sI (br.bu e9 ax ax S ow) (fun _ h=>h.elim)
  have s0:=SX.refl ax w9
  have hr9: ∀u d,cH w6 S u d→cH w9 S u d:=fun u d hr=>(hr8 u d hr).bw (br.bu e9 ax ax S ow)
  repeat refine sm k fun a k=> ?_
  refine aJ ?_
  refine QE (g:=g) (i:=i) (fun c a d v w h=>hQ c a d v w h) gm.wf sJ hn Jy lo9 W5 h6 fY rfl (hr9 _ _ (RJ _ _ hr3)) hh3 rfl rfl (hr9 _ _ (JH 7 _ _ rfl rfl)) hh7 iY SU (k.sub ⟨rfl,rfl,rfl,rfl,rfl,trivial⟩) ?_
  intro a W S' bX v7 k sK mT gmK lxK hnK h7 Un Uv
  refine fin a W S' bX v7 _ k sK (fun u d hr=>mT u d (hr9 u d hr)) gmK lxK hnK h7 Un Uv ?_
  exact((hsE _).2 (if_neg SU)).symm
end Go.Proofs.Ytjhmkaninmgilaa
