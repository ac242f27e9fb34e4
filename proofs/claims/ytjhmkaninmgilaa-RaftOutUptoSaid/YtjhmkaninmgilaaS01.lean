/- Part 1 of the proof of RaftOut; no condition. -/
import Derived.Test.YtjhmkaninmgilaaS00
set_option linter.defProp false
set_option linter.unusedVariables false
set_option linter.unusedSimpArgs false
set_option maxHeartbeats 4000000
namespace Go.dI
open Go Go.RowKit
def lk{a β:Type}[DecidableEq a] :List (a×β)->a->Tao β
 | [],_=>none
 |(k,v)::r,x=>if x=k then some v else lk r x
structure iH where
 dst:Tak
 qW:dB×SV
 hp:List (Nat×Tao (Bool×List SC))
 live:List (Tag×Tao (E×Tba×Ty))
 rd:Tah
 items:List Item
def eT{a β:Type}[DecidableEq a](h:a->β)(l:List (a×β)):a->β:=fun x=>match lk l x with
 |some v=>v
 |none=>h x
def iH.app(e:iH)(σ:St):St:=
 ⟨match e.dst with|some d=>fD σ.tm d (some e.qW)|none=>σ.tm,eT σ.hp e.hp,eT σ.live e.live⟩
def guardOf(ops:Tad)(σ:St)(o:Tbc):Tao dB:=
 match o.guard with
 |none=>some []
 |some (j,want)=>
  match (ops[j]?).bind (·.dst) with
  |some t=>match σ.tm t with
   |some (c,.one (.gz e .bool))=>some ((e,want)::c)
   |_=>none
  |none=>none
def CE(P:Tap)(σ:St)(pc:dB)(o:Tbc):Tao (Pl×Tah):=
 match o.op with
 |.lookup T m x false=>
  match fP P σ pc m T,fp P σ pc x 0 with
  |some (.one (.Ct id)),some (ek,kt)=>
   match σ.hp id with
   |some (_,cs)=>match mapOf cs with
    |some (e,kt',T')=>if kt'=kt∧T'=T then some ((.one (.gz (.bin .has e ek) .bool),[]),[id]) else none
    |none=>none
   |none=>none
  |_,_=>none
 |_=>none
def qi(P:Tap)(σ:St)(pc:dB)(o:Tbc):Tao (Pl×Tah):=
 match o.op with
 |.load .. =>CF P σ pc o
 |.move _| .assign _=>(yY P σ pc o).map (·,[])
 |.pick .. =>(CD P σ pc o).map (·,[])
 |.binOp .. =>(CG P σ pc o).map (·,[])
 |.unOp .. | .convert .. =>(LQ P σ pc o).map (·,[])
 |.extract .. =>(te P σ pc o).map (·,[])
 |.fieldAddr .. =>(oK P σ pc o).map (·,[])
 |.field .. =>(yx P σ pc o).map (·,[])
 |.indexAddr .. =>(oJ P σ pc o).map (·,[])
 |.nilCheck _=>(I4 P σ pc o).map (·,[])
 |.slice _ _ _ _ none=>(yv P σ pc o).map (·,[])
 |.slice .. =>(vE P σ pc o).map (·,[])
 |.build .. =>(yz P σ pc o).map (·,[])
 |.lookup .. =>CE P σ pc o
 |.call {callee:=.builtin .len,.. }| .call {callee:=.builtin .min,.. }| .call {callee:=.builtin .max,.. }=>(BA P σ pc o).map (·,[])
 |_=>none
def yO(P:Tap)(σ:St)(pc:dB)(o:Tbc):Tao (List SC):=
 match o.op with
 |.alloc t=>
  match flat P Et t,(P.info? t).bind (·.zero) with
  |some ts,some z=>ma ts z.cells.toList
  |none,some z=>(match z.cells.toList with| [.map none] =>some [.Gb] |_=>none)
  |_,_=>none
 |.box t x=>(fP P σ pc x t).bind mi
 |_=>none
def vj(P:Tap)(σ:St)(pc:dB)(o:Tbc):Tao (Nat×List SC):=
 match o.op with
 |.store t x y=>
  match fP P σ pc x t,(fP P σ pc y t).bind mi,iv P t with
  |some (.one (.pJ id off)),some cs,some n=>
   match σ.hp id with
   |some (false,Pg)=>if mapOf Pg=none∧cs.length=n∧off+cs.length<=Pg.length then some (id,Pg.take off++cs++Pg.drop (off+cs.length)) else none
   |_=>none
  |_,_,_=>none
 |_=>none
def rm(P:Tap)(σ:St)(pc:dB):List Tbb->Tao (List (E×Ty)×List (Nat×List SC))
 | [] =>some ([],[])
 |x::r=>
  match fP P σ pc x 0,rm P σ pc r with
  |some (.one (.pJ id 0)),some (es,fz)=>
   match σ.hp id with
   |some (_,cs)=>match gY cs with
    |some (ds,ts)=>some ((.un .pP (.V ds),.box (.V ts))::es,(id,cs)::fz)
    |none=>none
   |none=>none
  |some (.one (.gz e (.box fs))),some (es,fz)=>some ((e,.box fs)::es,fz)
  |_,_=>none
def LR(P:Tap)(σ:St)(pc:dB)(o:Tbc):Tao (E×Ty×List (Nat×List SC)):=
 match o.op with
 |.makeFunc (.func f) first captured=>
  if first.toList.isEmpty then
   match rm P σ pc captured.toList with
   |some (es,fz)=>some (.un (.fnc f) (.V (es.map (·.1))),.fn f (.V (es.map (·.2))),fz)
   |none=>none
  else none
 |_=>none
def xq(P:Tap)(σ:St)(pc:dB):List Tbb->List Tba->Tao (List (E×Ty))
 | [],[] =>some []
 |x::r,t::ts=>match fp P σ pc x t,xq P σ pc r ts with
  |some e,some es=>some (e::es)
  |_,_=>none
 |_,_=>none
def nH(own:Bool)(p:Nat)(e:E):bB->SC
 |(t,none)=>.gz e t
 |(t,some (j,_))=>if own then(if Bc j then .xo (p,j) t else .own (p,j) e t) else .gz e (.list t)
def lj(own:Bool)(p:Nat)(e:E):Nat->List bB->List SC
 |_,[] => []
 |j,c::r=>nH own p (.un (.cell j) e) c::lj own p e (j+1) r
def zk(own:Bool)(p:Nat)(e:E)(c:Bool×List bB):Bool×List SC:=
 (c.1,if c.1 then lj own p e 0 c.2 else c.2.map (nH own p e))
def mS(own:Bool)(p:Nat)(e:E):Nat->List (Bool×List bB)->List (Bool×List SC)
 |_,[] => []
 |j,c::r=>zk own p (.un (.cell j) e) c::mS own p e (j+1) r
def ud(own:Bool)(p:Nat)(e:E):List (Bool×List bB)->SV
 | [c] =>match zk own p e c with
  |(true,l)=>.agg l
  |(false,l)=>.one (l.headD (.mN .nil))
 |cs=>.eS (mS own p e 0 cs)
def lC(own:Bool)(p:Nat)(a:List (Bool×List bB)):SV:=ud own p (.var p) a
def kx(p:Nat)(e:E):bB->List (Tag×Tao (E×Tba×Ty))
 |(_,none)=> []
 |(t,some (j,T))=> [((p,j),some (e,T,t))]
def lT(p:Nat)(e:E):Nat->List bB->List (Tag×Tao (E×Tba×Ty))
 |_,[] => []
 |j,c::r=>kx p (.un (.cell j) e) c++lT p e (j+1) r
def rN(p:Nat)(e:E)(c:Bool×List bB):List (Tag×Tao (E×Tba×Ty)):=
 if c.1 then lT p e 0 c.2 else c.2.flatMap (kx p e)
def nj(p:Nat)(e:E):Nat->List (Bool×List bB)->List (Tag×Tao (E×Tba×Ty))
 |_,[] => []
 |j,c::r=>rN p (.un (.cell j) e) c++nj p e (j+1) r
def nI(p:Nat)(e:E):List (Bool×List bB)->List (Tag×Tao (E×Tba×Ty))
 | [c] =>rN p e c
 |cs=>nj p e 0 cs
def gM(p:Nat)(a:List (Bool×List bB)):List (Tag×Tao (E×Tba×Ty)):=nI p (.var p) a
def Ga(a:List (Bool×List bB)):Bool:=a.all fun c=>c.2.all fun x=>match x.2 with|some (j,_)=> !Bc j|none=>true
def cK(a:List (Bool×List bB)):Tah:=a.flatMap fun c=>c.2.filterMap fun x=>x.2.map (·.1)
def qb:bB->bB
 |(t,some (j,T))=>(t,some (j+1000,T))
 |c=>c
def vb(a:List (Bool×List bB)):List (Bool×List bB):=a.map fun c=>(c.1,c.2.map qb)
def yU(s:dH):dH:={s with res:=vb s.res}
def Ty.bare:Ty->Bool
 |.int _| .bool| .str=>true
 |_=>false
def bB.bare:bB->Bool
 |(t,none)=>t.bare
 |(t,some _)=>t.cells.all Ty.bare
def yE(a:List (Bool×List bB)):Bool:=a.all fun c=>c.2.all bB.bare
def abD(cs:mG):Tak->Bool
 |some d=>cs.ex.contains d
 |none=>false
def By(cs:mG)(dst:Tak)(k:Nat):Tao dH:=
 match lk cs.l k with
 |some s=>if abD cs dst=true∧s.ob=none∧yE s.res=true then some (yU s) else some s
 |none=>none
def wF(P:Tap)(cs:mG)(σ:St)(pc:dB)(o:Tbc):Tao (Nat×E×dH):=
 match o.op with
 |.call {callee:=.value f,args,argTypes}=>
  match fP P σ pc f 0,xq P σ pc args.toList argTypes.toList with
  |some (.one (.gz fe (.fn k fs))),some es=>
   match By cs o.dst k with
   |some sig=>
    if sig.ob.isNone=true∧es.map (·.2)++fs.A=sig.params∧(cK sig.res).Nodup∧(sig.res.all fun c=>c.1||c.2.length==1)=true∧(pc.isEmpty||Ga sig.res)=true then
     some (k,.V (es.map (·.1)++(jr fe 0 fs.A).map (·.1)),sig)
    else none
   |none=>none
  |_,_=>none
 |_=>none
def kL:List (Tao Tag)->Bool
 | [] =>true
 |none::r=>kL r
 |some g::r=> !r.contains (some g)&&kL r
abbrev kS:=List (Nat×Tao Tag)
def jt(σ:St):bB->SC->Tao (E×kS)
 |(t,none),c=>match asData c with
  |some (e,t')=>if t'=t then some (e,[]) else none
  |none=>match c with
   |.pJ _ 0=>if t= .box .nil then some (.un .pP .nil,[]) else none
   |_=>none
 |(t,some (j,T)),c=>match c with
  |.mN t'=>if t'=t∧0<t.cells.length then some (.nil,[(j,none)]) else none
  |.own g _ t'=>match σ.live g with
   |some (e,T',t'')=>if t'=t∧t''=t∧T'=T∧0<t.cells.length∧g.ex=false∧Bc j=false then some (e,[(j,some g)]) else none
   |none=>none
  |.xo g t'=>match σ.live g with
   |some (e,T',t'')=>if t'=t∧t''=t∧T'=T∧0<t.cells.length∧g.ex=true∧Bc j=true then some (e,[(j,some g)]) else none
   |none=>none
  |_=>none
def gv(σ:St):List bB->List SC->Tao (List E×kS)
 | [],[] =>some ([],[])
 |r::rs,c::cs=>match jt σ r c,gv σ rs cs with
  |some (e,l),some (es,ls)=>some (e::es,l++ls)
  |_,_=>none
 |_,_=>none
def kE{σ:St}{a:List bB}{cs:List SC}{x:List E×kS}(h:gv σ a cs=some x):mapOf cs=none:=by
 unfold mapOf;split
 ·cases a with
  |nil=>simp[gv]at h
  |cons r rs=>
   obtain⟨t,o⟩:=r;cases o<;>simp[gv,jt,asData]at h
 ·rfl
def oY(l:kS):Bool:=kL (l.map (·.2))&&decide ((l.map (·.1)).Nodup)
def Ec:bB->Ty
 |(t,none)=>t
 |(t,some _)=>.list t
def Ek(a:List bB):Tah:=a.filterMap fun x=>x.2.map (·.1)
def Ob.jz(ob:Ob):Tah:=ob.cB.flatMap Ek
def kF(a:dH)(ob:Ob):Tah:=cK a.res++ob.outs.flatMap Ek
def kU(P:Tap)(σ:St)(pc:dB):List Bool->List Tbb->List Tba->Tao (List (E×Ty)×Tah)
 | [],[],[] =>some ([],[])
 |false::sh,x::r,t::ts=>match fp P σ pc x t,kU P σ pc sh r ts with
  |some e,some (es,ids)=>some (e::es,ids)
  |_,_=>none
 |true::sh,x::r,t::ts=>match fP P σ pc x t,kU P σ pc sh r ts with
  |some (.one (.pJ id 0)),some (es,ids)=>some (es,id::ids)
  |_,_=>none
 |_,_,_=>none
def tF(σ:St):List (List bB)->Tah->Tao (List (List E)×kS)
 | [],[] =>some ([],[])
 |rc::r,id::ids=>match σ.hp id with
  |some (false,cs)=>match gv σ rc cs,tF σ r ids with
   |some (es,l),some (Xz,ls)=>some (es::Xz,l++ls)
   |_,_=>none
  |_=>none
 |_,_=>none
def hY(l:List Bool):Nat:=(l.filter fun b=>b).length
def IL:bB:=(.box .nil,none)
def HJ:List bB->List SC->Tak
 |r::rs,c::cs=>if r=IL then(match c with
  |.pJ id 0=>some id
  |_=>none) else HJ rs cs
 |_,_=>none
def nw(σ:St)(ob:Ob)(ids:Tah):Tah:=
 if hY ob.shape<ob.cB.length then
  match ob.cB,ids with
  |rc::_,id::_=>match σ.hp id with
   |some (_,cs)=>ids++(HJ rc cs).toList
   |none=>ids
  |_,_=>ids
 else ids
def BC(ob:Ob)(ids:Tah):Tak:=if hY ob.shape<ob.cB.length then ids[ob.cB.length-1]? else none
def BD(l:Nat):List bB->List SC->Bool
 |r::rs,c::cs=>(decide (r≠IL)||decide (c= .pJ l 0))&&BD l rs cs
 |_,_=>true
def xY(σ:St):List (List bB)->Tah->Tak->Bool
 |rc::r,id::ids,some l=>(match σ.hp id with
  |some (_,cs)=>BD l rc cs
  |none=>true)&&xY σ r ids (some l)
 |_,_,_=>true
def tX(lk:Tak):List bB->List SC->List SC
 |r::rs,c::cs=>(match lk with
  |some id=>if r=IL then .pJ id 0 else c
  |none=>c)::tX lk rs cs
 |_,cs=>cs
def zW(lk:Tak): ∀(a:List bB) (cs:List SC),(tX lk a cs).length=cs.length
 | [],cs=>by simp[tX]
 |_::_,[] =>by simp[tX]
 |r::a,c::cs=>by simp[tX,zW lk a cs]
def rL{lk:Tak}: ∀{a:List bB} {cs:List SC} {i:Nat} {c:SC},(tX lk a cs)[i]? =some c-> ∃b,cs[i]? =some b∧(c=b∨ ∃id,lk=some id∧a[i]? =some IL∧c= .pJ id 0)
 | [],cs,i,c,h=>⟨c,by simpa [tX]using h,.inl rfl⟩
 |_::_,[],i,c,h=>by simp[tX]at h
 |r::a,c1::cs,0,c,h=>by
  simp only[tX,dk,aa]at h;refine⟨c1,rfl,?_⟩;split at h
  ·rename_i id;split at h
   ·rename_i d;subst d;exact .inr ⟨id,rfl,rfl,h.symm⟩
   ·exact .inl h.symm
  ·exact .inl h.symm
 |r::a,c1::cs,i+1,c,h=>by simp only[tX,dm]at h;obtain⟨b,f,e⟩:=rL h;exact⟨b,by simpa using f,by simpa using e⟩
def wY{l:Nat}: ∀{a:List bB} {cs:List SC} {i:Nat} {c:SC},BD l a cs=true->a[i]? =some IL->cs[i]? =some c->c= .pJ l 0
 | [],_,i,c,_,h,_=>by simp at h
 |_::_,[],i,c,_,_,h=>by simp at h
 |r::a,c1::cs,0,c,h,h1,h2=>by simp only[dk,aa]at h1 h2;subst h1 h2;simp only[BD,aS,dt,bk]at h;exact h.1.resolve_left (fun b=>b rfl)
 |r::a,c1::cs,i+1,c,h,h1,h2=>by simp only[BD,aS]at h;exact wY h.2 (by simpa using h1) (by simpa using h2)
def zP{σ:St}{l:Nat}: ∀{rcs:List (List bB)} {ids:Tah} {o:Nat} {a:List bB} {id:Nat} {ro:Bool} {cs:List SC},xY σ rcs ids (some l)=true->rcs[o]? =some a->ids[o]? =some id->σ.hp id=some (ro,cs)->BD l a cs=true
 | [],_,o,a,id,ro,cs,_,h,_,_=>by simp at h
 |_::_,[],o,a,id,ro,cs,_,_,h,_=>by simp at h
 |r::rs,i::is,0,a,id,ro,cs,h,h1,h2,h3=>by simp only[dk,aa]at h1 h2;subst h1 h2;simp only[xY,h3,aS]at h;exact h.1
 |r::rs,i::is,o+1,a,id,ro,cs,h,h1,h2,h3=>by simp only[xY,aS]at h;exact zP h.2 (by simpa using h1) (by simpa using h2) h3
def Ph(lk:Tak)(p:Nat):Nat->Tah->List (List bB)->List (Nat×Tao (Bool×List SC))
 |k,id::ids,rc::r=>(id,some (false,tX lk rc (lj true p (.un (.cell k) (.var p)) 0 rc)))::Ph lk p (k+1) ids r
 |_,_,_=> []
def xl(p:Nat):Nat->List (List bB)->List (Tag×Tao (E×Tba×Ty))
 |k,rc::r=>lT p (.un (.cell k) (.var p)) 0 rc++xl p (k+1) r
 |_,[] => []
def kX(ob:Ob)(ids:Tah)(p:Nat):Tah:=if ob.mv then ids.take (ob.cB.length-1)++[p] else ids++if ob.new then [p] else []
def Bz(ob:Ob)(ids:Tah)(p:Nat):Tak:=if ob.mv then some p else BC ob ids
def Y0:bB->Bool
 |(t,none)=>t.scalar
 |_=>true
structure od where
 k:Nat
 args:E
 sig:dH
 ob:Ob
 ids:Tah
 own:kS
def iP(P:Tap)(cs:mG)(σ:St)(pc:dB)(o:Tbc):Tao od:=
 match o.op with
 |.call {callee:=.value f,args,argTypes}=>
  match fP P σ [] f 0 with
  |some (.one (.gz _ (.fn k .nil)))=>
   match lk cs.l k with
   |some sig=>
    match sig.ob with
    |some ob=>
     match kU P σ pc ob.shape args.toList argTypes.toList with
     |some (es,ids)=>
      match tF σ ob.cB (nw σ ob ids) with
      |some (Xz,l)=>
       if es.map (·.2)++ob.cB.flatten.map Ec=sig.params∧(nw σ ob ids).Nodup∧oY l=true∧(kF sig ob).Nodup∧(sig.res.all fun c=>c.1||c.2.length==1)=true∧
         ob.outs.length=(nw σ ob ids).length+ob.new.toNat∧(ob.outs.all fun a=>a.all Y0)=true∧(nw σ ob ids).length=ob.cB.length∧xY σ ob.cB (nw σ ob ids) (BC ob (nw σ ob ids))=true∧(ob.mv=true->hY ob.shape<ob.cB.length) then
        some ⟨k,.V (es.map (·.1)++Xz.flatten),sig,ob,nw σ ob ids,l⟩
       else none
      |none=>none
     |none=>none
    |none=>none
   |none=>none
  |_=>none
 |_=>none
def od.Cr(x:od)(p:Nat)(dst:Tak):iH:=
 ⟨dst,([],if x.ob.new then .one (.pJ p 0) else ud true p (.un (.cell 0) (.var p)) x.sig.res),Ph (Bz x.ob x.ids p) p 1 (kX x.ob x.ids p) x.ob.outs++(if x.ob.mv then [(x.ids.getD (x.ob.cB.length-1) 0,none)] else []),
  (x.own.filterMap fun y=>y.2.map fun g=>(g,none))++(if x.ob.new then [] else nI p (.un (.cell 0) (.var p)) x.sig.res)++xl p 1 x.ob.outs,x.ids,[.call p x.k x.args []]⟩
def tG(σ:St):List SC->Tao (List E×Tal×Tah)
 | [] =>some ([],[],[])
 |c::r=>match tG σ r with
  |some (es,ts,ids)=>match asData c with
   |some (e,t)=>some (e::es,t::ts,ids)
   |none=>match c with
    |.pJ id 0=>match σ.hp id with
     |some (_,cs)=>match gY cs with
      |some (ds,us)=>some (.un .pP (.V ds)::es,.box (.V us)::ts,id::ids)
      |none=>none
     |none=>none
    |_=>none
  |none=>none
def Kd(P:Tap)(σ:St)(pc:dB)(x:Tbb)(t:Tba):Tao (E×Ty×Tah):=
 match fp P σ pc x t with
 |some (e,ty)=>some (e,ty,[])
 |none=>match fP P σ pc x t with
  |some (.one (.pJ id 0))=>match σ.hp id with
   |some (_,cs)=>match tG σ cs with
    |some (es,ts,ids)=>some (.un .pP (.V es),.box (.V ts),id::ids)
    |none=>none
   |none=>none
  |_=>none
def xp(P:Tap)(σ:St)(pc:dB):List Tbb->List Tba->Tao (List (E×Ty)×Tah)
 | [],[] =>some ([],[])
 |x::r,t::ts=>match Kd P σ pc x t,xp P σ pc r ts with
  |some (e,ty,i),some (es,ids)=>some ((e,ty)::es,i++ids)
  |_,_=>none
 |_,_=>none
def om(P:Tap)(cs:mG)(σ:St)(pc:dB)(o:Tbc):Tao (Nat×E×dH×Tah):=
 match o.op with
 |.call {callee:=.value f,args,argTypes}=>
  match fP P σ [] f 0,xp P σ pc args.toList argTypes.toList with
  |some (.one (.gz _ (.fn k .nil))),some (es,ids)=>
   match lk cs.l k with
   |some sig=>
    if sig.ob.isNone=true∧es.map (·.2)=sig.params∧(cK sig.res).Nodup∧(sig.res.all fun c=>c.1||c.2.length==1)=true∧yE sig.res=true∧(pc.isEmpty||Ga sig.res)=true then
     some (k,.V (es.map (·.1)),sig,ids)
    else none
   |none=>none
  |_,_=>none
 |_=>none
def rI(P:Tap)(σ:St)(pc:dB)(o:Tbc):Tao (Tao Tag×E×E×Tba×Ty×Nat):=
 match o.op with
 |.call {callee:=.builtin .append,args,argTypes}=>
  match args.toList,argTypes.toList with
  | [s,x],[t,t'] =>
   match P.underlying t,fP P σ pc s t,fp P σ pc x t with
   |some (.slice el),some sv,some (e2,.list u)=>
    match P.info? el,W1 P el with
    |some ie,some u'=>
     if t=t'∧u=u'∧u.cells.length=ie.size∧0<ie.size∧(u.cells.all Ty.scalar)=true∧((ie.zero.map fun z=>z.cells.size)=some ie.size)∧ie.bytes=u.bytes then
      match sv with
      |.one (.mN v)=>if v=u then some (none,.nil,e2,el,u,ie.bytes) else none
      |.one (.own g _ v)=>match σ.live g with
       |some (e1,T,v')=>if v=u∧v'=u∧T=el∧g.ex=false then some (some g,e1,e2,el,u,ie.bytes) else none
       |none=>none
      |_=>none
     else none
    |_,_=>none
   |_,_,_=>none
  |_,_=>none
 |_=>none
def ng(P:Tap)(σ:St)(o:Tbc):Tao (E×E×Tba×Ty×Nat):=
 match o.op with
 |.call {callee:=.builtin .append,args,argTypes}=>
  match args.toList,argTypes.toList with
  | [s,x],[t,t'] =>
   match P.underlying t,fP P σ [] s t,fp P σ [] x t with
   |some (.slice el),some (.one (.clip e1 v)),some (e2,.list u)=>
    match P.info? el,W1 P el with
    |some ie,some u'=>
     if t=t'∧u=u'∧u.cells.length=ie.size∧0<ie.size∧(u.cells.all Ty.scalar)=true∧((ie.zero.map fun z=>z.cells.size)=some ie.size)∧ie.bytes=u.bytes∧v=u then some (e1,e2,el,u,ie.bytes) else none
    |_,_=>none
   |_,_,_=>none
  |_,_=>none
 |_=>none
def SC.Zh:SC->Bool
 |.xo .. =>true
 |_=>false
def SV.Sr:SV->Bool
 |.one c=>c.Zh
 |.agg l=>l.any SC.Zh
 |.eS _=>false
def qL(σ:St)(g:Tag)(t:Ty):Tao (E×Tba):=
 match σ.live g with
 |some (e,T,t')=>if t'=t∧g.ex=true∧0<t.cells.length then some (e,T) else none
 |none=>none
def Gx(u:Ty)(el:E)(off:Nat)(es:List E):Tao E:=
 match u,es with
 |.agg fs,es=>some (.un .agg (.V (((jr el 0 fs.A).map (·.1)).take off++es++((jr el 0 fs.A).map (·.1)).drop (off+es.length))))
 |u,[x] =>if off=0∧u.scalar=true then some x else none
 |_,_=>none
def uT(e i x:E):E:=.bin .cat (.bin .take e i) (.cons x (.bin .drop (.bin .drop e i) (.aR .i64 1)))
def IQ(P:Tap)(σ:St)(o:Tbc):Tao iH:=
 match o.op with
 |.load t x=>
  if(P.underlying t).isNone then none else
  match fP P σ [] x t with
  |some (.one (.tS g i u off))=>match qL σ g u with
   |some (e,T)=>(pD P t (.bin .idx e i) u off).map fun s=>⟨o.dst,([],s.1),[],[(g,some (e,T,u))],[],[]⟩
   |none=>none
  |_=>none
 |_=>none
def Cv(P:Tap)(σ:St)(o:Tbc):Tao iH:=
 match o.op with
 |.store t x y=>
  match fP P σ [] x t,((fP P σ [] y t).bind mi).bind gY,iv P t with
  |some (.one (.tS g i u off)),some (es,ts),some n=>match qL σ g u with
   |some (e,T)=>
    if es.length=n∧off+n<=u.cells.length∧ts=(u.cells.drop off).take n∧(ts.all Ty.scalar)=true∧o.dst=none then
     (Gx u (.bin .idx e i) off es).map fun x=>⟨none,([],.agg []),[],[(g,some (uT e i x,T,u))],[],[]⟩
    else none
   |none=>none
  |_,_,_=>none
 |_=>none
def Pt(P:Tap)(σ:St)(o:Tbc):Tao iH:=
 match o.op with
 |.call {callee:=.builtin .len,args,argTypes}=>
  match args.toList,argTypes[0]? with
  | [x],some t=>match P.underlying t,fP P σ [] x t with
   |some (.slice _),some (.one (.xo g u))=>match qL σ g u with
    |some (e,T)=>some ⟨o.dst,([],.one (.gz (.un .len e) (.int .i64))),[],[(g,some (e,T,u))],[],[]⟩
    |none=>none
   |_,_=>none
  |_,_=>none
 |_=>none
def Cy(P:Tap)(σ:St)(o:Tbc):Tao iH:=
 match o.op with
 |.indexAddr t x i=>
  match P.underlying t,fP P σ [] x t,fp P σ [] i t with
  |some (.slice el),some (.one (.xo g u)),some (ie,.int k)=>match qL σ g u with
   |some (e,T)=>
    if iv P el=some u.cells.length then
     some ⟨o.dst,([],.one (.tS g ie u 0)),[],[(g,some (e,T,u))],[],[.kq [] (.bin .and (.bin .le (.aR k 0) ie) (.bin .lt ie (.un .len e)))]⟩
    else none
   |none=>none
  |_,_,_=>none
 |_=>none
def yZ(P:Tap)(σ:St)(o:Tbc):Tao (Tao Tag×E×E×Tba×Ty×Nat):=
 match o.op with
 |.call {callee:=.builtin .append,args,argTypes}=>
  match args.toList,argTypes.toList with
  | [s,x],[t,t'] =>
   match P.underlying t,fP P σ [] s t,fp P σ [] x t with
   |some (.slice el),some sv,some (e2,.list u)=>
    match P.info? el,W1 P el with
    |some ie,some u'=>
     if t=t'∧u=u'∧u.cells.length=ie.size∧0<ie.size∧(u.cells.all Ty.scalar)=true∧((ie.zero.map fun z=>z.cells.size)=some ie.size)∧ie.bytes=u.bytes then
      match sv with
      |.one (.mN v)=>if v=u then some (none,.nil,e2,el,u,ie.bytes) else none
      |.one (.xo g v)=>match qL σ g v with
       |some (e1,T)=>if v=u∧T=el then some (some g,e1,e2,el,u,ie.bytes) else none
       |none=>none
      |_=>none
     else none
    |_,_=>none
   |_,_,_=>none
  |_,_=>none
 |_=>none
def C4(P:Tap)(σ:St)(p:Nat)(o:Tbc):Tao iH:=
 match yZ P σ o with
 |some (g,e1,e2,T,t,b)=>some ⟨o.dst,([],.one (.xo (p,1000) t)),[],(match g with|some g=> [(g,none)] |none=> [])++[((p,1000),some (.bin .cat e1 e2,T,t))],[],[.room [] (.bin .cat e1 e2) b]⟩
 |none=>none
def Ps(P:Tap)(σ:St)(p:Nat)(o:Tbc):Tao iH:=
 match wE P σ o with
 |some (e,T,t,_)=>some ⟨o.dst,([],.one (.xo (p,1000) t)),[],[((p,1000),some (e,T,t))],[],[]⟩
 |none=>none
def mT(σ:St):SC->Tao ((E×Ty)×List (Tag×Tao (E×Tba×Ty)))
 |.xo g t=>match qL σ g t with
  |some (e,T)=>some ((e,.list t),[(g,some (e,T,t))])
  |none=>none
 |c=>(asData c).map fun x=>(x,[])
def jJ(σ:St):List SC->Tao ((List E×Tal)×List (Tag×Tao (E×Tba×Ty)))
 | [] =>some (([],[]),[])
 |c::r=>match mT σ c,jJ σ r with
  |some ((e,t),l),some ((es,ts),ls)=>some ((e::es,t::ts),l++ls)
  |_,_=>none
def mE(σ:St):SV->Tao ((E×Ty)×List (Tag×Tao (E×Tba×Ty)))
 |.one c=>mT σ c
 |.agg l=>match jJ σ l with
  |some ((es,ts),ls)=>some ((.un .agg (.V es),.agg (.V ts)),ls)
  |none=>none
 |.eS _=>none
def qM(P:Tap)(σ:St)(pc:dB):List Tbb->List Tba->Tao (List (E×Ty)×List (Tag×Tao (E×Tba×Ty)))
 | [],[] =>some ([],[])
 |x::r,t::ts=>match (fP P σ pc x t).bind (mE σ),qM P σ pc r ts with
  |some (e,l),some (es,ls)=>some (e::es,l++ls)
  |_,_=>none
 |_,_=>none
def IT(P:Tap)(cs:mG)(σ:St)(p:Nat)(o:Tbc):Tao iH:=
 match o.op with
 |.call {callee:=.value f,args,argTypes}=>
  match fP P σ [] f 0,qM P σ [] args.toList argTypes.toList with
  |some (.one (.gz _ (.fn k .nil))),some (es,l)=>
   match lk cs.l k with
   |some sig=>
    if sig.ob.isNone=true∧es.map (·.2)=sig.params∧(cK sig.res).Nodup∧(sig.res.all fun c=>c.1||c.2.length==1)=true∧(sig.res.all fun c=>c.2.all bB.bare)=true then
     some ⟨o.dst,([],lC true p sig.res),[],l++gM p sig.res,[],[.call p k (.V (es.map (·.1))) []]⟩
    else none
   |none=>none
  |_,_=>none
 |_=>none
def wD(P:Tap)(cs:mG)(σ:St)(pc:dB)(p:Nat)(o:Tbc):Tao iH:=
 match o.op with
 |.call {callee:=.value f,args,argTypes}=>
  match fP P σ [] f 0,qM P σ pc args.toList argTypes.toList with
  |some (.one (.gz _ (.fn k .nil))),some (es,l)=>
   match lk cs.l k with
   |some sig=>
    if sig.ob.isNone=true∧es.map (·.2)=sig.params∧cK sig.res=[] ∧Ga sig.res=true∧(sig.res.all fun c=>c.1||c.2.length==1)=true∧(sig.res.all fun c=>c.2.all bB.bare)=true then
     some ⟨o.dst,(pc,lC false p sig.res),[],l,[],[.call p k (.V (es.map (·.1))) pc]⟩
    else none
   |none=>none
  |_,_=>none
 |_=>none
def BJ(P:Tap)(σ:St)(x:Tbb×Tba):Bool:=match fP P σ [] x.1 x.2 with|some s=>s.Sr|none=>false
def C2(P:Tap)(σ:St)(pc:dB)(x:Tbb×Tba):Bool:=match fP P σ pc x.1 x.2 with|some s=>s.Sr|none=>false
def Cw(P:Tap)(σ:St)(pc:dB)(o:Tbc):Bool:=
 match o.op with
 |.call {callee:=.value _,args,argTypes}=>(args.toList.zip argTypes.toList).any (C2 P σ pc)
 |_=>false
def IS(P:Tap)(cs:mG)(σ:St)(o:Tbc):Nat:=
 match o.op with
 |.load t x=>match fP P σ [] x t with|some (.one (.tS ..))=>1|_=>0
 |.store t x _=>match fP P σ [] x t with|some (.one (.tS ..))=>2|_=>0
 |.indexAddr t x _=>match fP P σ [] x t with|some (.one (.xo ..))=>4|_=>0
 |.call {callee:=.builtin .len,args,argTypes}=>match args.toList,argTypes.toList with
  | [x],[t] =>match fP P σ [] x t with|some (.one (.xo ..))=>3|_=>0
  |_,_=>0
 |.call {callee:=.builtin .append,args,argTypes}=>match args.toList,argTypes.toList with
  |x::_,t::_=>match fP P σ [] x t with
   |some (.one (.xo ..))=>5
   |some (.one (.mN _))=>match o.dst with|some d=>if cs.ex.contains d then 5 else 0|none=>0
   |_=>0
  |_,_=>0
 |.buildSlice .. =>match o.dst with|some d=>if cs.ex.contains d then 6 else 0|none=>0
 |.makeSlice .. =>match o.dst with|some d=>if cs.ex.contains d then 6 else 0|none=>0
 |.call {callee:=.value _,args,argTypes}=>if(args.toList.zip argTypes.toList).any (BJ P σ) then 7 else 0
 |_=>0
def L3(P:Tap)(cs:mG)(σ:St)(p:Nat)(o:Tbc):Nat->Tao iH
 |1=>IQ P σ o
 |2=>Cv P σ o
 |3=>Pt P σ o
 |4=>Cy P σ o
 |5=>C4 P σ p o
 |6=>Ps P σ p o
 |_=>IT P cs σ p o
def GC:Op->Nat
 |.alloc _| .box .. =>1
 |.store .. =>2
 |.makeFunc .. =>3
 |.call {callee:=.value _,.. }=>4
 |.call {callee:=.builtin .append,.. }=>5
 |.buildSlice .. =>6
 |.makeMap .. =>7
 |.mapUpdate .. =>8
 |_=>0
def qd(P:Tap)(cs:mG)(ops:Tad)(σ:St)(p:Nat)(o:Tbc):Tao iH:=
 match guardOf ops σ o with
 |none=>none
 |some pc=>
  match GC o.op with
  |1=>match yO P σ pc o with
   |some l=>if pc=[] ∧l.all SC.scalar=true then some ⟨o.dst,(pc,.one (.pJ p 0)),[(p,some (false,l))],[],[],[]⟩ else none
   |none=>none
  |2=>match vj P σ pc o with
   |some (id,l)=>if pc=[] ∧l.all SC.scalar=true∧o.dst=none then some ⟨none,([],.agg []),[(id,some (false,l))],[],[id],[]⟩ else none
   |none=>none
  |3=>match LR P σ pc o with
   |some (e,t,fz)=>some ⟨o.dst,(pc,.one (.gz e t)),fz.map fun x=>(x.1,some (true,x.2)),[],fz.map (·.1),[]⟩
   |none=>none
  |4=>match wF P cs σ pc o with
   |some (k,e,sig)=>some ⟨o.dst,(pc,lC pc.isEmpty p sig.res),[],if pc.isEmpty then gM p sig.res else [],[],[.call p k e pc]⟩
   |none=>match iP P cs σ [] o with
    |some x=>if pc=[] then some (x.Cr p o.dst) else none
    |none=>match om P cs σ pc o with
     |some (k,e,sig,rd)=>if cs.fr=0 then some ⟨o.dst,(pc,lC pc.isEmpty p sig.res),[],if pc.isEmpty then gM p sig.res else [],rd,[.call p k e pc]⟩ else none
     |none=>none
  |5=>match ng P σ o with
   |some (e1,e2,T,t,b)=>
    if pc=[] then some ⟨o.dst,([],.one (.own (p,0) (.bin .cat e1 e2) t)),[],[((p,0),some (.bin .cat e1 e2,T,t))],[],[.room [] (.bin .cat e1 e2) b,.kq [] (.bin .lt (.aR .i64 0) (.un .len e2))]⟩ else none
   |none=>match rI P σ pc o with
    |some (g,e1,e2,T,t,b)=>
     if pc=[] then
      some ⟨o.dst,(pc,.one (.own (p,0) (.bin .cat e1 e2) t)),[],(match g with|some g=> [(g,none)] |none=> [])++[((p,0),some (.bin .cat e1 e2,T,t))],[],[.room pc (.bin .cat e1 e2) b]⟩
     else none
    |none=>none
  |6=>match qJ P σ pc o with
   |some (e,T,t,_)=>
    if pc.isEmpty then some ⟨o.dst,(pc,.one (.own (p,0) e t)),[],[((p,0),some (e,T,t))],[],[]⟩
    else some ⟨o.dst,(pc,.one (.gz e (.list t))),[],[],[],[]⟩
   |none=>none
  |_=>match qi P σ pc o with
   |some ((s,is),rd)=>some ⟨o.dst,(pc,s),[],[],rd,is⟩
   |none=>none
def BI(P:Tap)(cs:mG)(ops:Tad)(σ:St)(p:Nat)(o:Tbc):Tao iH:=
 match o.guard,IS P cs σ o with
 |none,k+1=>L3 P cs σ p o (k+1)
 |some _,_=>match guardOf ops σ o with
  |some pc=>if Cw P σ pc o then wD P cs σ pc p o else qd P cs ops σ p o
  |none=>none
 |_,_=>qd P cs ops σ p o
def Dh:SC->Bool
 |.gz _ t=>t.bare
 |.mN _=>true
 |.own .. =>true
 |_=>false
def zU:SV->Bool
 |.one (.own ..)=>true
 |.one (.mN _)=>true
 |.one (.gz _ (.list u))=>u.cells.all Ty.bare
 |.one (.clip _ u)=>u.cells.all Ty.bare
 |_=>false
def qa(P:Tap)(σ:St)(pc:dB)(o:Tbc):Tao (List SC):=
 match o.op with
 |.buildSlice t len parts=>
  match P.underlying t with
  |some (.slice el)=>
   match P.info? el,flat P Et el,mf P σ pc (fun _=>el) parts.toList with
   |some ie,some ts,some ps=>
    match ie.zero.bind fun z=>ma ts z.cells.toList with
    |some zs=>uh (fun i=>some (i*ie.size,ie.size)) ((List.range (len*ie.size)).map fun j=>zs.getD (j % zs.length) (.mN .nil)) ps
    |none=>none
   |_,_,_=>none
  |_=>none
 |_=>none
def Rb(j:Nat):Bool:=decide (500<=j)&&decide (j<1000)
def bB.fr:bB->Bool
 |(t,none)=>t.bare
 |(t,some (j,_))=>t.cells.all Ty.bare||Rb j
def Ss(a:List (Bool×List bB)):Bool:=a.all fun c=>c.2.all bB.fr
def LU(a:List (Bool×List bB)):Bool:=(cK a).all fun j=> !Rb j
def uP(P:Tap)(cs:mG)(σ:St)(pc:dB)(o:Tbc):Bool:=
 match o.op with
 |.call {callee:=.value f,.. }=>match fP P σ pc f 0 with
  |some (.one (.gz _ (.fn k _)))=>match By cs o.dst k with
   |some sig=>Ss sig.res&&sig.ob.isNone&&Ga sig.res
   |none=>false
  |_=>false
 |.call {callee:=.builtin .append,args,argTypes}=>match args.toList,argTypes.toList with
  | [s,x],[_,t'] =>match fP P σ pc s t',fP P σ pc x t' with
   |some (.one (.clip _ u)),_=>u.cells.all Ty.bare
   |_,some sv=>zU sv
   |_,_=>false
  |_,_=>false
 |.buildSlice .. =>match qa P σ pc o with
  |some cs=>cs.all Dh
  |none=>false
 |_=>true
def wI(P:Tap)(cs:mG)(ops:Tad)(σ:St)(p:Nat)(o:Tbc):Tao iH:=
 match cs.fr with
 |0=>BI P cs ops σ p o
 |1=>match guardOf ops σ o with
  |some pc=>if uP P cs σ pc o then qd P cs ops σ p o else none
  |none=>none
 |_=>if GC o.op<3 then qd P cs ops σ p o else none
structure tY(ex:Bool)(w:Tam)(base:Nat)(S:bz)(T:Tba)(t:Ty)(v:Tan)(d:D):Prop where
 has:Has (.list t) d
 sz:0<t.cells.length
 own: ∃xs l,d= .list l∧w.ownsRow base T t.cells.length v l.length xs∧(∀b,v.ownBlock=some b-> ∀o,S b o↔ex=false∧o<xs.length)∧
  ∀(i:Nat) d (j:Nat) v c,l[i]? =some d->d.cells[j]? =some c->xs[i*t.cells.length+j]? =some v->ca w S v c
def jF(w:Tam)(base:Nat)(S:bz)(τ:Taj):bB->Tan->D->Prop
 |(t,none),v,d=>ca w S v d∧Has t d
 |(t,some (j,T)),v,d=>v=τ j∧tY (Bc j) w base S T t (τ j) d
def gl(w:Tam)(base:Nat)(S:bz)(τ:Taj)(c:Bool×List bB)(v:Tan)(d:D):Prop:=
 if c.1 then∃(a:Tac) (b:Taf),v= .agg a.toArray∧d= .agg b∧a.length=c.2.length∧b.length=c.2.length∧
  ∀(i:Nat) x u y,c.2[i]? =some x->a[i]? =some u->b[i]? =some y->jF w base S τ x u y
 else∃x,c.2=[x] ∧jF w base S τ x v d
def gU(w:Tam)(base:Nat)(S:bz)(τ:Taj)(a:List (Bool×List bB))(v:Tan)(d:D):Prop:=
 (∃c,a=[c] ∧gl w base S τ c v d)∨
 (a.length≠1∧ ∃(b:Tac) (e:Taf),v= .tuple b.toArray∧d= .eS e∧b.length=a.length∧e.length=a.length∧
  ∀(i:Nat) x u y,a[i]? =some x->b[i]? =some u->e[i]? =some y->gl w base S τ x u y)
def BK(w:Tam)(S:bz)(τ:Taj)(c:List bB)(b:Nat)(cells:Taf):Prop:=
 ∃(a:Tac) (T:Tba),w.heap[b]? =some (.cells a.toArray T (0,0))∧a.length=c.length∧cells.length=c.length∧
  (∀(i:Nat) r v d,c[i]? =some r->a[i]? =some v->cells[i]? =some d->jF w 0 S τ r v d)∧ ∀o,¬S b o
def rn(w:Tam)(S:bz)(β:Nat->Nat):List Bool->Nat->Tac->Taf->Prop
 | [],_,[],[] =>True
 |true::sh,o,v::vs,ds=>v= .pointer (some ⟨β o,0,none⟩)∧rn w S β sh (o+1) vs ds
 |false::sh,o,v::vs,d::ds=>ca w S v d∧rn w S β sh o vs ds
 |_,_,_,_=>False
def tR(ob:Ob)(β:Nat->Nat)(τ:Taj)(b:Nat):Prop:=(∃o,o<ob.cB.length∧b=β o)∨ ∃j,j∈ob.jz∧(τ j).ownBlock=some b
structure BL(w:Tam)(S:bz)(ob:Ob)(β:Nat->Nat)(τ:Taj)(vs:Tac)(dd:Taf)(oo:List (Taf)):Prop where
 lt: ∀b o,S b o->b<w.heap.size
 args:rn w S β ob.shape 0 vs dd
 len:oo.length=ob.cB.length
 cB: ∀(o:Nat) rc cells,ob.cB[o]? =some rc->oo[o]? =some cells->BK w S τ rc (β o) cells
 inj: ∀i j,i<ob.cB.length->j<ob.cB.length->β i=β j->i=j
 own: ∀j k b,j∈ob.jz->k∈ob.jz->(τ j).ownBlock=some b->(τ k).ownBlock=some b->j=k
 eK: ∀j o b,j∈ob.jz->o<ob.cB.length->(τ j).ownBlock=some b->b≠β o
 link:hY ob.shape<ob.cB.length-> ∀(o c:Nat) rc,ob.cB[o]? =some rc->rc[c]? =some IL->w.cell? ⟨β o,c,none⟩=some (.pointer (some ⟨β (ob.cB.length-1),0,none⟩))
def ka(ob:Ob)(β:Nat->Nat)(βn:Nat)(o:Nat):Nat:=if o<ob.cB.length∧ ¬(ob.mv=true∧o=ob.cB.length-1) then β o else βn
structure Oc(w:Tam)(S:bz)(sig:dH)(ob:Ob)(β:Nat->Nat)(τ:Taj)(v:Tan)(d:D)(w':Tam)(S':bz)(τ':Taj)(βn:Nat):Prop where
 below:gp (tR ob β τ) w w'
 jw: ∀b o,S b o->S' b o
 lt: ∀b o,S' b o->b<w'.heap.size
 new: ∀b o,S' b o->S b o∨w.heap.size<=b∨tR ob β τ b
 keep: ∀b o,S b o->w'.cell? ⟨b,o,none⟩=w.cell? ⟨b,o,none⟩
 res: ∃(d0:D) (outs:List (Taf)),d= .eS (d0::outs.map .agg)∧outs.length=ob.outs.length∧
  (if ob.new then v= .pointer (some ⟨βn,0,none⟩)∧w.heap.size<=βn else gU w' 0 S' τ' sig.res v d0)∧
  ∀(o:Nat) rc cells,ob.outs[o]? =some rc->outs[o]? =some cells->BK w' S' τ' rc (ka ob β βn o) cells
 gh: ∀j b,j∈kF sig ob->(τ' j).ownBlock=some b->w.heap.size<=b∨tR ob β τ b
 own: ∀j k b,j∈kF sig ob->k∈kF sig ob->(τ' j).ownBlock=some b->(τ' k).ownBlock=some b->j=k
 eK: ∀j o b,j∈kF sig ob->o<ob.outs.length->(τ' j).ownBlock=some b->b≠ka ob β βn o
 link:hY ob.shape<ob.cB.length-> ∀(o c:Nat) rc,ob.outs[o]? =some rc->rc[c]? =some IL->w'.cell? ⟨ka ob β βn o,c,none⟩=some (.pointer (some ⟨ka ob β βn (ob.cB.length-1),0,none⟩))
 mvd:ob.mv=true->βn=β (ob.cB.length-1)∨w.heap.size<=βn
structure TQ(w:Tam)(T:Tba)(v:Tan)(unit:Bool)(ys:List Int)(u v':Tan)(w':Tam):Prop where
 res:if unit then v'=v else u=v'
 own:w'.ownsRow 0 T 1 v' ys.length (ys.map (Value.int .i64))
 F3:v'.ownBlock=v.ownBlock
 below:gp (fun b=>v.ownBlock=some b) w w'
structure bj(P:Tap)(f:Nat)(sig:dH)(Pre:Taf->Prop)(Φ:Taf->D):Prop where
 enter: ∀(args:Tbd Tan) (w:Tam),(callFunc f args).run P w= .ok (.enter f args) w
 calls:sig.ob=none-> ∀(w:Tam) (S:bz) (vs:Tac) (ds:Taf),(∀b o,S b o->b<w.heap.size)->vs.length=ds.length->(∀(i:Nat) v d,vs[i]? =some v->ds[i]? =some d->ca w S v d)->
  dn (.V sig.params) ds->Pre ds->
  Calls P f vs.toArray w fun e w'=> ∃v S' τ,e= .returned v∧Below w.heap.size w w'∧(∀b o,S b o->S' b o)∧(∀b o,S' b o->b<w'.heap.size)∧(∀b o,S' b o->S b o∨w.heap.size<=b)∧
   gU w' 0 S' τ sig.res v (Φ ds)∧(∀j b,j∈cK sig.res->(τ j).ownBlock=some b->w.heap.size<=b)∧(∀j k b,j∈cK sig.res->k∈cK sig.res->(τ j).ownBlock=some b->(τ k).ownBlock=some b->j=k)∧
   ∀j,j∈cK sig.res->Rb j=true->yl (fun b=>w.heap.size<=b) w' S' (τ j)
 y9: ∀ob,sig.ob=some ob->ob.wy=false-> ∀(w:Tam) (S:bz) (β:Nat->Nat) (τ:Taj) (vs:Tac) (dd:Taf) (oo:List (Taf)),BL w S ob β τ vs dd oo->
  dn (.V sig.params) (dd++oo.flatten)->Pre (dd++oo.flatten)->
  Calls P f vs.toArray w fun e w'=> ∃v S' τ' βn,e= .returned v∧Oc w S sig ob β τ v (Φ (dd++oo.flatten)) w' S' τ' βn
 GA: ∀ob,sig.ob=some ob->ob.wy=true-> ∀(w:Tam) (T:Tba) (v:Tan) (zs:List Int),w.ownsRow 0 T 1 v zs.length (zs.map (Value.int .i64))->Has (.list (.int .i64)) (.list (zs.map (D.int .i64)))->Pre [.list (zs.map (D.int .i64))] ->
  Calls P f #[v] w fun e w'=> ∃(u v':Tan) (ys:List Int),e= .returned u∧Φ [.list (zs.map (D.int .i64))] = .list (ys.map (D.int .i64))∧Has (.list (.int .i64)) (.list (ys.map (D.int .i64)))∧TQ w T v sig.res.isEmpty ys u v' w'
structure abP(P:Tap)(f:Nat)(sg:zq)(Pre:Taf->Prop)(Φ:Taf->D):Prop where
 enter: ∀(args:Tbd Tan) (w:Tam),(callFunc f args).run P w= .ok (.enter f args) w
 calls: ∀(w:Tam) (S:bz) (vs:Tac) (ds:Taf) (vo:Tan) (lo:D) (bm:Nat) (lm:D),(∀b o,S b o->b<w.heap.size)->vs.length=ds.length->(∀(i:Nat) v d,vs[i]? =some v->ds[i]? =some d->ca w S v d)->
  dn (.V sg.ps) ds->tY true w 0 S sg.T sg.t vo lo->Has (.list sg.kt) lm->vg P w bm sg.TM sg.kt lm.A->(∀o,¬S bm o)->Pre (ds++[lo,lm])->
  Calls P f (vs++[vo,.map (some bm)]).toArray w fun e w'=> ∃v S',e= .returned v∧gp (fun b=>vo.ownBlock=some b∨b=bm) w w'∧(∀b o,S b o->S' b o)∧(∀b o,S' b o->b<w'.heap.size)∧
   (∀b o,S' b o->S b o∨w.heap.size<=b∨vo.ownBlock=some b∨b=bm)∧(∀b o,S b o->w'.cell? ⟨b,o,none⟩=w.cell? ⟨b,o,none⟩)∧tY true w' 0 S' sg.T sg.t v (Φ (ds++[lo,lm]))∧
   ∀b,v.ownBlock=some b->w.heap.size<=b∨vo.ownBlock=some b∨b=bm
structure PF(P:Tap)(f:Nat)(sF:dH)(Pre:Taf->Prop)(Φ:Taf->D):Prop where
 new:bj P f sF (fun ds=>Pre ds∧((Φ ds).A.getD 0 .top).gk=false) Φ
 nil: ∀ob,sF.ob=some ob-> ∀(w:Tam) (S:bz) (β:Nat->Nat) (τ:Taj) (vs:Tac) (dd:Taf) (oo:List (Taf)),BL w S ob β τ vs dd oo->dn (.V sF.params) (dd++oo.flatten)->Pre (dd++oo.flatten)->
  ((Φ (dd++oo.flatten)).A.getD 0 .top).gk=true->Calls P f vs.toArray w fun e w'=>e= .returned (.pointer none)∧Below w.heap.size w w'
structure Gl(P:Tap)(cs:mG)(S0:gJ)(Φ:Taa)(Pre:eN):Prop where
 fr:S0.fr->cs.fr=1
 wz:S0.wz->cs.fr=2
 prog:S0.prog=P
 keys: ∀T kt,lk cs.mp T=some kt->TR P T kt
 eat: ∀k sg,lk cs.et k=some sg->sg.nn=none->abP P k sg (Pre k) (Φ k)
 nn: ∀k sg sF t,lk cs.et k=some sg->sg.nn=some (sF,t)->PF P k sF (Pre k) (Φ k)
def EM{w w':Tam}{S S':bz}{t:Ty}{v:Tan}{d:D}(b:t.bare=true)(a:Has t d)(h:ca w S v d):ca w' S' v d:=by
 cases t<;>simp[Ty.bare]at b
 ·obtain⟨n,rfl,_⟩:=dr.1 a;rw[h.cn];exact .int _ _
 ·obtain⟨n,rfl⟩:=dh.1 a;rw[h.gS];exact .bool _
 ·obtain⟨n,rfl⟩:=mg.1 a;rw[h.Df];exact .str _
def QE(j:Nat):Bc (j+1000)=true:=by unfold Bc;exact decide_eq_true (by omega)
def mX(b:List (Bool×List bB)):cK (vb b)=(cK b).map (· +1000):=by
 induction b with
 |nil=>rfl
 |cons c r ih=>
  have d: ∀l:List bB,(l.map qb).filterMap (fun x=>x.2.map (·.1))=(l.filterMap (fun x=>x.2.map (·.1))).map (· +1000):=by
   intro l
   induction l with
   |nil=>rfl
   |cons a l Pj=>
    obtain⟨t,o⟩:=a;cases o with
    |none=>simpa [qb]using Pj
    |some y=>simp only[cE,qb,List.filterMap_cons,aP,Pj]
  have f:cK (vb (c::r))=(c.2.map qb).filterMap (fun x=>x.2.map (·.1))++cK (vb r):=rfl;have e:cK (c::r)=c.2.filterMap (fun x=>x.2.map (·.1))++cK r:=rfl;rw[f,e,ih,d,ck]
def Cm{w w0:Tam}{S S':bz}{τ:Taj}{c:bB}{v:Tan}{d:D}(H:c.bare=true)(N: ∀b o,S b o->b<w0.heap.size)(f: ∀T j,c.2=some (j,T)-> ∀b,(τ j).ownBlock=some b->w0.heap.size<=b)(h:jF w 0 S' τ c v d):
  jF w 0 S (fun j=>τ (j-1000)) (qb c) v d:=by
 obtain⟨t,o⟩:=c;cases o with
 |none=>
  obtain⟨C,p⟩:=h;exact⟨EM H p C,p⟩
 |some y=>
  obtain⟨j,T⟩:=y;obtain⟨C,p⟩:=h;have g:t.cells.all Ty.bare=true:=H;rw[bY]at g;refine⟨by rw[C];simp,?_⟩;have R:(fun j=>τ (j-1000)) (j+1000)=τ j:=by simp
  rw[R,QE];obtain⟨E,J,I,l,F,e,V,M⟩:=p;refine⟨E,J,I,l,F,e,?_,?_⟩
  ·intro b A o;refine⟨fun s=> ?_,fun s=>Bool.noConfusion s.1⟩;have B:=N b o s;have n:=f T j rfl b A;omega
  ·intro i x k u y B n Q;obtain⟨U,a,_,K⟩:=bL.1 E;rw[F]at a;injection a with a;subst a;have r:=K x (bU B);obtain⟨P,O⟩:=cd r;have G:k<t.cells.length:=by rw[<-P];exact(aG.1 n).1
   have L:t.cells[k]? =some t.cells[k] :=aQ G;obtain⟨z,m,q⟩:=O k _ L;rw[n]at m;injection m with m;subst m;exact EM (g _ (aF G)) q (M i x k u y B n Q)
def Cl{w w0:Tam}{S S':bz}{τ:Taj}{c:Bool×List bB}{v:Tan}{d:D}(k:(c.2.all bB.bare)=true)(p: ∀b o,S b o->b<w0.heap.size)(a: ∀x∈c.2,∀T j,x.2=some (j,T)-> ∀b,(τ j).ownBlock=some b->w0.heap.size<=b)(h:gl w 0 S' τ c v d):
  gl w 0 S (fun j=>τ (j-1000)) (c.1,c.2.map qb) v d:=by
 rw[bY]at k;unfold gl at*;split
 ·rename_i g;rw[if_pos g]at h;obtain⟨q,C,l,B,A,z,t⟩:=h;refine⟨q,C,l,B,by simpa using A,by simpa using z,fun i x u y f s r=> ?_⟩;simp only[ab,cU]at f;obtain⟨m,e,rfl⟩:=f;exact Cm (k _ (bU e)) p (a m (bU e)) (t i m u y e s r)
 ·rename_i g;rw[if_neg g]at h;obtain⟨x,f,l⟩:=h;refine⟨qb x,by simp[f],?_⟩;have n:x∈c.2:=by rw[f];simp
  exact Cm (k x n) p (a x n) l
def gU.aed{w:Tam}{base:Nat}{S:bz}{τ:Taj}{a:List (Bool×List bB)}{v:Tan}{d:D}(h:gU w base S τ a v d){j:Nat}(m:j∈cK a):
  ∃(t:Ty) (T:Tba) (d':D),tY (Bc j) w base S T t (τ j) d'∧ ∃c∈a,(t,some (j,T))∈c.2:=by
 obtain⟨c,k,m⟩:=cZ.1 m;obtain⟨⟨t,x⟩,e,f⟩:=bE.1 m;simp only[cU]at f;obtain⟨⟨p,T⟩,rfl,rfl⟩:=f
 have b: ∀v d,gl w base S τ c v d-> ∃d',tY (Bc p) w base S T t (τ p) d':=by
  intro v d h;unfold gl at h;split at h
  ·obtain⟨q,z,_,_,u,s,l⟩:=h;obtain⟨i,g⟩:=aw e;have n:i<c.2.length:=(aG.1 g).1;exact⟨_,(l i _ _ _ g (aQ (by omega)) (aQ (by omega))).2⟩
  ·obtain⟨y,r,l⟩:=h;rw[r]at e;simp only[aB]at e;subst e;exact⟨_,l.2⟩
 rcases h with⟨c',hc',h⟩|⟨_,q,z,_,_,u,s,l⟩
 ·rw[hc']at k;simp only[aB]at k;subst k;obtain⟨d',o⟩:=b _ _ h;exact⟨t,T,d',o,c,by rw[hc'];simp,e⟩
 ·obtain⟨i,g⟩:=aw k;have n:i<a.length:=(aG.1 g).1;obtain⟨d',o⟩:=b _ _ (l i _ _ _ g (aQ (by omega)) (aQ (by omega)));exact⟨t,T,d',o,c,k,e⟩
def oX(a:List (Bool×List bB))(τ:Taj):Taj:=fun j=>if j∈cK a then τ j else .nilIface
def gU.YY{w:Tam}{base:Nat}{S:bz}{τ:Taj}{res:List (Bool×List bB)}{v:Tan}{d:D}(h:gU w base S τ res v d):gU w base S (oX res τ) res v d:=by
 have b: ∀c∈res,∀v d,gl w base S τ c v d->gl w base S (oX res τ) c v d:=by
  intro c e v d h
  have cell: ∀x∈c.2,∀v d,jF w base S τ x v d->jF w base S (oX res τ) x v d:=by
   rintro⟨t,x⟩ a v d h;cases x with
   |none=>exact h
   |some y=>
    obtain⟨j,T⟩:=y;have s:j∈cK res:=cZ.2 ⟨c,e,bE.2 ⟨_,a,rfl⟩⟩;have A:oX res τ j=τ j:=if_pos s;show v=oX res τ j∧tY (Bc j) w base S T t (oX res τ j) d;rw[A];exact h
  unfold gl at*;split
  ·rename_i l;rw[if_pos l]at h;obtain⟨f,m,r,q,p,o,n⟩:=h;exact⟨f,m,r,q,p,o,fun i x u y a k g=>cell x (bU a) u y (n i x u y a k g)⟩
  ·rename_i l;rw[if_neg l]at h;obtain⟨x,a,z⟩:=h;exact⟨x,a,cell x (by rw[a];simp) _ _ z⟩
 rcases h with⟨c,e,h⟩|⟨h0,f,m,r,q,p,o,n⟩
 ·exact .inl ⟨c,e,b c (by rw[e];simp) _ _ h⟩
 ·exact .inr ⟨h0,f,m,r,q,p,o,fun i x u y a k g=>b x (bU a) u y (n i x u y a k g)⟩
def Ah{w:Tam}{S:bz}{X:Tai}{t:Ty}{v:Tan}{d:D}(b:t.bare=true)(a:Has t d)(h:ca w S v d):mq X v:=by
 cases t<;>simp[Ty.bare]at b
 ·obtain⟨n,rfl,_⟩:=dr.1 a;rw[h.cn];trivial
 ·obtain⟨n,rfl⟩:=dh.1 a;rw[h.gS];trivial
 ·obtain⟨n,rfl⟩:=mg.1 a;rw[h.Df];trivial
def oz{w:Tam}{S:bz}{X:Tai}{t:Ty}{l:Taf}{xs:Tac}(z:(t.cells.all Ty.bare)=true)(a:0<t.cells.length)(f: ∀x∈l,Has t x)(b:xs.length=l.length*t.cells.length)(y: ∀(i:Nat) d (j:Nat) v c,l[i]? =some d->d.cells[j]? =some c->xs[i*t.cells.length+j]? =some v->ca w S v c): ∀u∈xs,mq X u:=by
 intro u s;obtain⟨q,o⟩:=aw s;have k:q<xs.length:=(aG.1 o).1;have p:q/t.cells.length<l.length:=by rw[fq a,<-b];exact k
 have m:q % t.cells.length<t.cells.length:=Nat.mod_lt _ a;have r:l[q/t.cells.length]? =some (l[q/t.cells.length]'p):=aQ p;have g:t.cells[q % t.cells.length]? =some (t.cells[q % t.cells.length]'m):=aQ m;obtain⟨A,n,e⟩:=(cd (f _ (bU r))).2 _ _ g;have h:q/t.cells.length*t.cells.length+q % t.cells.length=q:=by rw[Nat.mul_comm];exact Nat.div_add_mod _ _
 exact Ah (bY.1 z _ (aF m)) e (y _ _ _ u A r n (by rw[h];exact o))
def OP{w w0:Tam}{S0:gJ}{S:bz}{T:Tba}{t:Ty}{v:Tan}{d:D}(G:(t.cells.all Ty.bare)=true)(m: ∀b,v.ownBlock=some b->ji w0 S0 b)(h:tY false w 0 S T t v d):yl (ji w0 S0) w S v:=by
 intro a n H J;obtain⟨p,j,y,l,rfl,e,A,E⟩:=h;obtain⟨I,f,_,q⟩:=bL.1 p;injection f with f;subst f;rcases e.2 with⟨hn,_⟩|⟨b,Gi,r,Pk,_⟩
 ·rw[hn];exact .inl rfl
 ·have c:v.ownBlock=some b:=by rw[Pk];rfl
  rw[Pk];by_cases F:l.length=0
  ·exact .inl F
  ·refine .inr ⟨b,0,rfl,fun i=>i=b,?_,rfl⟩;rintro i rfl;have k:0<y.length:=by rw[e.1];exact Nat.mul_pos (by omega) j
   have x: ∃r T,w.heap[i]? =some (.cells r T (0,0)):=by
    rcases e.2 with⟨hn,_⟩|⟨b2,afe,afb,hv2,_,Pr,_⟩
    ·rw[hn]at c;cases c
    ·rw[hv2]at c;simp only[Value.ownBlock,aa]at c;subst c;exact⟨_,_,Pr⟩
   refine⟨m i c,⟨0,(A i c 0).2 ⟨rfl,k⟩⟩,x,fun o u C B=> ?_⟩;have z:=((A i c o).1 C).2;have s:=e.cells (g:=i) c o y[o] (aQ z);rw[fJ,ao,B]at s;injection s with s;subst s;exact oz G j q e.1 E _ (aF z)
def gU.fresh{w w0:Tam}{S0:gJ}{S:bz}{τ:Taj}{e:List (Bool×List bB)}{v:Tan}{d:D}(h:gU w 0 S τ e v d)(s:Ss e=true)(r:Ga e=true)(f: ∀j b,j∈cK e->(τ j).ownBlock=some b->ji w0 S0 b)(g: ∀j,j∈cK e->Rb j=true->yl (ji w0 S0) w S (τ j)): ∀j,yl (ji w0 S0) w S (oX e τ j):=by
 intro j;unfold oX;split
 ·rename_i k;obtain⟨t,T,u,q,c,p,o⟩:=h.aed k;have m:=bY.1 (bY.1 s c p) _ o;have i:=bY.1 (bY.1 r c p) _ o;have l:Bc j=false:=by simpa using i
  rw[l]at q;have a:(t.cells.all Ty.bare||Rb j)=true:=m;rcases (dt _ _).mp a with a|a
  ·exact OP a (fun b n=>f j b k n) q
  ·exact g j k a
 ·exact yl.nilIface
def rU{C:Cx}{w:Tam}{G:Gh}{N:Tai}{c:SC}{v:Tan}(h:Dh c=true)(d: ∀g,yl N w G.S (G.τ g))(b:qG C w G c v):mq (ym N w G.S) v:=by
 cases c with
 |gz e t=>exact Ah h b.2.2 b.2.1
 |mN t=>simp only[qG]at b;subst b;exact .inl rfl
 |own g e t=>
  obtain⟨_,_,j,n,i⟩:=b;obtain⟨l,m,_⟩:=bL.1 n;rw[m]at j;obtain⟨a,f,k⟩:=j.pA;exact i▸d g a _ f (by rw[<-i];exact k)
 |_=>cases h
def HU{w:Tam}{S:bz}{N:Tai}{v:Tan}{l:Taf}{A:Tao Addr}{k c:Nat}{news:Tac}(g:mq (ym N w S) v)(h:ca w S v (.list l))(x: ∀d∈l,d.cells.length=k)(f:v= .slice A l.length c)(i:news.length=l.length*k)(m: ∀n,A=some n-> ∀(j:Nat) u,news[j]? =some u->w.cell? (n.add j)=some u): ∀u∈news,mq (ym N w S) u:=by
 intro u t;obtain⟨q,o⟩:=aw t;have e:q<news.length:=(aG.1 o).1;cases h with
 |nil n cap=>rw[i]at e;simp at e
 |list b off cap sz xs _ T7 tv ra hl hS hc hw hr=>
  have a:sz=k:=by
   cases F7:l with
   |nil=>exact absurd F7 tv
   |cons d r=>rw[<-hw 0 d (by rw[F7];rfl)];exact x d (by rw[F7];simp)
  subst a;injection f with z E C;rcases g with g|⟨F,B,s,y⟩
  ·exact absurd (an g) tv
  ·simp only[aa,Addr.mk.injEq]at s;obtain⟨rfl,rfl,_⟩:=s;have p:=m _ z.symm q u o;rw[fJ]at p;exact(ym.set N w S b y).2.2.2 _ u (hS q (by omega)) p
def Im{res:List (Bool×List bB)}{c:Bool×List bB}{x:bB}{j:Nat}{T:Tba}(b:c∈res)(a:x∈c.2)(h:x.2=some (j,T)):j∈cK res:=
 cZ.2 ⟨c,b,bE.2 ⟨x,a,by rw[h];rfl⟩⟩
def bj.adL{P:Tap}{f:Nat}{a:dH}{Pre:Taf->Prop}{Φ:Taf->D}(h:bj P f a Pre Φ)(l:a.ob=none)(B:yE a.res=true):bj P f (yU a) Pre Φ:=by
 refine⟨h.enter,fun _ w S N W C t q G r=> ?_,fun F E=> ?_,fun F E=> ?_⟩
 ·refine(h.calls l w S N W C t q G r).mono ?_;rintro e X ⟨v,S',τ,rfl,tW,E,h2,h3,h4,h5,h6,_⟩;unfold yE at B;rw[bY]at B;refine⟨v,S,fun j=>τ (j-1000),rfl,tW,fun _ _ h=>h,fun b o V=>av (C b o V) tW.size,fun _ _ h=>.inl h,?_,?_,?_,?_⟩
  ·have g: ∀c∈a.res,∀x∈c.2,∀T j,x.2=some (j,T)-> ∀b,(τ j).ownBlock=some b->w.heap.size<=b:=
    fun c p x A T j n b M=>h5 j b (Im p A n) M
   rcases h4 with⟨c,p,h4⟩|⟨tv,Pf,ds',h7,h8,h9,h10,h11⟩
   ·refine .inl ⟨(c.1,c.2.map qb),by simp[yU,vb,p],?_⟩;have s:c∈a.res:=by rw[p];simp
    exact Cl (B c s) C (g c s) h4
   ·refine .inr ⟨by simpa [yU,vb]using tv,Pf,ds',h7,h8,by simpa [yU,vb]using h9,by simpa [yU,vb]using h10,fun i x u y A U R=> ?_⟩;simp only[yU,vb,ab,cU]at A;obtain⟨c,p,rfl⟩:=A;have s:=bU p;exact Cl (B c s) C (g c s) (h11 i c u y p U R)
  ·intro j b n m;have d:j∈(cK a.res).map (· +1000):=by rw[<-mX];exact n
   obtain⟨k,K,rfl⟩:=bn.1 d;exact h5 k b K (by simpa using m)
  ·intro j k b n K m H;have d:j∈(cK a.res).map (· +1000):=by rw[<-mX];exact n
   have J:k∈(cK a.res).map (· +1000):=by rw[<-mX];exact K
   obtain⟨Q,L,rfl⟩:=bn.1 d;obtain⟨O,I,rfl⟩:=bn.1 J;rw[h6 Q O b L I (by simpa using m) (by simpa using H)]
  ·intro j n z;have d:j∈(cK a.res).map (· +1000):=by rw[<-mX];exact n
   obtain⟨k,_,rfl⟩:=bn.1 d;exfalso;unfold Rb at z;simp only[aS,bk]at z;omega
 ·exact absurd E (by show a.ob≠some F;rw[l];simp)
 ·exact absurd E (by show a.ob≠some F;rw[l];simp)
def Oi{P:Tap}{cs:mG}{Φ:Taa}{Pre:eN}{dst:Tak}{k:Nat}{a:dH}(h:By cs dst k=some a)(b: ∀k a,lk cs.l k=some a->bj P k a (Pre k) (Φ k)):bj P k a (Pre k) (Φ k):=by
 unfold By at h;split at h
 ·rename_i s c;split at h
  ·rename_i d;injection h with h;subst h;exact(b k s c).adL d.2.1 d.2.2
  ·injection h with h;subst h;exact b k _ c
 ·cases h
section
variable{P:Tap}{C:Cx}{w w0:Tam}{S0:gJ}{G:Gh}{σ:St}{a:Act}{o:Tbc}{pc:dB}{s:SV}{is:List Item}{Φ:Taa}{Pre:eN}{n p:Nat}
def KH{q:Tah}(D:eW w0 S0 C G σ w)(l:iO C w G σ.tm a)(d:aU C.ρ pc=true)(H:S0.prog=P)(h:CE P σ pc o=some ((s,is),q)):jC P C w G a o s:=by
 unfold CE at h;split at h
 ·rename_i T m x B;split at h
  ·rename_i id I K j i;split at h
   ·rename_i J M g;split at h
    ·rename_i e v N f;split at h
     ·rename_i F;obtain⟨rfl,rfl⟩:=F;injection h with h;simp only[ae]at h;obtain⟨⟨rfl,rfl⟩,rfl⟩:=h;obtain⟨_,_,b,_⟩:=D.box _ _ _ g;unfold jD at b;rw[f]at b;obtain⟨y,L,k⟩:=b;obtain⟨u,t,r⟩:=dR l d i;have A:=(cC l d j).2;rw[H]at k;have c:=k.lookup t r;refine⟨.bool ((den C.ρ e).A.any fun z=>z.W9 (den C.ρ I)),?_,?_⟩
      ·unfold execOp;simp only[B,A];rw[bg,c];rfl
      ·exact⟨by simp[E.lt,y,u],.bool _,dh.2 ⟨_,rfl⟩⟩
     ·cases h
    ·cases h
   ·cases h
  ·cases h
 ·cases h
end
section
variable{α β:Type}[DecidableEq α]
def dD(h:α->β):eT h [] =h:=by funext x;rfl
def sW(h:α->β)(k:α)(v:β)(l:List (α×β)):eT h ((k,v)::l)=fun x=>if x=k then v else eT h l x:=by
 funext x;simp only[eT,lk];split<;>rename_i b
 ·by_cases c:x=k
  ·rw[if_pos c]at b;injection b with b;rw[if_pos c,b]
  ·rw[if_neg c]at b;rw[if_neg c,b]
 ·by_cases c:x=k
  ·rw[if_pos c]at b;cases b
  ·rw[if_neg c]at b;rw[if_neg c,b]
def EC(h:Nat->β)(k:Nat)(v:β):eT h [(k,v)] =fD h k v:=by rw[sW];funext x;simp only[dD,fD]
def iK: ∀{l:List (α×β)} {x:α} {v:β},lk l x=some v->(x,v)∈l
 | [],_,_,h=>by cases h
 |(k,u)::r,x,v,h=>by
  simp only[lk]at h;split at h
  ·rename_i b;injection h with h;subst h;subst b;simp
  ·exact aH _ (iK h)
end
section
variable{P:Tap}{C:Cx}{w w0:Tam}{S0:gJ}{G:Gh}{σ:St}{a:Act}{o:Tbc}{pc:dB}{s:SV}{is:List Item}{Φ:Taa}{Pre:eN}{n p:Nat}
def eW.congr{σ':St}(h:eW w0 S0 C G σ w)(e:σ'.hp=σ.hp)(d:σ'.live=σ.live):eW w0 S0 C G σ' w:=by obtain⟨tm,i,c⟩:=σ;obtain⟨f,g,b⟩:=σ';simp only at e d;subst e;subst d;exact⟨h.below,h.jA,h.keep,h.pK,h.kT,h.dF,h.gX,h.mH,h.box,h.inj,h.own,h.gh,h.js,h.eK,h.fresh,h.wz⟩
def Ic{f:Tah}(i:eW w0 S0 C G σ w)(d:iO C w G σ.tm a)(c:aU C.ρ pc=true)(k:S0.prog=P)(h:qi P σ pc o=some ((s,is),f))(e: ∀j∈is,eG C Φ Pre j):jC P C w G a o s:=by
 unfold qi at h
 have b: ∀{x:Tao Pl},x.map (·,([] :Tah))=some ((s,is),f)->x=some (s,is):=by intro x g;simp only[cU,ae]at g;obtain⟨y,m,l,_⟩:=g;rw[m,l]
 split at h
 ·exact KI i d c h
 ·exact B3 d c (b h)
 ·exact B3 d c (b h)
 ·exact KG d c (b h)
 ·exact KJ d c (b h) e
 ·exact Jt d c (b h)
 ·exact Jt d c (b h)
 ·exact DG d c (b h)
 ·exact AU d c (b h)
 ·exact Ie d c (b h)
 ·exact AS d c (b h) e
 ·exact OA d c (b h) e
 ·exact Ib d c (b h) e
 ·exact Fy d c (b h) e
 ·exact Ig d c (b h)
 ·exact KH i d c k h
 ·exact zG d c (b h)
 ·exact zG d c (b h)
 ·exact zG d c (b h)
 ·cases h
def WM:Tan->Tao Bool
 |.bool b=>some b
 |_=>none
def fL{ops:Tad}(A:iO C w G σ.tm a)(h:guardOf ops σ o=some pc):Region.wanted o (yielded ops a.tmps)=aU C.ρ pc∧ ∀x∈pc,x.1.lt C.N=true:=by
 unfold guardOf at h;unfold Region.wanted;split at h
 ·rename_i m;injection h with h;subst h;rw[m];exact⟨rfl,by simp⟩
 ·rename_i j d m;rw[m];split at h
  ·rename_i t B;split at h
   ·rename_i c e l;injection h with h;subst h;obtain⟨v,E,D,F,i⟩:=A t c _ l
    have y:yielded ops a.tmps j=WM v:=by unfold yielded;rw[B];simp only[ch,E];cases v<;>rfl
    refine⟨?_,fun x k=> ?_⟩
    ·show(yielded ops a.tmps j==some d)=aU C.ρ ((e,d)::c);rw[y];have f:aU C.ρ ((e,d)::c)=(((den C.ρ e).Y==d)&&aU C.ρ c):=rfl;rw[f];by_cases g:aU C.ρ c=true
     ·rw[if_pos g]at i;obtain⟨_,u,r⟩:=i;obtain⟨b,q⟩:=dh.1 r;have z:=(q▸u).gS;rw[z,q,g,Bool.and_true];show(some b==some d)=(b==d);cases b<;>cases d<;>rfl
     ·rw[if_neg g]at i;have:aU C.ρ c=false:=by simpa using g
      rw[this,Bool.and_false,i];rfl
    ·rcases aD.1 k with rfl|k
     ·exact F
     ·exact D x k
   ·cases h
  ·cases h
def fx(P:Tap)(n:Nat)(w0:Tam)(S0:gJ)(C:Cx)(σ':St)(p:Nat)(ops:Tad)(a:Act)(w:Tam)(o:Tbc):Prop:=
 ∀(K:Act->Tae) (Q:HP),(∀c b d,gG n w0 S0 (C.add p) d σ' c b->K c b)->
  if Region.wanted o (yielded ops a.tmps) then o.wp P a w K Q else K (a.put o.dst undef) w
def Act.zB(a:Act)(d:Tak)(v:Tan):(a.put d v).tmps.size=a.tmps.size:=by cases d<;>simp[Act.put]
def Act.Jq(a:Act)(d:Tak)(v:Tan):(a.put d v).defers=a.defers:=by cases d<;>rfl
def gG.step{e:iH}{w':Tam}{h:Gh}{v:Tan}(f:gG n w0 S0 C G σ a w)(b:dL C w G (C.add p) w' h)(m:eW w0 S0 (C.add p) h (e.app σ) w')(k:e.dst=o.dst)(j:e.qW.2.lt C.N=true)(r: ∀x∈e.qW.1,x.1.lt C.N=true)(l:(∃d,o.dst=some d)->if aU C.ρ e.qW.1 then wu (C.add p) w' h e.qW.2 v else v=undef)(g: ∀d,o.dst=some d->d<n):gG n w0 S0 (C.add p) h (e.app σ) (a.put o.dst v) w':=by
 refine⟨m,?_,by rw[Act.zB];exact f.sz,by rw[Act.Jq];exact f.defers⟩;cases Xf:o.dst with
 |none=>
  have c:(e.app σ).tm=σ.tm:=by unfold iH.app;rw[k,Xf]
  rw[c];exact f.t.later b
 |some d=>
  have c:(e.app σ).tm=fD σ.tm d (some (e.qW.1,e.qW.2)):=by unfold iH.app;rw[k,Xf]
  rw[c];exact(f.t.later b).put (some d) v e.qW.1 e.qW.2 r j (l ⟨d,Xf⟩) (fun i q=>by rw[f.sz];exact g i (by rw[Xf];exact q))
def Bo{ops:Tad}{g:Tah}(f:gG n w0 S0 C G σ a w)(x:guardOf ops σ o=some pc)(h:qi P σ pc o=some ((s,is),g))(i:s.lt C.N=true)(j: ∀r∈is,eG C Φ Pre r)(c: ∀d,o.dst=some d->d<n)(y:S0.prog=P):
  fx P n w0 S0 C ((⟨o.dst,(pc,s),[],[],g,is⟩:iH).app σ) p ops a w o:=by
 intro K Q q;obtain⟨u,l⟩:=fL f.t x;have k:eW w0 S0 (C.add p) G ((⟨o.dst,(pc,s),[],[],g,is⟩:iH).app σ) w:=(f.m.nu p).congr (dD _) (dD _);have b:=dL.nu C w G p;rw[u];cases uG:aU C.ρ pc with
 |true=>
  obtain⟨v,A,z⟩:=Ic f.m f.t uG y h j;simp only[if_true];unfold Oper.wp;rw[A];exact q _ _ _ (f.step (o:=o) (e:=⟨o.dst,(pc,s),[],[],g,is⟩) b k rfl i l (by intro _;simp only[uG,if_true];exact z.later b) c)
 |false=>
  simp only[ai,if_false];exact q _ _ _ (f.step (o:=o) (e:=⟨o.dst,(pc,s),[],[],g,is⟩) b k rfl i l (by intro _;simp only[uG,ai,if_false]) c)
def Kv{l:List SC}(r:iO C w G σ.tm a)(q:aU C.ρ pc=true)(h:yO P σ pc o=some l)(m:l.all SC.scalar=true):
  ∃(vs:Tac) (T:Tba),(execOp a.eval o).run P w= .ok (.value (.pointer (some ⟨w.heap.size,0,none⟩))) (w.alloc (.cells vs.toArray T))∧jQ C w G l vs:=by
 unfold yO at h;split at h
 ·rename_i t g;split at h
  ·rename_i y z j b;refine⟨z.cells.toList,t,?_,ql h⟩;cases hi:P.info? t with
   |none=>simp[hi]at b
   |some it=>
    simp[hi]at b;unfold execOp;simp only[g,Instr.alloc];simp[zeroValue,typeInfo,hi,b,newVar,newRow]
  ·rename_i z j b;split at h
   ·rename_i f;injection h with h;subst h;refine⟨z.cells.toList,t,?_,by rw[f];rfl,?_⟩
    ·cases hi:P.info? t with
     |none=>simp[hi]at b
     |some it=>
      simp[hi]at b;unfold execOp;simp only[g,Instr.alloc];simp[zeroValue,typeInfo,hi,b,newVar,newRow]
    ·rw[f];intro i c v e d
     match i,e,d with
     |0,e,d=>
      simp at e d;subst e d;exact .inl rfl
     |k+1,e,d=>simp at e
   ·cases h
  ·cases h
 ·rename_i t x g;cases hg:fP P σ pc x t with
  |none=>simp[hg]at h
  |some sv=>
   simp only[hg,ch]at h;obtain⟨vs,d,u⟩:=qq h (cC r q hg) m;refine⟨vs,t,?_,u⟩;unfold execOp;simp only[g,Instr.box];simp[newVar,newRow,d]
 ·cases h
def Fo{ops:Tad}{l:List SC}(g:gG n w0 S0 C G σ a w)(j: ¬C.M p)(q:guardOf ops σ o=some [])(h:yO P σ [] o=some l)(b:l.all SC.scalar=true)(f: ∀d,o.dst=some d->d<n):
  fx P n w0 S0 C ((⟨o.dst,([],.one (.pJ p 0)),[(p,some (false,l))],[],[],[]⟩:iH).app σ) p ops a w o:=by
 intro K Q r;obtain⟨i,_⟩:=fL g.t q;rw[i];simp only[aU,bQ,if_true];obtain⟨x,T,v,u⟩:=Kv g.t (pc:=[]) rfl h b;unfold Oper.wp;rw[v];obtain⟨c,k⟩:=g.m.alloc j u b T
 exact r _ _ _ (g.step (o:=o) (e:=⟨o.dst,([],.one (.pJ p 0)),[(p,some (false,l))],[],[],[]⟩) c (k.congr (EC _ _ _) (dD _)) rfl rfl (by simp)
  (by intro _;simp only[aU,bQ,if_true];exact⟨.inr rfl,by simp[fD]⟩) f)
def Bn{ops:Tad}{id:Nat}{l:List SC}(r:gG n w0 S0 C G σ a w)(hg:guardOf ops σ o=some [])(h:vj P σ [] o=some (id,l))(j:l.all SC.scalar=true)(Z:o.dst=none):
  fx P n w0 S0 C ((⟨none,([],.agg []),[(id,some (false,l))],[],[id],[]⟩:iH).app σ) p ops a w o:=by
 intro K Q hK;obtain⟨hw,_⟩:=fL r.t hg;rw[hw];simp only[aU,bQ,if_true];unfold vj at h;split at h
 ·rename_i t x y ho;split at h
  ·rename_i g b R sz hx U W;split at h
   ·rename_i A L;split at h
    ·rename_i M;obtain⟨F,hl,I⟩:=M;obtain⟨rfl,rfl⟩:=iD h;obtain⟨_,a0,O,_⟩:=r.m.box _ _ _ L;obtain⟨S,T,Y,hr⟩:=O.cells F;have V:=(cC r.t (pc:=[]) rfl hx).2;cases Ua:fP P σ [] y t with
     |none=>simp[Ua]at U
     |some sv=>
      simp only[Ua,ch]at U
      have k:R.all SC.scalar=true:=by rw[List.all_append,List.all_append]at j;simp only[aS]at j;exact j.1.2
      obtain⟨z,hv,c⟩:=qq U (cC r.t (pc:=[]) rfl Ua) k;have H:=hr.NB c I
      have E: ∀u∈z,u.oneCell'=true:=by intro u hu;obtain⟨i,hi⟩:=aw hu;have X:i<z.length:=(aG.1 hi).1;have N:R[i]? =some (R[i]'(by rw[<-c.1];exact X)):=aQ _;exact(c.2 i _ u N hi).hZ (bY.1 k _ (bU N))
      have B:=run_storeCells_at P (G.β g) b T z 0 S.toArray w Y (by simp[c.1,hr.1];exact I) E;simp only[dM]at B
      have D:(execOp a.eval o).run P w= .ok .skip (w.setRow (G.β g) (S.take b++z++S.drop (b+z.length)).toArray):=by have h1:=gZ (P:=P) (w:=w) W;unfold execOp;simp only[ho,V,Instr.storeAt,Instr.sureAddr];simp[storeVar,h1,hv,c.1,hl,B]
      unfold Oper.wp;rw[D];obtain⟨J,hm⟩:=r.m.Vo L F H j;have q:=J.trans (dL.nu C _ G p)
      exact hK _ _ _ (r.step (o:=o) (e:=⟨none,([],.agg []),[(g,some (false,A.take b++R++A.drop (b+R.length)))],[],[g],[]⟩) q ((hm.nu p).congr (EC _ _ _) (dD _)) Z.symm rfl (by simp)
       (v:=undef) (by rintro⟨d,f⟩;rw[Z]at f;cases f) (by intro d f;rw[Z]at f;cases f))
    ·cases h
   ·cases h
  ·cases h
 ·cases h
end
section
variable{P:Tap}{C:Cx}{w w0:Tam}{S0:gJ}{G:Gh}{σ:St}{a:Act}{o:Tbc}{pc:dB}{s:SV}{is:List Item}{Φ:Taa}{Pre:eN}{n p:Nat}
def eW.JC(q:eW w0 S0 C G σ w): ∀(c:List (Nat×List SC)),(∀x∈c,∃k,σ.hp x.1=some (k,x.2)∧mapOf x.2=none)->
  ∃j,dL C w G C w j∧eW w0 S0 C j {σ with hp:=eT σ.hp (c.map fun x=>(x.1,some (true,x.2)))} w∧(∀x∈c,∀o,o<x.2.length->j.S (G.β x.1) o)∧j.β=G.β
 | [],_=>⟨G,dL.refl C w G,q.congr (dD _) rfl,by simp,rfl⟩
 |(id,cs)::c,h=>by
  obtain⟨F,z,y,B,r⟩:=eW.JC q c (fun x e=>h x (aH _ e));obtain⟨k,f,g⟩:=h (id,cs) (by simp);simp only at f g
  have b: ∃d,eT σ.hp (c.map fun x=>(x.1,some (true,x.2))) id=some (d,cs):=by
   unfold eT;cases hl:lk (c.map fun x=>(x.1,some (true,x.2))) id with
   |none=>exact⟨k,f⟩
   |some v=>
    have:=iK hl;simp only[bn,ae]at this;obtain⟨x,e,rfl,rfl⟩:=this;obtain⟨t,i,_⟩:=h x (aH _ e);rw[f]at i;injection i with i;simp only[ae]at i;exact⟨true,by rw[i.2]⟩
  obtain⟨d,b⟩:=b;obtain⟨E,l,u,A,D,_⟩:=y.freeze (id:=id) (ro:=d) (cs:=cs) b g;refine⟨E,z.trans l,?_,?_,by rw[D,r]⟩
  ·refine u.congr ?_ rfl;show eT σ.hp ((id,some (true,cs))::c.map fun x=>(x.1,some (true,x.2)))=fD (eT σ.hp (c.map fun x=>(x.1,some (true,x.2)))) id (some (true,cs));rw[sW];rfl
  ·intro x e o m;rcases aD.1 e with rfl|e
   ·rw[<-r];exact A o m
   ·exact l.S _ _ (B x e o m)
def Ab: ∀{l:List Tbb} {es:List (E×Ty)} {b:List (Nat×List SC)},rm P σ pc l=some (es,b)-> ∀x∈b,∃c,σ.hp x.1=some (c,x.2)∧mapOf x.2=none
 | [],es,b,h=>by simp only[rm,aa,ae]at h;obtain⟨rfl,rfl⟩:=h;simp
 |y::l,es,b,h=>by
  simp only[rm]at h;split at h
  ·rename_i id k j m f;split at h
   ·rename_i c r g;split at h
    ·rename_i i;obtain⟨rfl,rfl⟩:=iD h;intro x d;rcases aD.1 d with rfl|d
     ·exact⟨c,g,iZ i⟩
     ·exact Ab f x d
    ·cases h
   ·cases h
  ·rename_i e q k j m f;obtain⟨rfl,rfl⟩:=iD h;exact Ab f
  ·cases h
def Aa(B:eW w0 S0 C G σ w)(r:iO C w G σ.tm a)(f:aU C.ρ pc=true){L:Gh}(b:dL C w G C w L): ∀{l:List Tbb} {es:List (E×Ty)} {t:List (Nat×List SC)},rm P σ pc l=some (es,t)->
  (∀x∈t,∀o,o<x.2.length->L.S (G.β x.1) o)->es.length=l.length∧ ∀(i:Nat) x e,l[i]? =some x->es[i]? =some e->e.1.lt C.N=true∧ca w L.S (a.eval x) (den C.ρ e.1)∧Has e.2 (den C.ρ e.1)
 | [],es,t,h,_=>by simp only[rm,aa,ae]at h;obtain⟨rfl,rfl⟩:=h;exact⟨rfl,by intro i x e c;simp at c⟩
 |y::l,es,t,h,hS=>by
  simp only[rm]at h;split at h
  ·rename_i id K J I A;split at h
   ·rename_i ro cs F;split at h
    ·rename_i Q ts k;obtain⟨rfl,rfl⟩:=iD h;obtain⟨z,u⟩:=Aa B r f b A (fun x hx=>hS x (aH _ hx));refine⟨by simp[z],fun i x e c g=> ?_⟩;cases i with
     |succ i=>exact u i x e (by simpa using c) (by simpa using g)
     |zero=>
      simp at c g;subst c;subst g;have hv:=(cC r f I).2;obtain⟨_,_,q,_⟩:=B.box _ _ _ F;obtain⟨R,T,H,j⟩:=q.cells (iZ k);obtain⟨m1,M,m3,Z,Y⟩:=lZ k j;have O:den C.ρ (.un .pP (.V Q))= .ptr (Q.map (den C.ρ)):=by simp only[den,fX,U.den,D.A]
      refine⟨by simpa [E.lt]using m1,?_,?_⟩
      ·rw[O,hv];refine .ptr _ R _ (by simp[M]) (fun i c=>hS (id,cs) (by simp) i (by simp[M,j.1]at c;exact c)) (fun i v c=> ?_) (fun i v d c m=> ?_)
       ·rw[cell_of_row w _ i _ T _ H];simpa using c
       ·simp only[ab,cU]at m;obtain⟨e,g,rfl⟩:=m;exact(Z i v e c g).keep b.S b.cell
      ·rw[O];exact iF.2 ⟨_,rfl,Y⟩
    ·cases h
   ·cases h
  ·rename_i e fs K J I A;obtain⟨rfl,rfl⟩:=iD h;obtain⟨z,u⟩:=Aa B r f b A hS;refine⟨by simp[z],fun i x e' c g=> ?_⟩;cases i with
   |succ i=>exact u i x e' (by simpa using c) (by simpa using g)
   |zero=>
    simp at c g;subst c;subst g;obtain⟨X,W,V⟩:=cC r f I;exact⟨X,W.keep b.S b.cell,V⟩
  ·cases h
def HY{ops:Tad}{e:E}{t:Ty}{V:List (Nat×List SC)}(z:gG n w0 S0 C G σ a w)(hg:guardOf ops σ o=some pc)(h:LR P σ pc o=some (e,t,V))(B:e.lt C.N=true)(H: ∀d,o.dst=some d->d<n):
  fx P n w0 S0 C ((⟨o.dst,(pc,.one (.gz e t)),V.map fun x=>(x.1,some (true,x.2)),[],V.map (·.1),[]⟩:iH).app σ) p ops a w o:=by
 intro K Q hK;obtain⟨hw,hc⟩:=fL z.t hg;rw[hw];unfold LR at h;split at h
 ·rename_i f first b ho
  split at h
  ·rename_i k;split at h
   ·rename_i es y g;obtain⟨hE,hT,hF⟩:=LA h;subst hF;obtain⟨G',l,hm,J,a0⟩:=z.m.JC y (Ab g);have q:=l.trans (dL.nu C w G' p);have R:=(hm.nu p);have L:=fun(v:Tan) hv=>z.step (o:=o) (v:=v) (e:=(⟨o.dst,(pc,.one (.gz e t)),y.map fun x=>(x.1,some (true,x.2)),[],y.map (·.1),[]⟩:iH)) q (R.congr rfl (dD _)) rfl B hc hv H;cases uG:aU C.ρ pc with
    |false=>
     simp only[ai,if_false];exact hK _ _ _ (L _ (by intro _;simp only[uG,ai,if_false]))
    |true=>
     simp only[if_true];obtain⟨X,W⟩:=Aa z.m z.t uG l g J;have T:first= #[] :=by apply cW;simpa using k
     have A:(execOp a.eval o).run P w= .ok (.value (.func (.func f) #[] (b.toList.map a.eval).toArray)) w:=by
      have O:(b.toList.map a.eval).toArray=b.map a.eval:=by apply cW;simp
      unfold execOp;simp only[ho,Instr.makeFunc,T,O];simp
     unfold Oper.wp;rw[A];refine hK _ _ _ (L _ ?_);intro _;simp only[uG,if_true];have hd:den C.ρ e= .fn f ((es.map (·.1)).map (den C.ρ)):=by rw[<-hE];simp only[den,fX,U.den,D.A]
     refine⟨B,?_,?_⟩
     ·show ca w G'.S _ (den C.ρ _);rw[hd];refine .fn f _ _ (by simp[X]) fun i v d Z I=> ?_;simp only[ab,cU]at Z I;obtain⟨x,M,rfl⟩:=Z;obtain⟨e1,⟨e2,c,rfl⟩,rfl⟩:=I;exact(W i x e2 M c).2.1
     ·show Has _ (den C.ρ _);rw[hd,<-hT];refine kH.2 ⟨_,rfl,iQ (by simp) fun j u x Y M=> ?_⟩;simp only[ab,cU]at Y M;obtain⟨e1,r,rfl⟩:=Y;obtain⟨_,⟨e2,c,rfl⟩,rfl⟩:=M;rw[r]at c;injection c with c;subst c;have F:j<b.toList.length:=by rw[<-X];exact(aG.1 r).1
      exact(W j _ e1 (aQ F) r).2.2
   ·cases h
  ·cases h
 ·cases h
def Fi(f:iO C w G σ.tm a)(b:aU C.ρ pc=true): ∀{l:List Tbb} {ts:List Tba} {es:List (E×Ty)},xq P σ pc l ts=some es->
  es.length=l.length∧ ∀(i:Nat) x e,l[i]? =some x->es[i]? =some e->ca w G.S (a.eval x) (den C.ρ e.1)∧Has e.2 (den C.ρ e.1)
 | [],[],es,h=>by simp only[xq,aa]at h;subst h;exact⟨rfl,by intro i x e c;simp at c⟩
 |y::l,t::ts,es,h=>by
  simp only[xq]at h;split at h
  ·rename_i e q m k;injection h with h;subst h;obtain⟨j,g⟩:=Fi f b k;refine⟨by simp[j],fun i x r c d=> ?_⟩;cases i with
   |zero=>simp at c d;subst c;subst d;exact(dR f b m).2
   |succ i=>exact g i x r (by simpa using c) (by simpa using d)
  ·cases h
 | [],_::_,_,h=>by cases h
 |_::_,[],_,h=>by cases h
def tY.ok{base:Nat}{S:bz}{T:Tba}{t:Ty}{v:Tan}{d:D}{g:Tag}(h:tY g.ex w base S T t v d){e:E}(j:C.M g.1)(c:e.lt C.N=true)(f:den C.ρ e=d)(i:G.S=S)(b:G.τ g=v):
  jc C w base G g e T t:=by obtain⟨l,m,k⟩:=h;subst f;subst i;subst b;exact⟨j,c,l,k⟩
def oR(own:Bool)(p:Nat)(e:E): ∀(l:List bB) (j i:Nat),(lj own p e j l)[i]? =(l[i]?).map fun c=>nH own p (.un (.cell (j+i)) e) c
 | [],j,i=>by simp[lj]
 |c::l,j,0=>by simp[lj]
 |c::l,j,i+1=>by simp only[lj,dm,oR own p e l (j+1) i];congr 2;funext t;congr 3;omega
def rV(own:Bool)(p:Nat)(e:E): ∀(l:List bB) (j:Nat),(lj own p e j l).length=l.length
 | [],_=>rfl
 |_::l,j=>by simp[lj,rV own p e l]
def xM(own:Bool)(p:Nat)(e:E): ∀(l:List (Bool×List bB)) (j i:Nat),(mS own p e j l)[i]? =(l[i]?).map fun c=>zk own p (.un (.cell (j+i)) e) c
 | [],j,i=>by simp[mS]
 |c::l,j,0=>by simp[mS]
 |c::l,j,i+1=>by simp only[mS,dm,xM own p e l (j+1) i];congr 2;funext t;congr 3;omega
def xL(own:Bool)(p:Nat)(e:E): ∀(l:List (Bool×List bB)) (j:Nat),(mS own p e j l).length=l.length
 | [],_=>rfl
 |_::l,j=>by simp[mS,xL own p e l]
def tp{base:Nat}{τ:Taj}{c:bB}{v:Tan}{d:D}{e:E}(h:jF w base G.S τ c v d)(x:C.M p)(r:e.lt C.N=true)(u:den C.ρ e=d)(i: ∀j,G.τ (p,j)=τ j)(own:Bool)(y:own=true∨ ∀j T,c.2=some (j,T)->Bc j=false:=by exact .inl rfl):
  qG C w G (nH own p e c) v:=by
 obtain⟨t,_|⟨j,T⟩⟩:=c
 ·obtain⟨A,q⟩:=h;exact⟨r,u▸A,u▸q⟩
 ·obtain⟨rfl,q⟩:=h;have k:=tY.ok (C:=C) (G:=G) (g:=(p,j)) q x r u rfl (i j);cases J2:Bc j with
  |true=>
   have z:own=true:=y.elim id fun h=>by rw[h j T rfl]at J2;cases J2
   subst z;simp only[nH,if_true,J2];refine⟨x,(i j).symm,?_⟩;obtain⟨B,l,_,m,_⟩:=q.own;rcases m.2 with⟨hv,_⟩|⟨b,cap,cur,hv,_⟩
   ·exact⟨_,_,_,hv⟩
   ·exact⟨_,_,_,hv⟩
  |false=>
   have f:=k.rep q.sz J2;rw[i j]at f;cases own with
   |true=>simp only[nH,if_true,J2,ai,if_false];exact⟨x,r,f,k.has,(i j).symm⟩
   |false=>exact⟨r,f,k.has⟩
def Ck{base:Nat}{τ:Taj}{c:Bool×List bB}{v:Tan}{d:D}{e:E}(h:gl w base G.S τ c v d)(H:C.M p)(B:e.lt C.N=true)(F:den C.ρ e=d)(g: ∀j,G.τ (p,j)=τ j)(own:Bool)(b:own=true∨ ∀y∈c.2,∀j T,y.2=some (j,T)->Bc j=false:=by exact .inl rfl):
  lG C w G (zk own p e c) v:=by
 have k:=b;clear b;unfold gl at h;unfold lG zk;cases hc:c.1 with
 |true=>
  simp only[hc,if_true]at h⊢;obtain⟨I,A,rfl,rfl,t,r,f⟩:=h;refine⟨I,rfl,by rw[rV,t],fun i x u b J=> ?_⟩;rw[oR]at b;simp only[cU]at b;obtain⟨y,m,rfl⟩:=b;have z:i<A.length:=by rw[r];exact(aG.1 m).1
  have l:A[i]? =some A[i] :=aQ z;refine tp (f i y u _ m J l) H (by simpa [E.lt]using B) ?_ g own (k.imp id fun h=>h y (bU m));simp only[den,U.den,F,D.A,ao];exact gu l
 |false=>
  simp only[hc,ai,if_false]at h⊢;obtain⟨x,b,q⟩:=h;exact⟨nH own p e x,by rw[b];rfl,tp q H B F g own (k.imp id fun h=>h x (by rw[b];simp))⟩
def BW{base:Nat}{τ:Taj}{b:List (Bool×List bB)}{v:Tan}{e:E}(h:gU w base G.S τ b v (den C.ρ e))(A:C.M p)(z:e.lt C.N=true)(f: ∀j,G.τ (p,j)=τ j)(own:Bool)(d:own=true∨Ga b=true:=by exact .inl rfl):
  wu C w G (ud own p e b) v:=by
 have k:own=true∨ ∀c∈b,∀y∈c.2,∀j T,y.2=some (j,T)->Bc j=false:=d.imp id fun h c I y g j T H=>by have:=bY.1 (bY.1 h c I) y g;rw[H]at this;simpa using this
 clear d;rcases h with⟨c,rfl,h⟩|⟨tv,vs,ds,rfl,hd,hl1,hl2,tJ⟩
 ·have:=Ck h A z rfl f own (k.imp id fun h=>h c (by simp));unfold lG at this;simp only[ud];split
  ·rename_i l q;rw[q]at this;simpa [wu]using this
  ·rename_i l q;rw[q]at this;simp only[ai,if_false]at this;obtain⟨J,rfl,t⟩:=this;exact t
 ·have F:ud own p e b= .eS (mS own p e 0 b):=by
   match b,tv with
   | [],_=>rfl
   | [c],tv=>exact absurd rfl tv
   |_::_::_,_=>rfl
  rw[F];refine⟨vs,rfl,by rw[xL,hl1],fun i x u d B=> ?_⟩;rw[xM]at d;simp only[cU]at d;obtain⟨y,g,rfl⟩:=d;have r:i<ds.length:=by rw[hl2];exact(aG.1 g).1
  have m:ds[i]? =some ds[i] :=aQ r;refine Ck (tJ i y u _ g B m) A (by simpa [E.lt]using z) ?_ f own (k.imp id fun h=>h y (bU g));simp only[den,U.den,hd,D.A,ao];exact gu m
def wK(C:Cx)(w:Tam)(base:Nat)(G:Gh)(p:Nat)(idx:Tah)(x:Tag×Tao (E×Tba×Ty)):Prop:=
 x.1.1=p∧x.1.2∈idx∧ ∃e T t,x.2=some (e,T,t)∧jc C w base G x.1 e T t
def rW{base:Nat}{τ:Taj}{c:bB}{v:Tan}{d:D}{e:E}{idx:Tah}(h:jF w base G.S τ c v d)(m:C.M p)(k:e.lt C.N=true)(l:den C.ρ e=d)(i: ∀j,G.τ (p,j)=τ j)(b: ∀j T,c.2=some (j,T)->j∈idx): ∀x∈kx p e c,wK C w base G p idx x:=by
 obtain⟨t,_|⟨j,T⟩⟩:=c
 ·intro x f;simp[kx]at f
 ·intro x f;simp only[kx,aB]at f;subst f;obtain⟨rfl,q⟩:=h;exact⟨rfl,b j T rfl,e,T,t,rfl,tY.ok (g:=(p,j)) q m k l rfl (i j)⟩
def pj(p:Nat)(e:E): ∀(l:List bB) (j:Nat) (x),x∈lT p e j l-> ∃(i:Nat) (c:bB),l[i]? =some c∧x∈kx p (.un (.cell (j+i)) e) c
 | [],j,x,h=>by simp[lT]at h
 |c::l,j,x,h=>by
  simp only[lT,aI]at h;rcases h with h|h
  ·exact⟨0,c,rfl,h⟩
  ·obtain⟨i,f,d,b⟩:=pj p e l (j+1) x h;exact⟨i+1,f,by simpa using d,by rw[show j+(i+1)=j+1+i by omega];exact b⟩
def tO(p:Nat)(e:E): ∀(l:List (Bool×List bB)) (j:Nat) (x),x∈nj p e j l-> ∃(i:Nat) (c:Bool×List bB),l[i]? =some c∧x∈rN p (.un (.cell (j+i)) e) c
 | [],j,x,h=>by simp[nj]at h
 |c::l,j,x,h=>by
  simp only[nj,aI]at h;rcases h with h|h
  ·exact⟨0,c,rfl,h⟩
  ·obtain⟨i,f,d,b⟩:=tO p e l (j+1) x h;exact⟨i+1,f,by simpa using d,by rw[show j+(i+1)=j+1+i by omega];exact b⟩
def xN{base:Nat}{τ:Taj}{c:Bool×List bB}{v:Tan}{d:D}{e:E}{idx:Tah}(h:gl w base G.S τ c v d)(B:C.M p)(z:e.lt C.N=true)(A:den C.ρ e=d)(l: ∀j,G.τ (p,j)=τ j)(f: ∀y∈c.2,∀j T,y.2=some (j,T)->j∈idx): ∀x∈rN p e c,wK C w base G p idx x:=by
 intro x b;unfold gl at h;unfold rN at b;cases hc:c.1 with
 |true=>
  simp only[hc,if_true]at h b;obtain⟨u,F,rfl,rfl,I,H,g⟩:=h;obtain⟨i,y,k,b⟩:=pj p e _ _ _ b;have J:i<c.2.length:=(aG.1 k).1;have m:F[i]? =some (F[i]'(by omega)):=aQ _;have r:u[i]? =some (u[i]'(by omega)):=aQ _;refine rW (g i y _ _ k r m) B (by simpa [E.lt]using z) ?_ l (fun j T t=>f y (bU k) j T t) x b;simp only[den,U.den,A,D.A,ao];exact gu m
 |false=>
  simp only[hc,ai,if_false]at h b;obtain⟨y,k,q⟩:=h;rw[k]at b;simp only[List.flatMap_cons,List.flatMap_nil,cN]at b;exact rW q B z A l (fun j T t=>f y (by rw[k];simp) j T t) x b
def xy{base:Nat}{τ:Taj}{res:List (Bool×List bB)}{v:Tan}{e:E}(h:gU w base G.S τ res v (den C.ρ e))(q:C.M p)(m:e.lt C.N=true)(d: ∀j,G.τ (p,j)=τ j):
  ∀x∈nI p e res,wK C w base G p (cK res) x:=by
 have b: ∀c∈res,∀y∈c.2,∀j T,y.2=some (j,T)->j∈cK res:=by intro c z y f j T t;unfold cK;rw[cZ];exact⟨c,z,bE.2 ⟨y,f,by rw[t];rfl⟩⟩
 rcases h with⟨c,rfl,h⟩|⟨tv,vs,ds,rfl,hd,hl1,hl2,tJ⟩
 ·exact xN h q m rfl d (b c (by simp))
 ·have r:nI p e res=nj p e 0 res:=by
   match res,tv with
   | [],_=>rfl
   | [c],tv=>exact absurd rfl tv
   |_::_::_,_=>rfl
  rw[r];intro x k;obtain⟨i,y,f,k⟩:=tO p _ _ _ _ k;have u:i<res.length:=(aG.1 f).1;have g:ds[i]? =some (ds[i]'(by omega)):=aQ _;have l:vs[i]? =some (vs[i]'(by omega)):=aQ _;refine xN (tJ i y _ _ f l g) q (by simpa [E.lt]using m) ?_ d (b y (bU f)) x k;simp only[den,U.den,hd,D.A,ao];exact gu g
def vA{base:Nat}{τ:Taj}{b:List (Bool×List bB)}{v:Tan}(h:gU w base G.S τ b v (C.ρ p))(g:C.M p)(f:p<C.N)(c: ∀j,G.τ (p,j)=τ j)(own:Bool)(d:own=true∨Ga b=true:=by exact .inl rfl):
  wu C w G (lC own p b) v:=BW (e:=.var p) h g (by simpa [E.lt]using f) c own d
def um{base:Nat}{τ:Taj}{b:List (Bool×List bB)}{v:Tan}(h:gU w base G.S τ b v (C.ρ p))(f:C.M p)(d:p<C.N)(c: ∀j,G.τ (p,j)=τ j):
  ∀x∈gM p b,wK C w base G p (cK b) x:=xy (e:=.var p) h f (by simpa [E.lt]using d) c
end
def qA: ∀{l:List (Tao Tag)},kL l=true-> ∀(i j:Nat) g,l[i]? =some (some g)->l[j]? =some (some g)->i=j
 | [],_,i,j,g,h,_=>by simp at h
 |x::r,hn,i,j,g,hi,hj=>by
  have c:kL r=true:=by cases x<;>simp[kL]at hn<;>first|exact hn|exact hn.2
  have b:x=some g->some g∉r:=by rintro rfl;simp only[kL,aS,ff]at hn;simpa using hn.1
  cases i with
  |zero=>
   cases j with
   |zero=>rfl
   |succ j=>
    simp at hi hj;exact absurd (bU hj) (b hi)
  |succ i=>
   cases j with
   |zero=>
    simp at hi hj;exact absurd (bU hi) (b hj)
   |succ j=>rw[qA c i j g (by simpa using hi) (by simpa using hj)]
section
variable{P:Tap}{C:Cx}{w w0:Tam}{S0:gJ}{G:Gh}{σ:St}{a:Act}{n:Nat}
def pq(G:Gh)(l:kS):Taj:=fun j=>match lk l j with
 |some (some g)=>G.τ g
 |_=>.slice none 0 0
def lQ{c β:Type}[DecidableEq c] : ∀{l:List (c×β)} {k:c} {v:β},(l.map (·.1)).Nodup->(k,v)∈l->lk l k=some v
 | [],_,_,_,h=>by simp at h
 |(a,b)::l,k,v,hn,h=>by
  simp only[cE,List.nodup_cons]at hn;simp only[lk];rcases aD.1 h with h|h
  ·simp only[ae]at h;obtain⟨rfl,rfl⟩:=h;simp
  ·have:k≠a:=fun e=>hn.1 (bn.2 ⟨(k,v),h,e⟩);rw[if_neg this];exact lQ hn.2 h
def H5{r:bB}{c:SC}{e:E}{l L:kS}{v:Tan}(H:eW w0 S0 C G σ w)(h:jt σ r c=some (e,l))(q:qG C w G c v)(F: ∀x∈l,x∈L)(B:(L.map (·.1)).Nodup):
  jF w 0 G.S (pq G L) r v (den C.ρ e):=by
 obtain⟨t,_|⟨j,T⟩⟩:=r
 ·simp only[jt]at h;split at h
  ·rename_i O A I;split at h
   ·rename_i m;obtain⟨rfl,rfl⟩:=iD h;subst m;exact(kM I q).2
   ·cases h
  ·split at h
   ·split at h
    ·rename_i m;obtain⟨rfl,rfl⟩:=iD h;subst m;obtain⟨_,rfl⟩:=q;exact⟨.ptr _ [] [] rfl (fun i u=>by simp at u) (fun i v u=>by simp at u) (fun i v d u=>by simp at u),⟨[],rfl,rfl⟩⟩
    ·cases h
   ·cases h
 ·simp only[jt]at h;split at h
  ·rename_i A;split at h
   ·rename_i y;obtain⟨rfl,k⟩:=y;obtain⟨rfl,rfl⟩:=iD h;have f:pq G L j= .slice none 0 0:=by unfold pq;rw[lQ B (F (j,none) (by simp))]
    refine⟨by rw[f];exact q,⟨bL.2 ⟨[],rfl,gw _,by simp⟩,k,[],[],rfl,?_,?_,by simp⟩⟩
    ·rw[f];exact fb w _ _ _
    ·rw[f];intro b J;cases J
   ·cases h
  ·rename_i g N A;split at h
   ·rename_i K M z D;split at h
    ·rename_i y;obtain⟨rfl,rfl,rfl,k,p,o⟩:=y;obtain⟨rfl,rfl⟩:=iD h;have f:pq G L j=G.τ g:=by unfold pq;rw[lQ B (F (j,some g) (by simp))]
     have s:=H.own _ _ _ _ D;refine⟨by rw[f];exact q.2.2.2.2,⟨s.has,k,?_⟩⟩;rw[f];have e:Bc j=g.ex:=by rw[o,p]
     rw[e];exact s.own
    ·cases h
   ·cases h
  ·rename_i g A;split at h
   ·rename_i K M z D;split at h
    ·rename_i y;obtain⟨rfl,rfl,rfl,k,p,o⟩:=y;obtain⟨rfl,rfl⟩:=iD h;have f:pq G L j=G.τ g:=by unfold pq;rw[lQ B (F (j,some g) (by simp))]
     have s:=H.own _ _ _ _ D;refine⟨by rw[f];exact q.2.1,⟨s.has,k,?_⟩⟩;rw[f];have e:Bc j=g.ex:=by rw[o,p]
     rw[e];exact s.own
    ·cases h
   ·cases h
  ·cases h
def jL{L:kS}(o:eW w0 S0 C G σ w)(m:(L.map (·.1)).Nodup): ∀{d:List bB} {cs:List SC} {es:List E} {l:kS} {vs:Tac},gv σ d cs=some (es,l)->jQ C w G cs vs->(∀x∈l,x∈L)->
  es.length=d.length∧vs.length=d.length∧ ∀(i:Nat) r v e,d[i]? =some r->vs[i]? =some v->es[i]? =some e->jF w 0 G.S (pq G L) r v (den C.ρ e)
 | [],[],es,l,vs,h,hr,_=>by simp only[gv,aa,ae]at h;obtain⟨rfl,rfl⟩:=h;exact⟨rfl,by have:=hr.1;simpa using this,by intro i r v e b;simp at b⟩
 | [],_::_,_,_,_,h,_,_=>by cases h
 |_::_,[],_,_,_,h,_,_=>by cases h
 |r::d,c::cs,es,l,vs,h,hr,hL=>by
  simp only[gv]at h;split at h
  ·rename_i e F A D z y;obtain⟨rfl,rfl⟩:=iD h;cases vs with
   |nil=>have:=hr.1;simp at this
   |cons v vs=>
    have j:jQ C w G cs vs:=⟨by have:=hr.1;simpa using this,fun i c v b f=>hr.2 (i+1) c v (by simpa using b) (by simpa using f)⟩;obtain⟨u,t,s⟩:=jL o m y j (fun x g=>hL x (by simp[g]));refine⟨by simp[u],by simp[t],fun i q p B b f k=> ?_⟩;cases i with
    |zero=>
     simp at b f k;subst b;subst f;subst k;exact H5 o z (hr.2 0 c _ rfl rfl) (fun x g=>hL x (by simp[g])) m
    |succ i=>exact s i q p B (by simpa using b) (by simpa using f) (by simpa using k)
  ·cases h
def Fx{r:bB}{c:SC}{e:E}{l:kS}(h:jt σ r c=some (e,l)):(r.2.map (·.1)).toList=l.map (·.1):=by
 obtain⟨t,_|⟨j,T⟩⟩:=r
 ·simp only[jt]at h;split at h
  ·split at h
   ·injection h with h;simp only[ae]at h;rw[<-h.2];rfl
   ·cases h
  ·split at h
   ·split at h
    ·injection h with h;simp only[ae]at h;rw[<-h.2];rfl
    ·cases h
   ·cases h
 ·simp only[jt]at h;split at h
  ·split at h
   ·injection h with h;simp only[ae]at h;rw[<-h.2];rfl
   ·cases h
  ·split at h
   ·split at h
    ·injection h with h;simp only[ae]at h;rw[<-h.2];rfl
    ·cases h
   ·cases h
  ·split at h
   ·split at h
    ·injection h with h;simp only[ae]at h;rw[<-h.2];rfl
    ·cases h
   ·cases h
  ·cases h
def mW: ∀{b:List bB} {cs:List SC} {es:List E} {l:kS},gv σ b cs=some (es,l)->(b.filterMap fun x=>x.2.map (·.1))=l.map (·.1)
 | [],cs,es,l,h=>by
  cases cs<;>simp[gv]at h
  obtain⟨rfl,rfl⟩:=h;rfl
 |_::_,[],_,_,h=>by cases h
 |r::b,c::cs,es,l,h=>by
  simp only[gv]at h;split at h
  ·rename_i e d;injection h with h;simp only[ae]at h;rw[<-h.2,ck,<-Fx e,<-mW d];cases hr:r.2 with
   |none=>simp[hr]
   |some x=>simp[hr]
  ·cases h
def Dz{r:bB}{c:SC}{e:E}{l:kS}{j:Nat}{g:Tag}(h:jt σ r c=some (e,l))(b:(j,some g)∈l): ∃z,σ.live g=some z:=by
 obtain⟨t,_|⟨f,T⟩⟩:=r
 ·simp only[jt]at h;split at h
  ·split at h
   ·injection h with h;simp only[ae]at h;rw[<-h.2]at b;simp at b
   ·cases h
  ·split at h
   ·split at h
    ·injection h with h;simp only[ae]at h;rw[<-h.2]at b;simp at b
    ·cases h
   ·cases h
 ·simp only[jt]at h;split at h
  ·split at h
   ·injection h with h;simp only[ae]at h;rw[<-h.2]at b;simp at b
   ·cases h
  ·split at h
   ·rename_i d;split at h
    ·injection h with h;simp only[ae]at h;rw[<-h.2]at b;simp at b;obtain⟨rfl,rfl⟩:=b;exact⟨_,d⟩
    ·cases h
   ·cases h
  ·split at h
   ·rename_i d;split at h
    ·injection h with h;simp only[ae]at h;rw[<-h.2]at b;simp at b;obtain⟨rfl,rfl⟩:=b;exact⟨_,d⟩
    ·cases h
   ·cases h
  ·cases h
def mj: ∀{d:List bB} {cs:List SC} {es:List E} {l:kS} {j:Nat} {g:Tag},gv σ d cs=some (es,l)->(j,some g)∈l-> ∃z,σ.live g=some z
 | [],[],es,l,j,g,h,b=>by simp[gv]at h;obtain⟨rfl,rfl⟩:=h;simp at b
 | [],_::_,_,_,_,_,h,_=>by cases h
 |_::_,[],_,_,_,_,h,_=>by cases h
 |r::d,c::cs,es,l,j,g,h,b=>by
  simp only[gv]at h;split at h
  ·rename_i f e;injection h with h;simp only[ae]at h;rw[<-h.2]at b;rcases aI.1 b with b|b
   ·exact Dz f b
   ·exact mj e b
  ·cases h
def wU{l:kS}(A:eW w0 S0 C G σ w)(h:oY l=true)(d: ∀j g,(j,some g)∈l-> ∃z,σ.live g=some z){j k b:Nat}(D:j∈l.map (·.1))(B:k∈l.map (·.1))(f:(pq G l j).ownBlock=some b)(e:(pq G l k).ownBlock=some b):j=k:=by
 unfold oY at h;simp only[aS,bk]at h;obtain⟨s,i⟩:=h;obtain⟨x,r,rfl⟩:=bn.1 D;obtain⟨y,q,rfl⟩:=bn.1 B;have ex:lk l x.1=some x.2:=lQ i r;have H:lk l y.1=some y.2:=lQ i q;unfold pq at f e;rw[ex]at f;rw[H]at e;obtain⟨L,_|t⟩:=x
 ·cases f
 ·obtain⟨K,_|F⟩:=y
  ·cases e
  ·simp only at f e;obtain⟨J,p⟩:=d _ _ r;obtain⟨I,o⟩:=d _ _ q;have E:=A.js t F _ _ b p o f e;subst E;obtain⟨v,m⟩:=aw r;obtain⟨u,c⟩:=aw q;have:=qA s v u t (by rw[ab,m];rfl) (by rw[ab,c];rfl);subst this;rw[m]at c;injection c with c;simp only[ae]at c;exact c.1
def vi{l:kS}(c:oY l=true){j b:Nat}(f:j∈l.map (·.1))(d:(pq G l j).ownBlock=some b): ∃g,(j,some g)∈l∧(G.τ g).ownBlock=some b:=by
 unfold oY at c;simp only[aS,bk]at c;obtain⟨x,e,rfl⟩:=bn.1 f;have ex:lk l x.1=some x.2:=lQ c.2 e;unfold pq at d;rw[ex]at d;obtain⟨i,_|h⟩:=x
 ·cases d
 ·exact⟨h,e,d⟩
end
section
variable{P:Tap}{C:Cx}{w w0:Tam}{S0:gJ}{G:Gh}{σ:St}{a:Act}{n p:Nat}
def eW.PV(h:eW w0 S0 C G σ w)(hp: ¬C.M p){w':Tam}{S':bz}{τ':Taj}{βn:Nat}{ids:Tah}{kill:List Tag}{mu:Tai}(v:gp mu w w')(a2: ∀b,mu b->(∃id∈ids,b=G.β id)∨ ∃g∈kill,(G.τ g).ownBlock=some b)(f: ∀id∈ids,∃Z,σ.hp id=some (false,Z))(J: ∀g∈kill,∃x,σ.live g=some x)(hS: ∀b o,G.S b o->S' b o)(b9: ∀b o,S' b o->b<w'.heap.size)(U: ∀b o,S' b o->G.S b o∨w.heap.size<=b∨mu b)(a3: ∀b o,G.S b o->w'.cell? ⟨b,o,none⟩=w.cell? ⟨b,o,none⟩)(B:Nat->Tao (Bool×List SC))(live':Tag->Tao (E×Tba×Ty))(G':Gh)(hG:G'={S:=S',β:=fD G.β p βn,τ:=fun g=>if g.1=p then τ' g.2 else G.τ g})(a4: ∀id x,B id=some x->(id∉ids∧id≠p∧σ.hp id=some x)∨(x.1=false∧(id∈ids∨(id=p∧(w.heap.size<=βn∨ ∃d∈ids,βn=G.β d∧B d=none)))∧x.2.all SC.scalar=true∧
   jD S0.prog (C.add p) w' G' (G'.β id) x.2∧ ∀o,¬S' (G'.β id) o))(s: ∀g x,live' g=some x->(g.1≠p∧g∉kill∧σ.live g=some x)∨(g.1=p∧jc (C.add p) w' 0 G' g x.1 x.2.1 x.2.2∧ ∀b,(τ' g.2).ownBlock=some b->w.heap.size<=b∨mu b))(a9: ∀j k x y b,live' (p,j)=some x->live' (p,k)=some y->(τ' j).ownBlock=some b->(τ' k).ownBlock=some b->j=k)(b6: ∀j id x y b,live' (p,j)=some x->B id=some y->(id∈ids∨id=p)->(τ' j).ownBlock=some b->b≠G'.β id)(b8: ¬S0.fr)(b7: ¬S0.wz):
  dL C w G (C.add p) w' G'∧eW w0 S0 (C.add p) G' {σ with hp:=B,live:=live'} w':=by
 subst hG;have W: ∀id∈ids,C.M id:=fun id Y=>by obtain⟨Z,A⟩:=f id Y;exact h.mH _ _ A
 have O: ∀id,C.M id->fD G.β p βn id=G.β id:=fun id Y=>fo _ _ (fun e=>hp (e▸Y));have b0: ∀g:Tag,C.M g.1->(if g.1=p then τ' g.2 else G.τ g)=G.τ g:=fun g hg=>if_neg (fun e=>hp (by rw[<-e];exact hg))
 have V: ∀b,mu b->ji w0 S0 b∧b<w.heap.size:=by
  intro b H;rcases a2 b H with⟨id,F,rfl⟩|⟨g,hg,c⟩
  ·obtain⟨Z,A⟩:=f id F;exact⟨h.U1 (h.box _ _ _ A).1,h.kY A⟩
  ·obtain⟨x,z⟩:=J g hg;exact⟨h.gh g x b z c,((h.own g x.1 x.2.1 x.2.2 z).gq b c).2⟩
 have D:dL C w G (C.add p) w' {S:=S',β:=fD G.β p βn,τ:=fun g=>if g.1=p then τ' g.2 else G.τ g}:=
  ⟨fun _ h=>⟨rfl,h⟩,fun _ h=>.inl h,hS,a3,fun i Y=>O i Y,fun g hg=>b0 g hg⟩
 have K: ∀id x,id∉ids->σ.hp id=some x-> ¬mu (G.β id):=by
  intro id x hn z H;rcases a2 _ H with⟨Pc,h2,he⟩|⟨g,hg,c⟩
  ·obtain⟨Z,A⟩:=f Pc h2;exact hn (h.inj id Pc _ _ z A he▸h2)
  ·obtain⟨y,X⟩:=J g hg;exact h.eK g id y x _ X z c rfl
 have q: ∀g x b,g∉kill->σ.live g=some x->(G.τ g).ownBlock=some b-> ¬mu b:=by
  intro g x b hn z c H;rcases a2 _ H with⟨Pc,h2,he⟩|⟨g2,Pr,aeW⟩
  ·obtain⟨Z,A⟩:=f Pc h2;exact h.eK g Pc x _ b z A c he
  ·obtain⟨y,X⟩:=J g2 Pr;exact hn (h.js g g2 x y b z X c aeW▸Pr)
 have b4:=h.below.size
 have a0: ∀i x,B i=some x->(C.M i∧(∃x',σ.hp i=some x')∧fD G.β p βn i=G.β i)∨(i=p∧(w.heap.size<=βn∨ ∃d∈ids,βn=G.β d∧B d=none)):=by
  intro i x Y;rcases a4 i x Y with⟨_,_,h2⟩|⟨_,h2|h2,_⟩
  ·exact .inl ⟨h.mH _ _ h2,⟨_,h2⟩,O _ (h.mH _ _ h2)⟩
  ·obtain⟨Z,A⟩:=f i h2;exact .inl ⟨W i h2,⟨_,A⟩,O _ (W i h2)⟩
  ·exact .inr h2
 refine⟨D,⟨?_,fun b o hs=>hS b o (h.jA b o hs),h.lW D,h.nd D,h.kT,b9,?_,?_,?_,?_,?_,?_,?_,?_,fun h=>absurd h b8,fun h=>absurd h b7⟩⟩
 ·refine⟨v.os.trans h.below.os,v.tape.trans h.below.tape,v.output.trans h.below.output,aW b4 v.size,fun k hk hm=>(v.block k (by omega) (fun H=> ?_)).trans (h.below.block k hk hm)⟩;rcases (V k H).1 with I|I
  ·omega
  ·exact hm I
 ·intro b o hs;rcases U b o hs with r|r|r
  ·exact h.gX b o r
  ·exact .inr (.inl (by omega))
  ·exact .inr (V b r).1
 ·intro id x z;rcases a0 id x z with⟨r,_⟩|⟨rfl,_⟩
  ·exact .inl r
  ·exact .inr rfl
 ·intro id ro Z z;rcases a4 id _ z with⟨n1,n2,LC⟩|⟨hf,F,hsc,yS,hns⟩
  ·obtain⟨b1,b2,b3,b5⟩:=h.box id ro Z LC;have H:=O id (h.mH _ _ LC);have a5:=K id _ n1 LC;have a6:=h.kY LC;refine⟨by show Gm w0 S0 (fD G.β p βn id);rw[H];exact b1,b2,by show jD S0.prog _ w' _ (fD G.β p βn id) Z;rw[H];exact b3.later D (v.block _ a6 a5),?_⟩;show if ro=true then∀o,o<Z.length->S' (fD G.β p βn id) o else∀o,¬S' (fD G.β p βn id) o
   rw[H];cases ro with
   |true=>simp only[if_true]at b5⊢;exact fun o ho=>hS _ _ (b5 o ho)
   |false=>
    simp only[ai,if_false]at b5⊢;intro o ho;rcases U _ _ ho with R|R|R
    ·exact b5 o R
    ·omega
    ·exact a5 R
  ·simp only at hf;subst hf;refine⟨?_,hsc,yS,by simp only[ai,if_false];exact hns⟩;show Gm w0 S0 (fD G.β p βn id);rcases F with F|⟨rfl,L⟩
   ·rw[O id (W id F)];obtain⟨a1,m⟩:=f id F;exact(h.box _ _ _ m).1
   ·rw[dX];rcases L with L|⟨d,u,L,_⟩
    ·exact .inl (by omega)
    ·rw[L];obtain⟨a1,m⟩:=f d u;exact(h.box _ _ _ m).1
 ·intro i j x y Y hj he;have Q:fD G.β p βn i=fD G.β p βn j:=he;rcases a0 i x Y with⟨_,⟨x',LC⟩,e1⟩|⟨rfl,e1⟩<;>rcases a0 j y hj with⟨_,⟨y',Xq⟩,N⟩|⟨rfl,N⟩
  ·rw[e1,N]at Q;exact h.inj i j _ _ LC Xq Q
  ·rw[e1,dX]at Q;have:=h.kY LC;rcases N with N|⟨d,u,N,e3⟩
   ·omega
   ·obtain⟨a1,m⟩:=f d u;have e4:=h.inj i d _ _ LC m (Q.trans N);have a8:B i=some x:=Y;rw[e4,e3]at a8;cases a8
  ·rw[N,dX]at Q;have:=h.kY Xq;rcases e1 with e1|⟨d,u,e1,e3⟩
   ·omega
   ·obtain⟨a1,m⟩:=f d u;have e4:=h.inj j d _ _ Xq m (Q.symm.trans e1);have a7:B j=some y:=hj;rw[e4,e3]at a7;cases a7
  ·rfl
 ·intro g e T t z;rcases s g _ z with⟨r,h2,I⟩|⟨r,h2,_⟩
  ·have ho:=h.own g e T t I;refine ho.later D (fun b H=>v.block b (ho.gq b H).2 (q g _ b h2 I H)) (fun b H o hs=> ?_);rcases U b o hs with R|R|R
   ·exact R
   ·have:=(ho.gq b H).2;omega
   ·exact absurd R (q g _ b h2 I H)
  ·exact h2
 ·intro g x b z c;rcases s g _ z with⟨r,h2,I⟩|⟨r,_,h2⟩
  ·simp only[if_neg r]at c;exact h.gh g x b I c
  ·simp only[if_pos r]at c;rcases h2 b c with h4|h4
   ·exact .inl (by omega)
   ·exact(V b h4).1
 ·intro g g' x y b z X c l;rcases s g _ z with⟨r,h2,I⟩|⟨r,_,h2⟩<;>rcases s g' _ X with⟨h4,h5,R⟩|⟨h4,_,h5⟩
  ·simp only[if_neg r]at c;simp only[if_neg h4]at l;exact h.js g g' x y b I R c l
  ·simp only[if_neg r]at c;simp only[if_pos h4]at l;rcases h5 b l with h7|h7
   ·have:=((h.own g x.1 x.2.1 x.2.2 I).gq b c).2;omega
   ·exact absurd h7 (q g x b h2 I c)
  ·simp only[if_pos r]at c;simp only[if_neg h4]at l;rcases h2 b c with h7|h7
   ·have:=((h.own g' y.1 y.2.1 y.2.2 R).gq b l).2;omega
   ·exact absurd h7 (q g' y b h5 R l)
  ·obtain⟨g1,j⟩:=g;obtain⟨g2,k⟩:=g';simp only at r h4;subst r;subst h4;simp only[if_true]at c l;rw[a9 j k x y b z X c l]
 ·intro g id x y b z X c;show b≠fD G.β p βn id;rcases s g _ z with⟨r,h2,I⟩|⟨r,_,h2⟩
  ·simp only[if_neg r]at c;rcases a0 id y X with⟨_,⟨y',Xq⟩,N⟩|⟨rfl,N⟩
   ·rw[N];exact h.eK g id x y' b I Xq c
   ·rw[dX];rcases N with N|⟨d,u,N,_⟩
    ·have:=((h.own g x.1 x.2.1 x.2.2 I).gq b c).2;omega
    ·obtain⟨a1,m⟩:=f d u;rw[N];exact h.eK g d x _ b I m c
  ·obtain⟨g1,j⟩:=g;simp only at r;subst r;simp only[if_true]at c;rcases a4 id y X with⟨n1,n2,LC⟩|⟨_,F,_⟩
   ·rw[O id (h.mH _ _ LC)];intro he;have:=h.kY LC;rcases h2 b c with h7|h7
    ·omega
    ·rw[he]at h7;exact K id _ n1 LC h7
   ·exact b6 j id x y b z X (F.imp (fun h=>h) And.left) c
end
def rT: ∀{a b:Tal} {x y:Taf},dn (.V a) x->dn (.V b) y->dn (.V (a++b)) (x++y)
 | [],b,x,y,h,h'=>by rw[dg.1 h];exact h'
 |t::a,b,x,y,h,h'=>by obtain⟨d,r,rfl,e,c⟩:=ag.1 h;exact ag.2 ⟨d,r++y,rfl,e,rT c h'⟩
section
variable{P:Tap}{C:Cx}{w w0:Tam}{S0:gJ}{G:Gh}{σ:St}{a:Act}{o:Tbc}{pc:dB}{Φ:Taa}{Pre:eN}{n p:Nat}{cs:mG}
def vG(g:iO C w G σ.tm a){pc:dB}(c:aU C.ρ pc=true){β:Nat->Nat}: ∀{f:List Bool} {l:List Tbb} {ts:List Tba} {es:List (E×Ty)} {ids:Tah} {k:Nat},kU P σ pc f l ts=some (es,ids)->(∀(i:Nat) id,ids[i]? =some id->β (k+i)=G.β id)->
  rn w G.S β f k (l.map a.eval) (es.map fun x=>den C.ρ x.1)∧dn (.V (es.map (·.2))) (es.map fun x=>den C.ρ x.1)
 | [],[],[],es,ids,k,h,_=>by simp only[kU,aa,ae]at h;obtain⟨rfl,rfl⟩:=h;exact⟨trivial,dg.2 rfl⟩
 |false::f,x::l,t::ts,es,ids,k,h,hβ=>by
  simp only[kU]at h;split at h
  ·rename_i e u d s r;obtain⟨rfl,rfl⟩:=iD h;obtain⟨m,j⟩:=vG g c r hβ;obtain⟨F,D⟩:=e;obtain⟨_,y,v⟩:=dR g c s;exact⟨⟨y,m⟩,ag.2 ⟨_,_,rfl,v,j⟩⟩
  ·cases h
 |true::f,x::l,t::ts,es,ids,k,h,hβ=>by
  simp only[kU]at h;split at h
  ·rename_i id u d s r;obtain⟨rfl,rfl⟩:=iD h;obtain⟨m,j⟩:=vG (k:=k+1) g c r (fun i q A=>by rw[show k+1+i=k+(i+1) by omega];exact hβ (i+1) q (by simpa using A));have z:=(cC g c s).2;have B:β k=G.β id:=by simpa using hβ 0 id rfl
   exact⟨⟨by rw[z,B],m⟩,j⟩
  ·cases h
 | [],[],_::_,_,_,_,h,_=>by simp[kU]at h
 | [],_::_,ts,_,_,_,h,_=>by cases ts<;>simp[kU]at h
 |b::_,[],ts,_,_,_,h,_=>by cases b<;>cases ts<;>simp[kU]at h
 |b::_,_::_,[],_,_,_,h,_=>by cases b<;>simp[kU]at h
def zJ: ∀{rcs:List (List bB)} {ids:Tah} {b:List (List E)} {l:kS},tF σ rcs ids=some (b,l)->
  b.length=rcs.length∧ids.length=rcs.length∧rcs.flatMap Ek=l.map (·.1)∧(∀id∈ids,∃cs,σ.hp id=some (false,cs))∧(∀j g,(j,some g)∈l-> ∃z,σ.live g=some z)∧
  ∀(i:Nat) f id m,rcs[i]? =some f->ids[i]? =some id->b[i]? =some m-> ∃cs k,σ.hp id=some (false,cs)∧gv σ f cs=some (m,k)∧ ∀x∈k,x∈l
 | [],[],b,l,h=>by simp only[tF,aa,ae]at h;obtain⟨rfl,rfl⟩:=h;exact⟨rfl,rfl,rfl,by simp,by simp,by intro i f id m e;simp at e⟩
 |f::r,id::ids,b,l,h=>by
  simp only[tF]at h;split at h
  ·rename_i cs d;split at h
   ·rename_i m Q D S y R;obtain⟨rfl,rfl⟩:=iD h;obtain⟨O,N,M,L,K,J⟩:=zJ R;refine⟨by simp[O],by simp[N],?_,?_,?_,?_⟩
    ·rw[List.flatMap_cons,M,ck,<-mW y];rfl
    ·simp only[aD,forall_eq_or_imp];exact⟨⟨cs,d⟩,L⟩
    ·intro j g c;rcases aI.1 c with c|c
     ·exact mj y c
     ·exact K j g c
    ·intro i q s A e v u;cases i with
     |zero=>simp at e v u;subst e;subst v;subst u;exact⟨cs,Q,d,y,fun x t=>aA _ t⟩
     |succ i=>
      obtain⟨B,k,I,H,F⟩:=J i q s A (by simpa using e) (by simpa using v) (by simpa using u);exact⟨B,k,I,H,fun x t=>bq _ (F x t)⟩
   ·cases h
  ·cases h
 | [],_::_,_,_,h=>by cases h
 |_::_,[],_,_,h=>by cases h
def B6{ob:Ob}{ids:Tah}{i id:Nat}(h:ids[i]? =some id):(nw σ ob ids)[i]? =some id:=by
 have b:i<ids.length:=(aG.1 h).1;unfold nw;split
 ·split
  ·split
   ·rw[aq b];exact h
   ·exact h
  ·exact h
 ·exact h
def De{lk:Tak}: ∀{k:Nat} {ids:Tah} {rcs:List (List bB)} {id:Nat} {v:Tao (Bool×List SC)},(id,v)∈Ph lk p k ids rcs-> ∃(i:Nat) (b:List bB),ids[i]? =some id∧rcs[i]? =some b∧v=some (false,tX lk b (lj true p (.un (.cell (k+i)) (.var p)) 0 b))
 |k,[],rcs,id,v,h=>by cases rcs<;>simp[Ph]at h
 |k,_::_,[],id,v,h=>by simp[Ph]at h
 |k,x::ids,b::rcs,id,v,h=>by
  simp only[Ph,aD,ae]at h;rcases h with⟨rfl,rfl⟩|h
  ·exact⟨0,b,rfl,rfl,rfl⟩
  ·obtain⟨i,c,f,e,d⟩:=De h;exact⟨i+1,c,by simpa using f,by simpa using e,by rw[d,show k+1+i=k+(i+1) by omega]⟩
def ES{lkk:Tak}{id:Nat}: ∀{k:Nat} {ids:Tah} {rcs:List (List bB)},lk (Ph lkk p k ids rcs) id=none->ids.length<=rcs.length->id∉ids
 |k,[],rcs,_,_=>by simp
 |k,_::_,[],_,hl=>by simp at hl
 |k,x::ids,rc::rcs,h,hl=>by
  simp only[Ph,lk]at h;split at h
  ·cases h
  ·rename_i b;simp only[aD,not_or];exact⟨b,ES h (by simpa using hl)⟩
def B4: ∀{k:Nat} {rcs:List (List bB)} {x:Tag×Tao (E×Tba×Ty)},x∈xl p k rcs-> ∃(i:Nat) (b:List bB),rcs[i]? =some b∧x∈lT p (.un (.cell (k+i)) (.var p)) 0 b
 |k,[],x,h=>by simp[xl]at h
 |k,b::rcs,x,h=>by
  simp only[xl,aI]at h;rcases h with h|h
  ·exact⟨0,b,rfl,h⟩
  ·obtain⟨i,c,e,d⟩:=B4 h;exact⟨i+1,c,by simpa using e,by rw[show k+(i+1)=k+1+i by omega];exact d⟩
def oO{c β:Type}[DecidableEq c] : ∀{l:List (c×β)} {k:c},lk l k=none-> ∀v,(k,v)∉l
 | [],k,_,v=>by simp
 |(a,b)::l,k,h,v=>by
  simp only[lk]at h;split at h
  ·cases h
  ·rename_i d;simp only[aD,ae,not_or,not_and];exact⟨fun e=>absurd e d,oO h v⟩
def ER{w:Tam}{S:bz}{τ:Taj}: ∀{rcs:List (List bB)} {b:List (Taf)} {β:Nat->Nat} {k:Nat},b.length=rcs.length->(∀(i:Nat) rc cells,rcs[i]? =some rc->b[i]? =some cells->BK w S τ rc (β (k+i)) cells)->
  dn (.V (rcs.flatten.map Ec)) b.flatten
 | [],[],β,k,_,_=>dg.2 rfl
 | [],_::_,_,_,h,_=>by simp at h
 |_::_,[],_,_,h,_=>by simp at h
 |rc::rcs,cells::b,β,k,hl,h=>by
  obtain⟨d,T,_,A,v,s,_⟩:=h 0 rc cells rfl rfl;rw[eD,eD,ck];refine rT (iQ (by simp[v]) fun j u x f g=> ?_) (ER (k:=k+1) (β:=β) (by simpa using hl) (fun i c y m q=>by rw[show k+1+i=k+(i+1) by omega];exact h (i+1) c y (by simpa using m) (by simpa using q)));simp only[ab,cU]at f;obtain⟨r,e,rfl⟩:=f;have l:j<rc.length:=(aG.1 e).1;have:=s j r _ x e (aQ (by omega)) g;obtain⟨t,_|⟨z,B⟩⟩:=r
  ·exact this.2
  ·exact this.2.has
def pa{ops:Tad}{x:od}(hs:gG n w0 S0 C G σ a w)(hp: ¬C.M p)(n4:p<C.N)(hg:guardOf ops σ o=some pc)(l1:aU C.ρ pc=true)(h:iP P cs σ pc o=some x)(m6: ∀k I,lk cs.l k=some I->bj P k I (Pre k) (Φ k))(o4:eG C Φ Pre (.call p x.k x.args []))(o0:(x.Cr p o.dst).qW.2.lt C.N=true)(m3: ∀d,o.dst=some d->d<n)(n9: ¬S0.fr)(n7: ¬S0.wz):
  fx P n w0 S0 C ((x.Cr p o.dst).app σ) p ops a w o:=by
 intro K Q hK;obtain⟨hw,hc⟩:=fL hs.t hg;rw[hw,if_pos l1];unfold iP at h;split at h
 ·rename_i f b7 j8 ho;split at h
  ·rename_i fe k' hf;split at h
   ·rename_i I k5;split at h
    ·rename_i q n6;split at h
     ·rename_i es Zi o9;split at h
      ·rename_i f4 l d9;split at h
       ·rename_i i0;obtain⟨ids,g7⟩: ∃ids,ids=nw σ q Zi:=⟨_,rfl⟩;rw[<-g7]at i0 d9 h;obtain⟨n2,g8,a5,q0,n0,a6,n3,l9,g5,e4⟩:=i0;injection h with h;subst h;have i1: ∀(i:Nat) id,Zi[i]? =some id->ids[i]? =some id:=fun i id A=>by rw[g7];exact B6 A
        obtain⟨f1,f2,f3⟩:=cC hs.t (pc:=[]) rfl hf;obtain⟨fl,o7,o8⟩:=kH.1 f3;have m1:fl=[] :=dg.1 o8;subst m1;obtain⟨p9,o6,j4,_⟩:=(o7▸f2).ug;have m5:p9=[] :=an j4;subst m5;have a2:=m6 _ _ k5;obtain⟨q1,q2,q3,q4,q5,q6⟩:=zJ d9;let Z:Nat->Nat:=fun i=>G.β (ids.getD i 0);have F: ∀(i:Nat) id,ids[i]? =some id->Z i=G.β id:=fun i id A=>by show G.β (ids.getD i 0)=_;rw[aj,A];rfl
        obtain⟨j7,i8⟩:=vG (k:=0) (β:=Z) hs.t l1 o9 (fun i id A=>by rw[ao];exact F i id (i1 i id A));have g9: ∀id∈ids,C.M id:=fun id A=>by obtain⟨cs,p0⟩:=q4 id A;exact hs.m.mH _ _ p0
        have d6:p∉ids:=fun A=>hp (g9 p A)
        have l3:(l.map (·.1)).Nodup:=by unfold oY at a5;simp only[aS,bk]at a5;exact a5.2
        let f5:=pq G l;let dd:=es.map fun x=>den C.ρ x.1;let oo:=f4.map fun es=>es.map (den C.ρ)
        have m4:(den C.ρ (.V (es.map (·.1)++f4.flatten))).A=dd++oo.flatten:=by rw[fX];simp only[D.A,ck,List.map_map,dd,oo,List.map_flatten];rfl
        have a9: ∀(i:Nat) V cells,q.cB[i]? =some V->oo[i]? =some cells->BK w G.S f5 V (Z i) cells:=by
         intro i V cells A c7;simp only[oo,ab,cU]at c7;obtain⟨p8,m2,rfl⟩:=c7;have a7:i<ids.length:=by rw[q2];exact(aG.1 A).1
         have a4:ids[i]? =some ids[i] :=aQ a7;obtain⟨m9,lo,r1,r2,r3⟩:=q6 i V _ p8 A a4 m2;obtain⟨b1,b2,f0,b5⟩:=hs.m.box _ _ _ r1;obtain⟨vs,T,b3,b4⟩:=f0.cells (kE r2);obtain⟨k1,k2,k3⟩:=jL (L:=l) hs.m l3 r2 b4 r3;rw[F i _ a4];refine⟨vs,T,b3,k2,by simp[k1],fun j r v d hr hv hd=> ?_,by simpa using b5⟩;simp only[ab,cU]at hd;obtain⟨e,he,rfl⟩:=hd;exact k3 j r v e hr hv he
        have o5:BL w G.S q Z f5 (b7.toList.map a.eval) dd oo:=by
         refine⟨hs.m.dF,j7,by simp[oo,q1],a9,?_,?_,?_,?_⟩
         ·intro i j A Y he;have W:ids[i]? =some (ids[i]'(by omega)):=aQ _;have h2:ids[j]? =some (ids[j]'(by omega)):=aQ _;rw[F i _ W,F j _ h2]at he;obtain⟨c1,j5⟩:=q4 _ (aF (l:=ids) (n:=i) (by omega));obtain⟨c2,p2⟩:=q4 _ (aF (l:=ids) (n:=j) (by omega));have:=hs.m.inj _ _ _ _ j5 p2 he;exact(List.getElem_inj g8).1 this
         ·intro j k b Y hk p4 p3;unfold Ob.jz at Y hk;rw[q3]at Y hk;exact wU hs.m a5 q5 Y hk p4 p3
         ·intro j i b Y A hb he;unfold Ob.jz at Y;rw[q3]at Y;obtain⟨g,j1,j2⟩:=vi a5 Y hb;obtain⟨z,hz⟩:=q5 _ _ j1;have W:ids[i]? =some (ids[i]'(by omega)):=aQ _;obtain⟨c1,j5⟩:=q4 _ (aF (l:=ids) (n:=i) (by omega));rw[F i _ W]at he;exact hs.m.eK g _ z _ b hz j5 j2 he
         ·intro c6 o c V ho hc;have f8:o<q.cB.length:=(aG.1 ho).1;have W:ids[o]? =some (ids[o]'(by omega)):=aQ _;have h2:ids[q.cB.length-1]? =some (ids[q.cB.length-1]'(by omega)):=aQ _;obtain⟨m9,r1⟩:=q4 _ (aF (l:=ids) (n:=o) (by omega));have o1:BC q ids=some (ids[q.cB.length-1]'(by omega)):=by unfold BC;rw[if_pos c6,h2]
          rw[o1]at g5;have j6:=zP g5 ho W r1;obtain⟨b1,b2,f0,b5⟩:=hs.m.box _ _ _ r1;obtain⟨q8,lo,d3,r2,_⟩:=q6 o V _ _ ho W (aQ (by rw[q1];exact f8));rw[r1]at d3;injection d3 with d3;simp only[ae,true_and]at d3;subst d3;obtain⟨vs,T,b3,b4⟩:=f0.cells (kE r2)
          obtain⟨k1,k2,_⟩:=jL (L:=l) hs.m l3 r2 b4 (fun x hx=>by obtain⟨q7,q9,y1,y2,y3⟩:=q6 o V _ _ ho W (aQ (by rw[q1];exact f8));rw[r1]at y1;injection y1 with y1;simp only[ae,true_and]at y1;subst y1;rw[r2]at y2;injection y2 with y2;simp only[ae,true_and]at y2;subst y2;exact y3 x hx)
          have b9:c<V.length:=(aG.1 hc).1;have j3:c<vs.length:=by rw[k2];exact b9
          have m7:c<m9.length:=by rw[<-b4.1];exact j3
          have k6:=wY j6 hc (aQ m7);have k8:=b4.2 c _ _ (aQ m7) (aQ j3);rw[k6]at k8;obtain⟨_,n1⟩:=k8;rw[F o _ W,F _ _ h2,cell_of_row w _ c _ T (0,0) b3];rw[dj,aQ j3,n1]
        have m0:dn (.V I.params) (dd++oo.flatten):=by rw[<-n2];exact rT i8 (ER (k:=0) (β:=Z) (by simp[oo,q1]) (fun i V cells A b9=>by rw[ao];exact a9 i V cells A b9))
        obtain⟨_,_,k0,l0⟩:=o4;have d5:=l0 rfl;rw[m4]at k0 d5
        have k7:(execOp a.eval o).run P w= .ok (.enter k' (b7.toList.map a.eval).toArray) w:=by
         have e1:(b7.toList.map a.eval).toArray=b7.map a.eval:=by apply cW;simp
         unfold execOp;simp only[ho,resolve,o6,Deferred.ofValue,e1];have:=a2.enter (b7.map a.eval) w;simpa [invoke]using this
        unfold Oper.wp;rw[k7]
        have l2:q.wy=false:=by rw[cw];intro i2;unfold Ob.wy at i2;simp only[aS,List.isEmpty_iff,beq_iff_eq]at i2;obtain⟨⟨_,W⟩,h2⟩:=i2;have h3:=a6;rw[h2,l9,W]at h3;cases R:q.new<;>rw[R]at h3<;>simp at h3
        refine(a2.y9 q n6 l2 w G.S Z f5 _ dd oo o5 m0 d5).mono ?_;rintro e' w' ⟨v,S',τ',βn,rfl,tV⟩;simp only;rw[<-k0]at tV;obtain⟨d0,a8,hd,f8,H,f9⟩:=tV.res;let a3:Nat:=if q.new=true∨q.mv=true then βn else G.β p
        let G':Gh:={S:=S',β:=fD G.β p a3,τ:=fun g=>if g.1=p then τ' g.2 else G.τ g};have f6: ∀j,G'.τ (p,j)=τ' j:=fun j=>if_pos rfl;have hM:(C.add p).M p:=.inr rfl;have k4:(E.var p).lt C.N=true:=by simpa [E.lt]using n4
        have g4: ∀j,(E.un (.cell j) (.var p)).lt (C.add p).N=true:=fun j=>k4;have e6: ∀i j,(E.un (.cell j) (.un (.cell i) (.var p))).lt (C.add p).N=true:=fun i j=>k4;have d1:den C.ρ (.un (.cell 0) (.var p))=d0:=by simp only[den,U.den,hd,D.A];rfl
        have c9: ∀(i:Nat) cells,a8[i]? =some cells->den C.ρ (.un (.cell (1+i)) (.var p))= .agg cells:=by intro i cells A;simp only[den,U.den,hd,D.A];exact gu (by rw[Nat.add_comm];simp[A])
        have c5: ∀id∈ids,G'.β id=G.β id:=fun id A=>fo _ _ (fun e=>d6 (e▸A));have e8:q.new=true->a3=βn:=fun R=>if_pos (.inl R);have e7:q.mv=true->a3=βn:=fun R=>if_pos (.inr R)
        have X:q.mv=true->(ids[q.cB.length-1]? =some (ids.getD (q.cB.length-1) 0)∧ids.getD (q.cB.length-1) 0∈ids):=by
         intro hm;have h3:=e4 hm;have h4:ids[q.cB.length-1]? =some (ids[q.cB.length-1]'(by omega)):=aQ _;have h5:ids.getD (q.cB.length-1) 0=ids[q.cB.length-1]'(by omega):=by rw[aj,h4];rfl
         rw[h5];exact⟨h4,aF _⟩
        have i9:q.mv=true->eT σ.hp (od.Cr ⟨k',.V (es.map (·.1)++f4.flatten),I,q,ids,l⟩ p o.dst).hp (ids.getD (q.cB.length-1) 0)=none:=by
         intro hm
         have n8:ids.getD (q.cB.length-1) 0∉kX q ids p:=by
          unfold kX;rw[if_pos hm];intro hh;rcases aI.1 hh with hh|hh
          ·obtain⟨i,A⟩:=aw hh;rw[ay]at A;split at A
           ·rename_i a7;have h6:=(X hm).1;have h7:=(aG.1 A);obtain⟨h8,h9⟩:=h7;obtain⟨p7,p6⟩:=aG.1 h6;have:=(List.getElem_inj g8 (h₀:=h8) (h₁:=p7)).1 (h9.trans p6.symm);omega
           ·cases A
          ·simp only[aB]at hh;exact d6 (hh▸(X hm).2)
         unfold eT od.Cr;simp only[hm,if_true];split
         ·rename_i y O;rcases aI.1 (iK O) with h7|h7
          ·obtain⟨i,V,h8,_⟩:=De h7;exact absurd (bU h8) n8
          ·simp only[aB,ae]at h7;exact h7.2
         ·rename_i O;exact absurd (bq _ (aB.2 rfl)) (oO O none)
        have d4: ∀(i:Nat) id V,(kX q ids p)[i]? =some id->q.outs[i]? =some V-> ∃cells,a8[i]? =some cells∧BK w' S' τ' V (G'.β id) cells∧(id∈ids∨(id=p∧(w.heap.size<=a3∨ ∃j9∈ids,a3=G.β j9∧eT σ.hp (od.Cr ⟨k',.V (es.map (·.1)++f4.flatten),I,q,ids,l⟩ p o.dst).hp j9=none)))∧ka q Z βn i=G'.β id:=by
         intro i id V A d2;have n5:i<a8.length:=by rw[f8];exact(aG.1 d2).1
         have d8:a8[i]? =some a8[i] :=aQ n5;have g0:=f9 i V _ d2 d8;cases s:q.mv with
         |true=>
          have e3:=Ob.CQ s;unfold kX at A;rw[s,if_pos rfl]at A;have r0:(ids.take (q.cB.length-1)).length=q.cB.length-1:=by rw[aK];omega
          by_cases b0:i<q.cB.length-1
          ·rw[aq (by omega),ay,if_pos b0]at A;have b6:id∈ids:=bU A;have e1:ka q Z βn i=G'.β id:=by unfold ka;rw[if_pos ⟨by omega,fun h=>by omega⟩,F i id A,c5 id b6]
           exact⟨_,d8,e1▸g0,.inl b6,e1⟩
          ·rw[aN (by omega)]at A
           have i7:i-(ids.take (q.cB.length-1)).length=0:=by have:=(aG.1 A).1;simp at this;omega
           rw[i7]at A;simp only[dk,aa]at A;subst A;have a7:i=q.cB.length-1:=by have:=e4 s;omega
           have e1:ka q Z βn i=G'.β p:=by unfold ka;rw[if_neg (fun h=>h.2 ⟨s,a7⟩)];show βn=fD G.β p a3 p;rw[dX,e7 s]
           refine⟨_,d8,e1▸g0,.inr ⟨rfl,?_⟩,e1⟩;rw[e7 s];rcases tV.mvd s with h|h
           ·exact .inr ⟨_,(X s).2,h.trans (F _ _ (X s).1),i9 s⟩
           ·exact .inl h
         |false=>
         unfold kX at A;simp only[s,ai,if_false]at A;by_cases b0:i<ids.length
         ·rw[aq b0]at A;have b6:id∈ids:=bU A;have e1:ka q Z βn i=G'.β id:=by unfold ka;rw[if_pos ⟨by omega,fun h=>by rw[s]at h;cases h.1⟩,F i id A,c5 id b6]
          exact⟨_,d8,e1▸g0,.inl b6,e1⟩
         ·rw[aN (by omega)]at A;cases R:q.new with
          |false=>rw[R]at A;simp at A
          |true=>
           rw[R]at A H;simp only[if_true]at A H
           have i7:i-ids.length=0:=by have:=(aG.1 A).1;simp at this;omega
           rw[i7]at A;simp only[dk,aa]at A;subst A
           have e1:ka q Z βn i=G'.β p:=by unfold ka;rw[if_neg (fun h=>by omega)];show βn=fD G.β p a3 p;rw[dX,e8 R]
           exact⟨_,d8,e1▸g0,.inr ⟨rfl,.inl (by rw[e8 R];exact H.2)⟩,e1⟩
        have d7:(kX q ids p).length=q.outs.length:=by
         unfold kX;cases s:q.mv with
         |true=>
          have e3:=Ob.CQ s;have:=e4 s;rw[e3]at a6;simp only[if_true,ah,aK,aZ,Bool.toNat_false]at a6⊢;omega
         |false=>
          simp only[ai,if_false,ah];rw[a6];cases q.new<;>simp
        have i5: ∀y∈(if q.new then [] else nI p (.un (.cell 0) (.var p)) I.res)++xl p 1 q.outs,wK (C.add p) w' 0 G' p (kF I q) y:=by
         intro y O;rcases aI.1 O with O|O
         ·cases R:q.new with
          |true=>rw[R]at O;simp at O
          |false=>
           rw[R]at O H;simp only[ai,if_false]at O H
           have b8:gU w' 0 G'.S τ' I.res v (den (C.add p).ρ (.un (.cell 0) (.var p))):=by show gU w' 0 S' τ' I.res v (den C.ρ _);rw[d1];exact H
           obtain⟨z1,z2,z3⟩:=xy (C:=C.add p) (G:=G') b8 hM (g4 _) f6 y O;exact⟨z1,aA _ z2,z3⟩
         ·obtain⟨i,V,d2,O⟩:=B4 O;obtain⟨j,r,hr,O⟩:=pj _ _ _ _ _ O
          have a7:i<(kX q ids p).length:=by rw[d7];exact(aG.1 d2).1
          obtain⟨cells,b9,⟨g3,T,_,v2,v3,v4,_⟩,_,_⟩:=d4 i _ V (aQ a7) d2;have o2:j<V.length:=(aG.1 hr).1;have e9:cells[j]? =some (cells[j]'(by omega)):=aQ _;have:=v4 j r _ _ hr (aQ (by omega)) e9;refine rW (C:=C.add p) (G:=G') (idx:=kF I q) this hM (e6 _ _) ?_ f6 (fun j0 T0 o3=> ?_) y O
          ·show den C.ρ (.un (.cell (0+j)) (.un (.cell (1+i)) (.var p)))=_;have e2:den C.ρ (.un (.cell (0+j)) (.un (.cell (1+i)) (.var p)))=(U.cell (0+j)).den (den C.ρ (.un (.cell (1+i)) (.var p))):=rfl;rw[e2,c9 i _ b9];simp only[U.den,D.A,ao];exact gu e9
          ·unfold kF;refine bq _ (cZ.2 ⟨V,bU d2,?_⟩);unfold Ek;exact bE.2 ⟨r,bU hr,by rw[o3];rfl⟩
        let kill:List Tag:=l.filterMap (·.2)
        have g1: ∀g:Tag,((g,none):Tag×Tao (E×Tba×Ty))∈(l.filterMap fun y=>y.2.map fun g=>((g,none):Tag×Tao (E×Tba×Ty)))↔g∈kill:=by
         intro g;simp only[bE,kill];constructor
         ·rintro⟨y,O,J⟩;cases Xc:y.2 with
          |none=>rw[Xc]at J;cases J
          |some g'=>rw[Xc]at J;simp at J;subst J;exact⟨y,O,Xc⟩
         ·rintro⟨y,O,J⟩;exact⟨y,O,by rw[J];rfl⟩
        have g2: ∀g z,(g,some z)∉(l.filterMap fun y=>y.2.map fun g=>((g,none):Tag×Tao (E×Tba×Ty))):=by
         intro g z hm;simp only[bE]at hm;obtain⟨y,_,J⟩:=hm;cases Xc:y.2 with
         |none=>rw[Xc]at J;cases J
         |some g'=>rw[Xc]at J;simp at J
        have i6: ∀g∈kill,∃j,(j,some g)∈l:=by intro g hg;simp only[kill,bE]at hg;obtain⟨⟨j,y⟩,O,J⟩:=hg;simp only at J;subst J;exact⟨j,O⟩
        let Cr:iH:=od.Cr ⟨k',.V (es.map (·.1)++f4.flatten),I,q,ids,l⟩ p o.dst
        have a0: ∀g z,eT σ.live Cr.live g=some z->(g.1≠p∧g∉kill∧σ.live g=some z)∨wK (C.add p) w' 0 G' p (kF I q) (g,some z):=by
         intro g z hz;unfold eT at hz;split at hz
         ·rename_i y O;subst hz;have l4:=iK O;have e5:(g,some z)∈(l.filterMap fun y=>y.2.map fun g=>((g,none):Tag×Tao (E×Tba×Ty)))++(if q.new then [] else nI p (.un (.cell 0) (.var p)) I.res)++xl p 1 q.outs:=l4;rw[dN]at e5;rcases aI.1 e5 with hm|hm
          ·exact absurd hm (g2 g z)
          ·exact .inr (i5 _ hm)
         ·rename_i O;refine .inl ⟨fun e=>hp (e▸(hs.m.own g z.1 z.2.1 z.2.2 hz).m),fun hk=> ?_,hz⟩;refine oO O none ?_;show(g,none)∈(l.filterMap fun y=>y.2.map fun g=>((g,none):Tag×Tao (E×Tba×Ty)))++(if q.new then [] else nI p (.un (.cell 0) (.var p)) I.res)++xl p 1 q.outs;rw[dN];exact aA _ ((g1 g).2 hk)
        have h0: ∀id z,eT σ.hp Cr.hp id=some z->(id∉ids∧id≠p∧σ.hp id=some z)∨ ∃(i:Nat) (V:List bB),(kX q ids p)[i]? =some id∧q.outs[i]? =some V∧z=(false,tX (Bz q ids p) V (lj true p (.un (.cell (1+i)) (.var p)) 0 V)):=by
         intro id z hz;unfold eT at hz;split at hz
         ·rename_i y O;subst hz;rcases aI.1 (iK O) with f7|f7
          ·obtain⟨i,V,W,h2,h3⟩:=De f7;injection h3 with h3;exact .inr ⟨i,V,W,h2,h3⟩
          ·split at f7<;>simp at f7
         ·rename_i O;have J:=oO O
          have e0:id∉kX q ids p:=by
           refine ES (p:=p) (lkk:=Bz q ids p) (k:=1) (ids:=kX q ids p) (rcs:=q.outs) ?_ (by rw[d7];exact bf _);cases hq:lk (Ph (Bz q ids p) p 1 (kX q ids p) q.outs) id with
           |none=>rfl
           |some v=>exact absurd (aA _ (iK hq)) (J v)
          refine .inl ⟨fun A=> ?_,?_,hz⟩
          ·unfold kX at e0;cases s:q.mv with
           |false=>
            simp only[s,ai,if_false]at e0;exact e0 (aA _ A)
           |true=>
            simp only[s,if_true]at e0;have h3:=e4 s;obtain⟨i,a7,l7⟩:=fS A;by_cases b0:i<q.cB.length-1
            ·refine e0 (aA _ (bU (i:=i) ?_));rw[ay,if_pos b0,aQ a7,l7]
            ·have l8:i=q.cB.length-1:=by omega
             have h6:=(X s).1;rw[<-l8,aQ a7,l7]at h6;injection h6 with h6;refine J none (bq _ ?_);simp only[s,if_true,aB,ae,and_true];rw[h6,l8]
          rintro rfl;exact hp (hs.m.mH _ _ hz)
        have i3: ∀j id y z b,eT σ.live Cr.live (p,j)=some y->eT σ.hp Cr.hp id=some z->(id∈ids∨id=p)->(τ' j).ownBlock=some b->b≠G'.β id:=by
         intro j id y z b O hz a4 hb;rcases a0 _ _ O with⟨W,_⟩|i4
         ·exact absurd rfl W
         ·rcases h0 id z hz with⟨W,h2,_⟩|⟨i,V,W,h2,_⟩
          ·rcases a4 with a4|a4
           ·exact absurd a4 W
           ·exact absurd a4 h2
          ·obtain⟨cells,_,_,_,he⟩:=d4 i id V W h2;rw[<-he];exact tV.eK j i b i4.2.1 (aG.1 h2).1 hb
        obtain⟨l6,hm⟩:=hs.m.PV hp (τ':=τ') (βn:=a3) (ids:=ids) (kill:=kill) (mu:=tR q Z f5) tV.below
         (by
          rintro b (⟨i,A,rfl⟩|⟨j,Y,hb⟩)
          ·have W:ids[i]? =some (ids[i]'(by omega)):=aQ _;exact .inl ⟨_,aF (l:=ids) (n:=i) (by omega),F i _ W⟩
          ·unfold Ob.jz at Y;rw[q3]at Y;obtain⟨g,j1,j2⟩:=vi a5 Y hb;exact .inr ⟨g,bE.2 ⟨_,j1,rfl⟩,j2⟩)
         q4 (fun g hg=>by obtain⟨j,Y⟩:=i6 g hg;exact q5 j g Y) tV.jw tV.lt tV.new tV.keep (eT σ.hp Cr.hp) (eT σ.live Cr.live) G' rfl
         (by
          intro id z hz;rcases h0 id z hz with W|⟨i,V,W,h2,rfl⟩
          ·exact .inl W
          ·obtain⟨cells,b9,⟨g3,T,v1,v2,v3,v4,v5⟩,a4,m8⟩:=d4 i id V W h2;refine .inr ⟨rfl,a4,?_,jD.mk (vs:=g3) (T:=T) v1 ⟨?_,?_⟩,v5⟩
           ·rw[bY];intro c p1;obtain⟨j,Y⟩:=aw p1;obtain⟨c0,Y,c4⟩:=rL Y;rcases c4 with rfl|⟨_,_,_,rfl⟩
            rotate_left
            ·rfl
            rw[oR]at Y;simp only[cU]at Y;obtain⟨r,hr,rfl⟩:=Y;have:=bY.1 (bY.1 n3 V (bU h2)) r (bU hr);obtain⟨t,_|⟨j0,T0⟩⟩:=r
            ·exact this
            ·cases J2:Bc j0<;>simp[nH,J2,SC.scalar]
           ·show _=(tX _ _ _).length;rw[zW,rV,v2]
           ·intro j c u Y hu;obtain⟨c0,Y,c4⟩:=rL Y;rcases c4 with rfl|⟨Pc,B,k9,rfl⟩
            rotate_left
            ·by_cases s:q.mv=true
             ·unfold Bz at B;rw[if_pos s]at B;injection B with B;subst B;have a1:=tV.link (e4 s) i j V h2 k9;rw[m8,cell_of_row w' _ j _ T (0,0) v1,dj,hu]at a1;injection a1 with a1;refine⟨hM,?_⟩;rw[a1];unfold ka;rw[if_neg (fun h=>h.2 ⟨s,rfl⟩)];show _=Value.pointer (some ⟨fD G.β p a3 p,0,none⟩);rw[dX,e7 s]
             unfold Bz at B;rw[if_neg s]at B
             have c6:hY q.shape<q.cB.length:=by
              unfold BC at B;split at B
              ·assumption
              ·cases B
             have g6:ids[q.cB.length-1]? =some Pc:=by unfold BC at B;rw[if_pos c6]at B;exact B
             have l5:Pc∈ids:=bU g6;have a1:=tV.link c6 i j V h2 k9;rw[m8,cell_of_row w' _ j _ T (0,0) v1,dj,hu]at a1;injection a1 with a1;refine⟨.inl (g9 Pc l5),?_⟩;unfold ka at a1;rw[if_pos ⟨by omega,fun h=>s h.1⟩]at a1;rw[a1,F _ _ g6,c5 Pc l5]
            rw[oR]at Y;simp only[cU]at Y;obtain⟨r,hr,rfl⟩:=Y;have o2:j<V.length:=(aG.1 hr).1;have e9:cells[j]? =some (cells[j]'(by omega)):=aQ _;refine tp (C:=C.add p) (G:=G') (v4 j r u _ hr hu e9) hM (e6 _ _) ?_ f6 true;show den C.ρ (.un (.cell (0+j)) (.un (.cell (1+i)) (.var p)))=_;have e2:den C.ρ (.un (.cell (0+j)) (.un (.cell (1+i)) (.var p)))=(U.cell (0+j)).den (den C.ρ (.un (.cell (1+i)) (.var p))):=rfl;rw[e2,c9 i _ b9];simp only[U.den,D.A,ao];exact gu e9)
         (by
          intro g z hz;rcases a0 g z hz with W|i4
          ·exact .inl W
          ·obtain⟨z1,z2,e,T,t,z3,z4⟩:=i4;injection z3 with z3;subst z3;exact .inr ⟨z1,z4,fun b hb=>tV.gh g.2 b z2 hb⟩)
         (by
          intro j k y z b O hz j6 p5;rcases a0 _ _ O with⟨W,_⟩|hl1
          ·exact absurd rfl W
          ·rcases a0 _ _ hz with⟨W,_⟩|hl2
           ·exact absurd rfl W
           ·exact tV.own j k b hl1.2.1 hl2.2.1 j6 p5)
         i3 n9 n7
        refine hK _ _ _ (hs.step (o:=o) (e:=Cr) l6 (hm.congr rfl rfl) rfl o0 (by intro x hx;cases hx) ?_ m3);intro _;rw[if_pos (show aU C.ρ Cr.qW.1=true from rfl)];show wu (C.add p) w' G' (if q.new then .one (.pJ p 0) else ud true p (.un (.cell 0) (.var p)) I.res) v;cases R:q.new with
        |true=>
         rw[R]at H;simp only[if_true]at H⊢;refine⟨hM,?_⟩;rw[H.1];show _=Value.pointer (some ⟨fD G.β p a3 p,0,none⟩);rw[dX,e8 R]
        |false=>
         rw[R]at H;simp only[ai,if_false]at H⊢
         have b8:gU w' 0 G'.S τ' I.res v (den (C.add p).ρ (.un (.cell 0) (.var p))):=by show gU w' 0 S' τ' I.res v (den C.ρ _);rw[d1];exact H
         exact BW (C:=C.add p) (G:=G') b8 hM (g4 _) f6 true
       ·cases h
      ·cases h
     ·cases h
    ·cases h
   ·cases h
  ·cases h
 ·cases h
end
section
variable{P:Tap}(w:Tam)
def ye(t ty e:Tba)(i:TypeInfo)(z:Tan)(size:Nat)(D:P.underlying t=some (.slice e))(hi:P.info? e=some i)(C:i.zero=some z)(g:i.size=size)(r:z.cells.size=size)(B:Addr)(n:Nat)(xs:Tac)(f:xs.length=n*size)(holds: ∀(j:Nat) v,xs[j]? =some v->w.cell? (B.add j)=some v)(A:Tao Addr)(m c:Nat)(news:Tac)(G:A=none->m=0)(s:news.length=m*size)(h: ∀a,A=some a-> ∀(j:Nat) u,news[j]? =some u->w.cell? (a.add j)=some u)(H:0<m)(l:n+m<=maxLen)(b:(n+m)*i.bytes<=140737488355328):
  ∃q p,(Builtin.append_ #[t,t] ty #[.slice (some B) n n,.slice A m c]).run P w= .ok q p∧p.ownsRow 0 e size q (n+m) (xs++news)∧q.ownBlock=some w.heap.size∧w.grownBy p none:=by
 subst g;have o:n+m<=9223372036854775807:=by simp only[maxLen]at l;omega
 have d:(xs++news).length=(n+m)*i.size:=by rw[ah,f,s,cb]
 obtain⟨a,rfl⟩: ∃a,A=some a:=by
  cases A with
  |none=>have:=G rfl;omega
  |some a=>exact⟨a,rfl⟩
 have E:=run_append_grow (P:=P) w t ty e i z D hi C B n n xs f holds a m c news s (h a rfl) (by omega) (by omega) (growslice_fits (by omega) b);have x:=grownCap_ge w (n+m) n e;have y:grownCap w (n+m) n e<=maxLen:=grownCap_le_maxLen w (n+m) n e l;refine⟨_,_,E,⟨d,.inr ⟨w.heap.size,_,_,rfl,aC _,heap_alloc_new w.drew _,x,y,?_,?_⟩⟩,rfl,⟨rfl,rfl,rfl,by simp,fun k F _=>heap_alloc_old w.drew _ k F⟩⟩
 ·simp only[Array.size_append,bH,size_zeroCells,r,f,s,<-cb];congr 1;omega
 ·simp only[Array.toList_append,dN];rw[<-dN,<-d];exact List.take_left
end
section
variable{P:Tap}{C:Cx}{w w0:Tam}{S0:gJ}{G:Gh}{σ:St}{a:Act}{o:Tbc}{pc:dB}{s:SV}{is:List Item}{Φ:Taa}{Pre:eN}{n p:Nat}{cs:mG}
def fy(c:eW w0 S0 C G σ w)(b: ¬C.M p){g:Tag}{x:E×Tba×Ty}(h:σ.live g=some x):g.1≠p:=
 fun e=>b (e▸(c.own g x.1 x.2.1 x.2.2 h).m)
def jc.Gz{base c:Nat}{g:Tag}{e:E}{T:Tba}{t:Ty}(h:jc C w base G g e T t)(y: ∀b,(G.τ g).ownBlock=some b->c<=b):jc C w c G g e T t:=by
 obtain⟨q,l,v,d,f⟩:=h.own;refine⟨h.m,h.lt,h.has,q,l,v,⟨d.1,?_⟩,f⟩;rcases d.2 with r|⟨b,j,i,k,x,u⟩
 ·exact .inl r
 ·exact .inr ⟨b,j,i,k,y b (by rw[k];rfl),u⟩
def Du{ops:Tad}{k:Nat}{e:E}{B:dH}(T:gG n w0 S0 C G σ a w)(hp: ¬C.M p)(b4:p<C.N)(hg:guardOf ops σ o=some pc)(h:wF P cs σ pc o=some (k,e,B))(c4: ∀k B,lk cs.l k=some B->bj P k B (Pre k) (Φ k))(d2:eG C Φ Pre (.call p k e pc))(b5:(lC pc.isEmpty p B.res).lt C.N=true)(a4: ∀d,o.dst=some d->d<n)(H:List Item)(d5:S0.fr->uP P cs σ pc o=true)(d1: ¬S0.wz):
  fx P n w0 S0 C ((⟨o.dst,(pc,lC pc.isEmpty p B.res),[],if pc.isEmpty then gM p B.res else [],[],H⟩:iH).app σ) p ops a w o:=by
 intro K Q hK;obtain⟨hw,hc⟩:=fL T.t hg;rw[hw];have c0:aU C.ρ pc=false->pc.isEmpty=false:=by intro h;cases pc<;>first|rfl|(simp[aU]at h)
 cases uG:aU C.ρ pc with
 |false=>
  simp only[ai,if_false]
  have hm:eW w0 S0 (C.add p) G ((⟨o.dst,(pc,lC pc.isEmpty p B.res),[],if pc.isEmpty then gM p B.res else [],[],H⟩:iH).app σ) w:=
   (T.m.nu p).congr (dD _) (by simp only[iH.app,c0 uG,ai,if_false];exact dD _)
  exact hK _ _ _ (T.step (o:=o) (e:=⟨o.dst,(pc,lC pc.isEmpty p B.res),[],if pc.isEmpty then gM p B.res else [],[],H⟩) (dL.nu C w G p) hm rfl b5 hc
   (by intro _;simp only[uG,ai,if_false]) a4)
 |true=>
  simp only[if_true];unfold wF at h;split at h
  ·rename_i f z a8 ho;split at h
   ·rename_i fe k' fs es hf d8;split at h
    ·rename_i c a2;split at h
     ·rename_i c5;obtain⟨c9,c7,e3,c6,d0⟩:=c5;obtain⟨rfl,hE,rfl⟩:=LA h;obtain⟨f1,f2,f3⟩:=cC T.t uG hf;obtain⟨fl,b9,a1⟩:=kH.1 f3;obtain⟨R,d4,a7,d9⟩:=(b9▸f2).ug;obtain⟨k1,k2⟩:=Fi T.t uG d8;have F:=Oi a2 c4
      have c2:(den C.ρ e).A=(es.map fun x=>den C.ρ x.1)++fl:=by
       rw[<-hE,fX];simp only[D.A,ck,List.map_map];congr 1;apply fc;intro i;simp only[ab,lY,Option.map_map];cases Z:(fs.A)[i]? with
       |none=>
        have:fl.length<=i:=by rw[fU a1];exact eC.1 Z
        simp[eJ this]
       |some t=>
        obtain⟨x,r,_⟩:=cI a1 i t Z;simp only[aP,Function.comp,den,U.den,b9,D.A,ao,gu r,r]
      have O:(z.toList.map a.eval++R).length=((es.map fun x=>den C.ρ x.1)++fl).length:=by simp[k1,a7]
      have b2:(execOp a.eval o).run P w= .ok (.enter k' (z.toList.map a.eval++R).toArray) w:=by
       have e1:(z.toList.map a.eval++R).toArray=z.map a.eval++R.toArray:=by apply cW;simp
       unfold execOp;simp only[ho,resolve,d4,Deferred.ofValue,e1];have:=F.enter (z.map a.eval++R.toArray) w;simpa [invoke]using this
      unfold Oper.wp;rw[b2]
      have L: ∀(i:Nat) v d,(z.toList.map a.eval++R)[i]? =some v->((es.map fun x=>den C.ρ x.1)++fl)[i]? =some d->ca w G.S v d:=by
       intro i v d hv hd;by_cases Z:i<z.toList.length
       ·rw[aq (by simpa using Z)]at hv;rw[aq (by rw[ak,k1];exact Z)]at hd;simp only[ab,cU]at hv hd;obtain⟨x,r,rfl⟩:=hv;obtain⟨y,J,rfl⟩:=hd;exact(k2 i x y r J).1
       ·rw[aN (by simpa using Z)]at hv;rw[aN (by rw[ak,k1];omega)]at hd;simp only[ak]at hv hd;rw[k1]at hd;exact d9 _ v d hv hd
      have b8:dn (.V c.params) ((es.map fun x=>den C.ρ x.1)++fl):=by
       rw[<-c7];refine iQ (by simp[fU a1]) fun j u x I r=> ?_;by_cases Z:j<es.length
       ·rw[aq (by simpa using Z)]at I r;simp only[ab,cU]at I r;obtain⟨y,J,rfl⟩:=I;obtain⟨y',a0,rfl⟩:=r;rw[J]at a0;injection a0 with a0;subst a0;have b6:j<z.toList.length:=by rw[<-k1];exact Z
        exact(k2 j _ y (aQ b6) J).2
       ·rw[aN (by simpa using Z)]at I r;simp only[ak]at I r;obtain⟨y,J,d3⟩:=cI a1 _ u I;rw[r]at J;injection J with J;subst J;exact d3
      obtain⟨_,_,b1,b3⟩:=d2;have X:=b3 uG;rw[c2]at b1 X;refine(F.calls (by simpa using c9) w G.S _ _ T.m.dF O L b8 X).mono ?_;rintro e' w' ⟨v,S',WY,rfl,tW,hS,Bg,Nc,M8,zj,Na,abu⟩;simp only;rw[<-b1]at M8;obtain⟨A,V⟩: ∃A,A=oX c.res WY:=⟨_,rfl⟩;have a6: ∀j,j∈cK c.res->A j=WY j:=fun j I=>by rw[V];exact if_pos I
      have a3:=M8.YY;rw[<-V]at a3;have a5: ∀j b,j∈cK c.res->(A j).ownBlock=some b->w.heap.size<=b:=fun j b I hb=>zj j b I (by rw[<-a6 j I];exact hb);have c1: ∀j k b,j∈cK c.res->k∈cK c.res->(A j).ownBlock=some b->(A k).ownBlock=some b->j=k:=fun j k b I hk h1 h2=>Na j k b I hk (by rw[<-a6 j I];exact h1) (by rw[<-a6 k hk];exact h2);let G':Gh:={S:=S',β:=G.β,τ:=fun g=>if g.1=p then A g.2 else G.τ g};have b0: ∀j,G'.τ (p,j)=A j:=fun j=>if_pos rfl;have hM:(C.add p).M p:=.inr rfl;have W:gU w' 0 G'.S A c.res v ((C.add p).ρ p):=a3;have Y:=um (C:=C.add p) (G:=G') W hM b4 b0
      obtain⟨b7,hm⟩:=T.m.called hp (τ':=A) tW hS Bg Nc (eT σ.live (if pc.isEmpty then gM p c.res else [])) G' rfl
       (by
        intro g x r;unfold eT at r;split at r
        ·rename_i y J;have q:=iK J;cases LJ:pc.isEmpty with
         |false=>rw[LJ]at q;simp at q
         |true=>
          rw[LJ]at q;simp only[if_true]at q;obtain⟨q1,q2,e1,T1,t1,q3,q4⟩:=Y _ q;simp only at q1 q3 q4;rw[q3]at r;injection r with r;subst r;refine .inr ⟨q1,q4.Gz (fun b hb=>a5 g.2 b q2 ?_)⟩;have e:G'.τ g=A g.2:=if_pos q1;rw[<-e];exact hb
        ·exact .inl ⟨fy T.m hp r,r⟩)
       (by
        intro j1 j2 x y b r J e2 e0
        have a9: ∀j x,eT σ.live (if pc.isEmpty then gM p c.res else []) (p,j)=some x->j∈cK c.res:=by
         intro j x r;unfold eT at r;split at r
         ·rename_i y J;have q:=iK J;cases LJ:pc.isEmpty with
          |false=>rw[LJ]at q;simp at q
          |true=>
           rw[LJ]at q;simp only[if_true]at q;exact(Y _ q).2.1
         ·exact absurd rfl (fy T.m hp r)
        exact c1 j1 j2 b (a9 j1 x r) (a9 j2 y J) e2 e0)
       (fun d7=>by have h1:=d5 d7;unfold uP at h1;simp only[ho,hf,a2,aS]at h1;rw[V];exact M8.fresh h1.1.1 h1.2 (fun j b I hb=>.inl (aW T.m.sV (zj j b I hb))) fun j I d6=>(abu j I d6).XE fun b hb=>.inl (aW T.m.sV hb)) d1
      exact hK _ _ _ (T.step (o:=o) (e:=⟨o.dst,(pc,lC pc.isEmpty p c.res),[],if pc.isEmpty then gM p c.res else [],[],H⟩) b7 (hm.congr (dD _) rfl) rfl b5 hc
       (by intro _;simp only[uG,if_true];exact vA (C:=C.add p) (G:=G') W hM b4 b0 _ (by simpa using d0)) a4)
     ·cases h
    ·cases h
   ·cases h
  ·cases h
def ca.source{S:bz}{v:Tan}{l:Taf}{k:Nat}(h:ca w S v (.list l))(q: ∀d∈l,d.cells.length=k):
  ∃(A:Tao Addr) (c:Nat) (news:Tac),v= .slice A l.length c∧(A=none->l.length=0)∧news.length=l.length*k∧(∀g,A=some g-> ∀(j:Nat) u,news[j]? =some u->w.cell? (g.add j)=some u)∧
   ∀(i:Nat) d (j:Nat) u c,l[i]? =some d->d.cells[j]? =some c->news[i*k+j]? =some u->ca w S u c:=by
 cases h with
 |nil g cap=>exact⟨g,cap,[],rfl,fun _=>rfl,by simp,by simp,by simp⟩
 |list b off cap sz xs _ T7 tv ra hl hS hc hw hr=>
  have f:sz=k:=by
   cases F7:l with
   |nil=>exact absurd F7 tv
   |cons d r=>rw[<-hw 0 d (by rw[F7];rfl)];exact q d (by rw[F7];simp)
  subst f;refine⟨_,cap,xs,rfl,(by intro h;cases h),hl,?_,hr⟩;intro g e j u m;injection e with e;subst e;rw[fJ];exact hc j u m
def DN{N:Tai}{sv:SV}{v:Tan}{e2:E}{u:Ty}(d:zU sv=true)(b: ∀g,yl N w G.S (G.τ g))(h:wu C w G sv v)(f:ou sv=some (e2,.list u)):
  mq (ym N w G.S) v∨(u.cells.all Ty.bare)=true:=by
 cases sv with
 |one c=>
  cases c with
  |own g e t=>exact .inl (rU (C:=C) (c:=.own g e t) rfl b h)
  |mN t=>exact .inl (rU (C:=C) (c:=.mN t) rfl b h)
  |gz e t=>
   simp only[ou,asData,aa,ae]at f;obtain⟨_,rfl⟩:=f;exact .inr d
  |clip e t=>
   simp only[ou,asData,aa,ae,Ty.list.injEq]at f;obtain⟨_,rfl⟩:=f;exact .inr d
  |_=>cases d
 |_=>cases d
def AQ{ops:Tad}{g:Tao Tag}{e1 e2:E}{T:Tba}{t:Ty}{b:Nat}(hs:gG n w0 S0 C G σ a w)(hp: ¬C.M p)(hg:guardOf ops σ o=some [])(h:rI P σ [] o=some (g,e1,e2,T,t,b))(d0:eG C Φ Pre (.room [] (.bin .cat e1 e2) b))(d2: ∀d,o.dst=some d->d<n)(H:List Item)(f2:S0.fr->uP P cs σ [] o=true)(e8: ¬S0.wz):
  fx P n w0 S0 C ((⟨o.dst,([],.one (.own (p,0) (.bin .cat e1 e2) t)),[],(match g with|some g=> [(g,none)] |none=> [])++[((p,0),some (.bin .cat e1 e2,T,t))],[],H⟩:iH).app σ) p ops a w o:=by
 intro K Q hK;obtain⟨hw,hc⟩:=fL hs.t hg;rw[hw];simp only[aU,bQ,if_true];unfold rI at h;split at h
 ·rename_i d6 R ho;split at h
  ·rename_i sx x tt f9 a1 a6;split at h
   ·rename_i el sv ex u hu a7 hx;split at h
    ·rename_i ie u' e9 g4;split at h
     ·rename_i d3;obtain⟨rfl,rfl,a5,f7,a8,W,d5⟩:=d3;obtain⟨y1,y2,y3⟩:=dR hs.t (pc:=[]) rfl hx;obtain⟨l2,b3,f8,y⟩:=bL.1 y3;have c9: ∀d∈l2,d.cells.length=u.cells.length:=fun d hd=>(cd (y d hd)).1;obtain⟨A,c,I,b9,hA,a2,c6,b2⟩:=(b3▸y2).source c9
      obtain⟨z,hz,d7⟩: ∃z,ie.zero=some z∧z.cells.size=ie.size:=by
       cases hq:ie.zero with
       |none=>simp[hq]at W
       |some z=>exact⟨z,rfl,by simpa [hq]using W⟩
      have f3: ∀e0 u0,sv≠ .one (.clip e0 u0):=by rintro e0 u0 rfl;cases h
      have a4: ∀(v:Tan) (k:E) (g':Tao Tag),a.eval sx=v->k.lt C.N=true->(∃V xs,den C.ρ k= .list V∧(∀d∈V,Has u d)∧w.ownsRow 0 el u.cells.length v V.length xs∧
        (∀(i:Nat) d (j:Nat) u' c,V[i]? =some d->d.cells[j]? =some c->xs[i*u.cells.length+j]? =some u'->ca w G.S u' c)∧
        (v= .slice none 0 0∧g'=none∨ ∃g x,g'=some g∧σ.live g=some x∧G.τ g=v∧ ∀b,v.ownBlock=some b->(∀o,G.S b o↔Tag.ex (p,0)=false∧o<xs.length)))->
        eG C Φ Pre (.room [] (.bin .cat k ex) ie.bytes)->
        (∀a' w' G',gG n w0 S0 (C.add p) G' ((⟨o.dst,([],.one (.own (p,0) (.bin .cat k ex) u)),[],(match g' with|some g=> [(g,none)] |none=> [])++[((p,0),some (.bin .cat k ex,el,u))],[],H⟩:iH).app σ) a' w'->K a' w')->
        o.wp P a w K Q:=by
       rintro v k g' hv O ⟨V,xs,a3,F,r,hxr,hold⟩ M7 hK;have a0:den C.ρ (.bin .cat k ex)= .list (V++l2):=by simp only[den,B.den,a3,b3,D.A]
       obtain⟨g5,e4⟩:=M7;have J:=e4 rfl;rw[a0]at J;simp only[D.A,ah]at J
       have c5: ∀w∈I,w.oneCell'=true:=by
        intro uu d9;obtain⟨q,hq⟩:=aw d9;have e6:q<I.length:=(aG.1 hq).1;have c1:0<u.cells.length:=by omega
        have hi:q/u.cells.length<l2.length:=by rw[fq c1,<-a2];exact e6
        have hj:q % u.cells.length<u.cells.length:=Nat.mod_lt _ c1;have hd:l2[q/u.cells.length]? =some (l2[q/u.cells.length]'hi):=aQ hi;have e3:u.cells[q % u.cells.length]? =some (u.cells[q % u.cells.length]'hj):=aQ hj;obtain⟨cc,f4,d4⟩:=(cd (y _ (bU hd))).2 _ _ e3;have e5:q/u.cells.length*u.cells.length+q % u.cells.length=q:=by rw[Nat.mul_comm];exact Nat.div_add_mod _ _
        exact(b2 _ _ _ uu cc hd f4 (by rw[e5];exact hq)).hZ d4 (bY.1 a8 _ (aF hj))
       obtain⟨v',w',c4,a9,b7⟩:=ja (P:=P) w 0 tt o.type el ie z u.cells.length hu e9 hz a5.symm (by rw[d7,a5]) v V.length xs r A l2.length c I hA a2 c6 c5 J.1 J.2 (aC _)
       have b5:(execOp a.eval o).run P w= .ok (.value v') w':=by
        have f6:d6= #[sx,x] :=by apply cW;simpa using a1
        have f5:R= #[tt,tt] :=by apply cW;simpa using a6
        unfold execOp;simp only[ho,resolve,invoke,builtin,f6,f5];simp[hv,b9,c4]
       unfold Oper.wp;rw[b5]
       have f0: ∀g,g'=some g->g≠(p,0):=by
        intro g L he;rcases hold with⟨_,h2⟩|⟨g0,x0,h2,h3,_⟩
        ·rw[h2]at L;cases L
        ·rw[h2]at L;injection L with L;subst L;subst he;exact fy hs.m hp h3 rfl
       obtain⟨G',c7,hm,b8⟩:=hs.m.appended hp 0 (v:=v) (v':=v') (T:=el) (t:=u) (n:=V.length) (m:=l2.length) (xs:=xs) (news:=I) (l:=V) (l2:=l2) (e2:=.bin .cat k ex)
        (by omega) rfl rfl hxr b2 (fun d hd=>(cd (F d hd)).1) r.1 a9 b7 (eT σ.live ((match g' with|some g=> [(g,none)] |none=> [])++[((p,0),some (.bin .cat k ex,el,u))]))
        (by
         rcases hold with⟨U,_⟩|⟨g0,x0,h2,h3,h4,h5⟩
         ·exact .inl U
         ·refine .inr ⟨g0,x0,h3,h4,?_,fun b hb=>⟨h5 b hb,fun o' u' e7=> ?_⟩⟩
          ·rw[h2];simp[eT,lk]
          ·have:=r.cells (g:=b) hb o' u' e7;rw[fJ,ao]at this;exact this)
        (by simp[E.lt,O,y1]) a0 (by rw[a0];exact bL.2 ⟨_,rfl,⟨by simpa using J.1,by rw[<-d5];simpa using J.2⟩,fun d hd=>by rcases aI.1 hd with h|h;exact F d h;exact y d h⟩)
        (by
         intro g0 x0 f;unfold eT at f;cases g' with
         |none=>
          simp only[cX,lk]at f;by_cases he:g0=(p,0)
          ·rw[if_pos he]at f;simp only[aa]at f;exact .inr ⟨he,f.symm⟩
          ·rw[if_neg he]at f;exact .inl ⟨he,f⟩
         |some g1=>
          simp only[dU,cX,lk]at f;by_cases O:g0=g1
          ·rw[if_pos O]at f;cases f
          ·rw[if_neg O]at f;by_cases he:g0=(p,0)
           ·rw[if_pos he]at f;simp only[aa]at f;exact .inr ⟨he,f.symm⟩
           ·rw[if_neg he]at f;exact .inl ⟨he,f⟩)
        (fun d1=>⟨rfl,(by
         intro hn u0 c2;rcases r.2 with⟨_,U⟩|⟨b0,ahz,ahx,U,_⟩
         ·have:=r.1;rw[U,Nat.zero_mul]at this;rw[an this]at c2;simp at c2
         ·rw[hn]at U;cases U),(by
         have U:=f2 d1;unfold uP at U;simp only[ho,a1,a6]at U;cases hxs:fP P σ [] x tt with
         |none=>rw[fp,hxs]at hx;cases hx
         |some xv=>
          have d8:ou xv=some (ex,.list u):=by rw[fp,hxs]at hx;exact hx
          have h2:(u.cells.all Ty.bare)=true∨zU xv=true:=by
           rw[a7,hxs]at U;cases sv with
           |one c0=>cases c0 with
            |clip e0 u0=>exact absurd rfl (f3 _ _)
            |_=>exact .inr U
           |_=>exact .inr U
          have h3:mq (ym (ji w0 S0) w G.S) (a.eval x)∨(u.cells.all Ty.bare)=true:=by
           rcases h2 with h2|h2
           ·exact .inr h2
           ·exact DN h2 (hs.m.fresh d1) (cC hs.t (pc:=[]) rfl hxs) d8
          rcases h3 with h3|h3
          ·exact HU h3 (b3▸y2) c9 b9 a2 c6
          ·exact oz h3 (by omega) y a2 b2)⟩) e8
       have X:=hm.own (p,0) (.bin .cat k ex) el u (by
        show eT σ.live _ (p,0)=_;unfold eT;cases g' with
        |none=>simp[lk]
        |some g1=>simp[lk,Ne.symm (f0 g1 rfl)])
       exact hK _ _ _ (hs.step (o:=o) (e:=⟨o.dst,([],.one (.own (p,0) (.bin .cat k ex) u)),[],(match g' with|some g=> [(g,none)] |none=> [])++[((p,0),some (.bin .cat k ex,el,u))],[],H⟩) c7 (hm.congr (dD _) rfl) rfl
        (by simp[SV.lt,SC.lt,E.lt,O,y1]) (by simp)
        (by intro _;simp only[aU,bQ,if_true];refine⟨.inr rfl,by simp[E.lt,O,y1,Cx.add],?_,X.has,b8.symm⟩;have:=X.rep (by omega);rw[b8]at this;exact this) d2)
      split at h
      ·rename_i v;split at h
       ·rename_i g3;obtain⟨rfl,rfl,rfl,rfl,rfl,rfl⟩:=WZ h;have hv:=cC hs.t (pc:=[]) rfl a7;refine a4 (.slice none 0 0) .nil none hv rfl ⟨[],[],rfl,by simp,fb w _ _ _,by simp,.inl ⟨rfl,rfl⟩⟩ d0 hK
       ·cases h
      ·rename_i g0 e0 v;split at h
       ·rename_i k T' v' Y;split at h
        ·rename_i b6;obtain⟨rfl,rfl,rfl,f1⟩:=b6;obtain⟨rfl,rfl,rfl,rfl,rfl,rfl⟩:=WZ h;have hv:=cC hs.t (pc:=[]) rfl a7;have b1:=hs.m.own _ _ _ _ Y;obtain⟨xs,V,a3,r,b4,hr⟩:=b1.own;have hh:=b1.has;rw[a3]at hh;obtain⟨g2,Z,_,F⟩:=bL.1 hh;injection Z with Z;subst Z;exact a4 (G.τ g0) k (some g0) hv.2.2.2.2 b1.lt ⟨V,xs,a3,F,r,hr,.inr ⟨g0,_,rfl,Y,rfl,fun b hb o=>(b4 b hb o).trans (by rw[f1];rfl)⟩⟩ d0 hK
        ·cases h
       ·cases h
      ·cases h
     ·cases h
    ·cases h
   ·cases h
  ·cases h
 ·cases h
def yc{ops:Tad}{e1 e2:E}{T:Tba}{t:Ty}{b:Nat}(hs:gG n w0 S0 C G σ a w)(hp: ¬C.M p)(hg:guardOf ops σ o=some [])(h:ng P σ o=some (e1,e2,T,t,b))(e3:eG C Φ Pre (.room [] (.bin .cat e1 e2) b))(c0:eG C Φ Pre (.kq [] (.bin .lt (.aR .i64 0) (.un .len e2))))(c4: ∀d,o.dst=some d->d<n)(J:List Item)(e4:S0.fr->uP P cs σ [] o=true)(d8: ¬S0.wz):
  fx P n w0 S0 C ((⟨o.dst,([],.one (.own (p,0) (.bin .cat e1 e2) t)),[],[((p,0),some (.bin .cat e1 e2,T,t))],[],J⟩:iH).app σ) p ops a w o:=by
 intro K Q hK;obtain⟨hw,hc⟩:=fL hs.t hg;rw[hw,if_pos (show aU C.ρ [] =true from rfl)];unfold ng at h;split at h
 ·rename_i d0 H ho;split at h
  ·rename_i sx x tt f3 R a0;split at h
   ·rename_i el F v ex u hu b4 hx;split at h
    ·rename_i ie u' c2 f4;split at h
     ·rename_i c5;obtain⟨rfl,rfl,y,f0,a2,L,c9,rfl⟩:=c5;obtain⟨rfl,rfl,rfl,rfl,rfl⟩:=zP5 h;obtain⟨y1,y2,y3⟩:=dR hs.t (pc:=[]) rfl hx;obtain⟨x1,x2,x3,ad,a1⟩:=cC hs.t (pc:=[]) rfl b4;obtain⟨S,a7,f2,r⟩:=bL.1 x3;obtain⟨I,a6,f1,i⟩:=bL.1 y3;have b9: ∀d∈S,d.cells.length=v.cells.length:=fun d Z=>(cd (r d Z)).1;have e0: ∀d∈I,d.cells.length=v.cells.length:=fun d Z=>(cd (i d Z)).1;obtain⟨A1,c1,xs,Y,e9,W,d2,b2⟩:=(a7▸x2).source b9;obtain⟨A,c,f,d1,hA,X,b7,a5⟩:=(a6▸y2).source e0
      obtain⟨z,hz,b1⟩: ∃z,ie.zero=some z∧z.cells.size=ie.size:=by
       cases hq:ie.zero with
       |none=>simp[hq]at L
       |some z=>exact⟨z,rfl,by simpa [hq]using L⟩
      have O:den C.ρ (.bin .cat F ex)= .list (S++I):=by simp only[den,B.den,a7,a6,D.A]
      obtain⟨f5,d5⟩:=e3;have k:=d5 rfl;rw[O]at k;simp only[D.A,ah]at k
      have d9:0<I.length:=by have:=c0.2 rfl;simp only[den,B.den,U.den,a6,D.q,D.Y,D.A,bk]at this;omega
      have c7:a.eval sx= .slice A1 S.length S.length:=by rw[a7]at a1;simp only[D.A]at a1;rw[a1]at Y⊢;injection Y with h1 h2 h3;rw[h1]
      have b6: ∀w∈f,w.oneCell'=true:=by
       intro uu d3;obtain⟨q,hq⟩:=aw d3;have d7:q<f.length:=(aG.1 hq).1;have b3:0<v.cells.length:=by omega
       have hi:q/v.cells.length<I.length:=by rw[fq b3,<-X];exact d7
       have hj:q % v.cells.length<v.cells.length:=Nat.mod_lt _ b3;have Z:I[q/v.cells.length]? =some (I[q/v.cells.length]'hi):=aQ hi;have d4:v.cells[q % v.cells.length]? =some (v.cells[q % v.cells.length]'hj):=aQ hj;obtain⟨cc,e6,c6⟩:=(cd (i _ (bU Z))).2 _ _ d4;have d6:q/v.cells.length*v.cells.length+q % v.cells.length=q:=by rw[Nat.mul_comm];exact Nat.div_add_mod _ _
       exact(a5 _ _ _ uu cc Z e6 (by rw[d6];exact hq)).hZ c6 (bY.1 a2 _ (aF hj))
      obtain⟨V,w',b5,a4,a9⟩: ∃V w',(Builtin.append_ #[tt,tt] o.type #[.slice A1 S.length S.length,.slice A I.length c]).run P w= .ok V w'∧w'.ownsRow 0 el v.cells.length V (S.length+I.length) (xs++f)∧
        ((V.ownBlock=(Value.slice none 0 0).ownBlock∧w.grownBy w' (Value.slice none 0 0).ownBlock)∨(V.ownBlock=some w.heap.size∧w.grownBy w' none)):=by
       cases A1 with
       |none=>
        have h0:=e9 rfl;have g:xs=[] :=an (by rw[W,h0];simp);rw[h0,g];have a3:=k;rw[h0]at a3;exact ja (P:=P) w 0 tt o.type el ie z v.cells.length hu c2 hz y.symm (by rw[b1,y]) (.slice none 0 0) 0 [] (fb w _ _ _) A I.length c f hA X b7 b6 a3.1 a3.2 (aC _)
       |some ad1=>
        obtain⟨V,w',q1,q2,q3,q4⟩:=ye (P:=P) w tt o.type el ie z v.cells.length hu c2 hz y.symm (by rw[b1,y]) ad1 S.length xs W (fun j u hj=>d2 ad1 rfl j u hj) A I.length c f hA X b7 d9 k.1 k.2;exact⟨V,w',q1,q2,.inr ⟨q3,q4⟩⟩
      have a8:(execOp a.eval o).run P w= .ok (.value V) w':=by
       have e8:d0= #[sx,x] :=by apply cW;simpa using R
       have e7:H= #[tt,tt] :=by apply cW;simpa using a0
       unfold execOp;simp only[ho,resolve,invoke,builtin,e8,e7];simp[c7,d1,b5]
      unfold Oper.wp;rw[a8]
      obtain⟨G',b8,hm,b0⟩:=hs.m.appended hp 0 (v:=.slice none 0 0) (v':=V) (T:=el) (t:=v) (n:=S.length) (m:=I.length) (xs:=xs) (news:=f) (l:=S) (l2:=I) (e2:=.bin .cat F ex)
       (by omega) rfl rfl b2 a5 b9 W a4 a9 (eT σ.live [((p,0),some (.bin .cat F ex,el,v))]) (.inl rfl)
       (by simp[E.lt,x1,y1]) O (by rw[O];exact bL.2 ⟨_,rfl,⟨by simpa using k.1,by rw[<-c9];simpa using k.2⟩,fun d Z=>by rcases aI.1 Z with h|h;exact r d h;exact i d h⟩)
       (by
        intro g0 x0 g;unfold eT at g;simp only[lk]at g;by_cases he:g0=(p,0)
        ·rw[if_pos he]at g;simp only[aa]at g;exact .inr ⟨he,g.symm⟩
        ·rw[if_neg he]at g;exact .inl ⟨he,g⟩)
       (fun e5=>by have h1:=e4 e5;unfold uP at h1;simp only[ho,R,a0,b4]at h1;exact⟨rfl,fun _=>oz h1 (by omega) r W b2,oz h1 (by omega) i X a5⟩) d8
      have N:=hm.own (p,0) (.bin .cat F ex) el v (by show eT σ.live _ (p,0)=_;unfold eT;simp[lk])
      exact hK _ _ _ (hs.step (o:=o) (e:=⟨o.dst,([],.one (.own (p,0) (.bin .cat F ex) v)),[],[((p,0),some (.bin .cat F ex,el,v))],[],J⟩) b8 (hm.congr (dD _) rfl) rfl
       (by simp[SV.lt,SC.lt,E.lt,x1,y1]) (by simp)
       (by intro _;simp only[aU,bQ,if_true];refine⟨.inr rfl,by simp[E.lt,x1,y1,Cx.add],?_,N.has,b0.symm⟩;have:=N.rep (by omega);rw[b0]at this;exact this) c4)
     ·cases h
    ·cases h
   ·cases h
  ·cases h
 ·cases h
end
end Go.dI
