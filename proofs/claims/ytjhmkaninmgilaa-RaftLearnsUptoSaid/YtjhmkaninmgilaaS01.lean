/- Part 1 of the proof of RaftLearns; no condition. -/
import Derived.Test.YtjhmkaninmgilaaS00
set_option linter.defProp false
set_option linter.unusedVariables false
set_option linter.unusedSimpArgs false
set_option maxHeartbeats 4000000
open Go.IntKind (i64)
namespace Go.dF
open Go Go.RowKit
def lk{a β:Type}[DecidableEq a]:List (a×β)->a->Tao β
 |[],_=>none
 |(k,v)::r,x=>if x=k then some v else lk r x
structure jh where
 dst:Tak
 tW:dM×SV
 hp:List (Nat×Tao (Bool×List SC))
 live:List (Tag×Tao (E×Tba×Ty))
 rd:Tah
 items:List Item
def fx{a β:Type}[DecidableEq a](h:a->β)(l:List (a×β)):a->β:=fun x=>match lk l x with
 |some v=>v
 |none=>h x
def jh.app(e:jh)(σ:St):St:=
 ⟨match e.dst with|some d=>fC σ.tm d (some e.tW)|none=>σ.tm,fx σ.hp e.hp,fx σ.live e.live⟩
def guardOf(ops:Tad)(σ:St)(o:Tbc):Tao dM:=
 match o.guard with
 |none=>some []
 |some (j,want)=>
  match (ops[j]?).bind (·.dst) with
  |some t=>match σ.tm t with
   |some (c,.one (.gH e .bool))=>some ((e,want)::c)
   |_=>none
  |none=>none
def Df(P:Tap)(σ:St)(pc:dM)(o:Tbc):Tao (Pl×Tah):=
 match o.op with
 |.lookup T m x false=>
  match gp P σ pc m T,fA P σ pc x 0 with
  |some (.one (.C0 id)),some (ek,kt)=>
   match σ.hp id with
   |some (_,cs)=>match mapOf cs with
    |some (e,kt',T')=>if kt'=kt/\T'=T then some ((.one (.gH (.bin .has e ek) .bool),[]),[id]) else none
    |none=>none
   |none=>none
  |_,_=>none
 |_=>none
def qI(P:Tap)(σ:St)(pc:dM)(o:Tbc):Tao (Pl×Tah):=
 match o.op with
 |.load .. =>Dg P σ pc o
 |.move _| .assign _=>(zA P σ pc o).map (·,[])
 |.pick .. =>(De P σ pc o).map (·,[])
 |.binOp .. =>(Dh P σ pc o).map (·,[])
 |.unOp .. | .convert .. =>(Mw P σ pc o).map (·,[])
 |.extract .. =>(tK P σ pc o).map (·,[])
 |.fieldAddr .. =>(py P σ pc o).map (·,[])
 |.field .. =>(zb P σ pc o).map (·,[])
 |.indexAddr .. =>(px P σ pc o).map (·,[])
 |.nilCheck _=>(JI P σ pc o).map (·,[])
 |.slice _ _ _ _ none=>(y9 P σ pc o).map (·,[])
 |.slice .. =>(v8 P σ pc o).map (·,[])
 |.build .. =>(zc P σ pc o).map (·,[])
 |.lookup .. =>Df P σ pc o
 |.call {callee:=.builtin .len,.. }| .call {callee:=.builtin .min,.. }| .call {callee:=.builtin .max,.. }=>(B0 P σ pc o).map (·,[])
 |_=>none
def zo(P:Tap)(σ:St)(pc:dM)(o:Tbc):Tao (List SC):=
 match o.op with
 |.alloc t=>
  match flat P Fe t,(P.info? t).bind (·.zero) with
  |some ts,some z=>ml ts z.cells.toList
  |none,some z=>(match z.cells.toList with| [.map none]=>some [.Ha] |_=>none)
  |_,_=>none
 |.box t x=>(gp P σ pc x t).bind mA
 |_=>none
def vO(P:Tap)(σ:St)(pc:dM)(o:Tbc):Tao (Nat×List SC):=
 match o.op with
 |.store t x y=>
  match gp P σ pc x t,(gp P σ pc y t).bind mA,iy P t with
  |some (.one (.qo id off)),some cs,some n=>
   match σ.hp id with
   |some (false,P2)=>if mapOf P2=none/\cs.length=n/\off+cs.length<=P2.length then some (id,P2.take off++cs++P2.drop (off+cs.length)) else none
   |_=>none
  |_,_,_=>none
 |_=>none
def rU(P:Tap)(σ:St)(pc:dM):List Tbb->Tao (List (E×Ty)×List (Nat×List SC))
 |[]=>some ([],[])
 |x::r=>
  match gp P σ pc x 0,rU P σ pc r with
  |some (.one (.qo id 0)),some (es,fz)=>
   match σ.hp id with
   |some (_,cs)=>match gZ cs with
    |some (ds,ts)=>some ((.un .qv (.V ds),.box (.V ts))::es,(id,cs)::fz)
    |none=>none
   |none=>none
  |some (.one (.gH e (.box fs))),some (es,fz)=>some ((e,.box fs)::es,fz)
  |_,_=>none
def Mx(P:Tap)(σ:St)(pc:dM)(o:Tbc):Tao (E×Ty×List (Nat×List SC)):=
 match o.op with
 |.makeFunc (.func f) first captured=>
  if first.toList.isEmpty then
   match rU P σ pc captured.toList with
   |some (es,fz)=>some (.un (.fnc f) (.V (es.map (·.1))),.fn f (.V (es.map (·.2))),fz)
   |none=>none
  else none
 |_=>none
def xU(P:Tap)(σ:St)(pc:dM):List Tbb->List Tba->Tao (List (E×Ty))
 |[],[]=>some []
 |x::r,t::ts=>match fA P σ pc x t,xU P σ pc r ts with
  |some e,some es=>some (e::es)
  |_,_=>none
 |_,_=>none
def oc(own:Bool)(p:Nat)(e:E):bF->SC
 |(t,none)=>.gH e t
 |(t,some (j,_))=>if own then(if BA j then .xo (p,j) t else .own (p,j) e t) else .gH e (.list t)
def lG(own:Bool)(p:Nat)(e:E):Nat->List bF->List SC
 |_,[]=>[]
 |j,c::r=>oc own p (.un (.cell j) e) c::lG own p e (j+1) r
def zU(own:Bool)(p:Nat)(e:E)(c:Bool×List bF):Bool×List SC:=
 (c.1,if c.1 then lG own p e 0 c.2 else c.2.map (oc own p e))
def nq(own:Bool)(p:Nat)(e:E):Nat->List (Bool×List bF)->List (Bool×List SC)
 |_,[]=>[]
 |j,c::r=>zU own p (.un (.cell j) e) c::nq own p e (j+1) r
def uL(own:Bool)(p:Nat)(e:E):List (Bool×List bF)->SV
 | [c]=>match zU own p e c with
  |(true,l)=>.agg l
  |(false,l)=>.one (l.headD (.oJ .nil))
 |cs=>.ff (nq own p e 0 cs)
def nT(own:Bool)(p:Nat)(a:List (Bool×List bF)):SV:=uL own p (.var p) a
def kE(p:Nat)(e:E):bF->List (Tag×Tao (E×Tba×Ty))
 |(_,none)=>[]
 |(t,some (j,T))=>[((p,j),some (e,T,t))]
def me(p:Nat)(e:E):Nat->List bF->List (Tag×Tao (E×Tba×Ty))
 |_,[]=>[]
 |j,c::r=>kE p (.un (.cell j) e) c++me p e (j+1) r
def sw(p:Nat)(e:E)(c:Bool×List bF):List (Tag×Tao (E×Tba×Ty)):=
 if c.1 then me p e 0 c.2 else c.2.flatMap (kE p e)
def nM(p:Nat)(e:E):Nat->List (Bool×List bF)->List (Tag×Tao (E×Tba×Ty))
 |_,[]=>[]
 |j,c::r=>sw p (.un (.cell j) e) c++nM p e (j+1) r
def od(p:Nat)(e:E):List (Bool×List bF)->List (Tag×Tao (E×Tba×Ty))
 | [c]=>sw p e c
 |cs=>nM p e 0 cs
def gO(p:Nat)(a:List (Bool×List bF)):List (Tag×Tao (E×Tba×Ty)):=od p (.var p) a
def KO(a:List (Bool×List bF)):Bool:=a.all fun c=>c.2.all fun x=>match x.2 with|some (j,_)=> !BA j|none=>true
def cU(a:List (Bool×List bF)):Tah:=a.flatMap fun c=>c.2.filterMap fun x=>x.2.map (·.1)
def qC:bF->bF
 |(t,some (j,T))=>(t,some (j+1000,T))
 |c=>c
def vI(a:List (Bool×List bF)):List (Bool×List bF):=a.map fun c=>(c.1,c.2.map qC)
def zv(s:dL):dL:={s with res:=vI s.res}
def Ty.bare:Ty->Bool
 |.int _| .bool| .str=>true
 |_=>false
def bF.bare:bF->Bool
 |(t,none)=>t.bare
 |(t,some _)=>t.cells.all Ty.bare
def zg(a:List (Bool×List bF)):Bool:=a.all fun c=>c.2.all bF.bare
def acK(cs:ni):Tak->Bool
 |some d=>cs.ex.contains d
 |none=>false
def BY(cs:ni)(dst:Tak)(k:Nat):Tao dL:=
 match lk cs.l k with
 |some s=>if acK cs dst=true/\s.ob=none/\zg s.res=true then some (zv s) else some s
 |none=>none
def xb(P:Tap)(cs:ni)(σ:St)(pc:dM)(o:Tbc):Tao (Nat×E×dL):=
 match o.op with
 |.call {callee:=.value f,args,argTypes}=>
  match gp P σ pc f 0,xU P σ pc args.toList argTypes.toList with
  |some (.one (.gH fe (.fn k fs))),some es=>
   match BY cs o.dst k with
   |some sig=>
    if sig.ob.isNone=true/\es.map (·.2)++fs.A=sig.params/\(cU sig.res).Nodup/\(sig.res.all fun c=>c.1||c.2.length==1)=true/\(pc.isEmpty||KO sig.res)=true then
     some (k,.V (es.map (·.1)++(jx fe 0 fs.A).map (·.1)),sig)
    else none
   |none=>none
  |_,_=>none
 |_=>none
def kY:List (Tao Tag)->Bool
 |[]=>true
 |none::r=>kY r
 |some g::r=> !r.contains (some g)&&kY r
abbrev lj:=List (Nat×Tao Tag)
def jC(σ:St):bF->SC->Tao (E×lj)
 |(t,none),c=>match asData c with
  |some (e,t')=>if t'=t then some (e,[]) else none
  |none=>match c with
   |.qo _ 0=>if t=.box .nil then some (.un .qv .nil,[]) else none
   |_=>none
 |(t,some (j,T)),c=>match c with
  |.oJ t'=>if t'=t/\0<t.cells.length then some (.nil,[(j,none)]) else none
  |.own g _ t'=>match σ.live g with
   |some (e,T',t'')=>if t'=t/\t''=t/\T'=T/\0<t.cells.length/\g.ex=false/\BA j=false then some (e,[(j,some g)]) else none
   |none=>none
  |.xo g t'=>match σ.live g with
   |some (e,T',t'')=>if t'=t/\t''=t/\T'=T/\0<t.cells.length/\g.ex=true/\BA j=true then some (e,[(j,some g)]) else none
   |none=>none
  |_=>none
def gy(σ:St):List bF->List SC->Tao (List E×lj)
 |[],[]=>some ([],[])
 |r::rs,c::cs=>match jC σ r c,gy σ rs cs with
  |some (e,l),some (es,ls)=>some (e::es,l++ls)
  |_,_=>none
 |_,_=>none
def kL{σ:St}{a:List bF}{cs:List SC}{x:List E×lj}(h:gy σ a cs=some x):mapOf cs=none:=by
 unfold mapOf;split
 .cases a with
  |nil=>simp[gy]at h
  |cons r rs=>
   obtain⟨t,o⟩:=r;cases o<;>simp[gy,jC,asData]at h
 rfl
def pK(l:lj):Bool:=kY (l.map (·.2))&&decide ((l.map (·.1)).Nodup)
def ET:bF->Ty
 |(t,none)=>t
 |(t,some _)=>.list t
def E5(a:List bF):Tah:=a.filterMap fun x=>x.2.map (·.1)
def Ob.jH(ob:Ob):Tah:=ob.cH.flatMap E5
def kP(a:dL)(ob:Ob):Tah:=cU a.res++ob.outs.flatMap E5
def lu(P:Tap)(σ:St)(pc:dM):List Bool->List Tbb->List Tba->Tao (List (E×Ty)×Tah)
 |[],[],[]=>some ([],[])
 |false::sh,x::r,t::ts=>match fA P σ pc x t,lu P σ pc sh r ts with
  |some e,some (es,ids)=>some (e::es,ids)
  |_,_=>none
 |true::sh,x::r,t::ts=>match gp P σ pc x t,lu P σ pc sh r ts with
  |some (.one (.qo id 0)),some (es,ids)=>some (es,id::ids)
  |_,_=>none
 |_,_,_=>none
def ug(σ:St):List (List bF)->Tah->Tao (List (List E)×lj)
 |[],[]=>some ([],[])
 |rc::r,id::ids=>match σ.hp id with
  |some (false,cs)=>match gy σ rc cs,ug σ r ids with
   |some (es,l),some (YJ,ls)=>some (es::YJ,l++ls)
   |_,_=>none
  |_=>none
 |_,_=>none
def ij(l:List Bool):Nat:=(l.filter fun b=>b).length
def Jq:bF:=(.box .nil,none)
def Iq:List bF->List SC->Tak
 |r::rs,c::cs=>if r=Jq then(match c with
  |.qo id 0=>some id
  |_=>none) else Iq rs cs
 |_,_=>none
def nX(σ:St)(ob:Ob)(ids:Tah):Tah:=
 if ij ob.shape<ob.cH.length then
  match ob.cH,ids with
  |rc::_,id::_=>match σ.hp id with
   |some (_,cs)=>ids++(Iq rc cs).toList
   |none=>ids
  |_,_=>ids
 else ids
def B3(ob:Ob)(ids:Tah):Tak:=if ij ob.shape<ob.cH.length then ids[ob.cH.length-1]? else none
def B4(l:Nat):List bF->List SC->Bool
 |r::rs,c::cs=>(decide (r≠Jq)||decide (c=.qo l 0))&&B4 l rs cs
 |_,_=>true
def yH(σ:St):List (List bF)->Tah->Tak->Bool
 |rc::r,id::ids,some l=>(match σ.hp id with
  |some (_,cs)=>B4 l rc cs
  |none=>true)&&yH σ r ids (some l)
 |_,_,_=>true
def uE(lk:Tak):List bF->List SC->List SC
 |r::rs,c::cs=>(match lk with
  |some id=>if r=Jq then .qo id 0 else c
  |none=>c)::uE lk rs cs
 |_,cs=>cs
def AE(lk:Tak):∀(a:List bF) (cs:List SC),(uE lk a cs).length=cs.length
 |[],cs=>by simp[uE]
 |_::_,[]=>by simp[uE]
 |r::a,c::cs=>by simp[uE,AE lk a cs]
def sr{lk:Tak}:∀{a:List bF} {cs:List SC} {i:Nat} {c:SC},(uE lk a cs)[i]?=some c->∃b,cs[i]?=some b/\(c=b\/∃id,lk=some id/\a[i]?=some Jq/\c=.qo id 0)
 |[],cs,i,c,h=>⟨c,by simpa [uE]using h,.inl rfl⟩
 |_::_,[],i,c,h=>by simp[uE]at h
 |r::a,c1::cs,0,c,h=>by
  simp only[uE,du,aa]at h;refine⟨c1,rfl,?_⟩;split at h
  .rename_i id;split at h
   .rename_i d;subst d;exact .inr ⟨id,rfl,rfl,h.symm⟩
   exact .inl h.symm
  exact .inl h.symm
 |r::a,c1::cs,i+1,c,h=>by simp only[uE,dw]at h;obtain⟨b,f,e⟩:=sr h;exact⟨b,by simpa using f,by simpa using e⟩
def xz{l:Nat}:∀{a:List bF} {cs:List SC} {i:Nat} {c:SC},B4 l a cs=true->a[i]?=some Jq->cs[i]?=some c->c=.qo l 0
 |[],_,i,c,_,h,_=>by simp at h
 |_::_,[],i,c,_,_,h=>by simp at h
 |r::a,c1::cs,0,c,h,h1,h2=>by simp only[du,aa]at h1 h2;subst h1 h2;simp only[B4,aT,bW,bk]at h;exact h.1.resolve_left (fun b=>b rfl)
 |r::a,c1::cs,i+1,c,h,h1,h2=>by simp only[B4,aT]at h;exact xz h.2 (by simpa using h1) (by simpa using h2)
def Au{σ:St}{l:Nat}:∀{rcs:List (List bF)} {ids:Tah} {o:Nat} {a:List bF} {id:Nat} {ro:Bool} {cs:List SC},yH σ rcs ids (some l)=true->rcs[o]?=some a->ids[o]?=some id->σ.hp id=some (ro,cs)->B4 l a cs=true
 |[],_,o,a,id,ro,cs,_,h,_,_=>by simp at h
 |_::_,[],o,a,id,ro,cs,_,_,h,_=>by simp at h
 |r::rs,i::is,0,a,id,ro,cs,h,h1,h2,h3=>by simp only[du,aa]at h1 h2;subst h1 h2;simp only[yH,h3,aT]at h;exact h.1
 |r::rs,i::is,o+1,a,id,ro,cs,h,h1,h2,h3=>by simp only[yH,aT]at h;exact Au h.2 (by simpa using h1) (by simpa using h2) h3
def P3(lk:Tak)(p:Nat):Nat->Tah->List (List bF)->List (Nat×Tao (Bool×List SC))
 |k,id::ids,rc::r=>(id,some (false,uE lk rc (lG true p (.un (.cell k) (.var p)) 0 rc)))::P3 lk p (k+1) ids r
 |_,_,_=>[]
def xP(p:Nat):Nat->List (List bF)->List (Tag×Tao (E×Tba×Ty))
 |k,rc::r=>me p (.un (.cell k) (.var p)) 0 rc++xP p (k+1) r
 |_,[]=>[]
def ly(ob:Ob)(ids:Tah)(p:Nat):Tah:=if ob.mv then ids.take (ob.cH.length-1)++[p] else ids++if ob.new then [p] else []
def BZ(ob:Ob)(ids:Tah)(p:Nat):Tak:=if ob.mv then some p else B3 ob ids
def Z8:bF->Bool
 |(t,none)=>t.scalar
 |_=>true
structure oZ where
 k:Nat
 args:E
 sig:dL
 ob:Ob
 ids:Tah
 own:lj
def iQ(P:Tap)(cs:ni)(σ:St)(pc:dM)(o:Tbc):Tao oZ:=
 match o.op with
 |.call {callee:=.value f,args,argTypes}=>
  match gp P σ [] f 0 with
  |some (.one (.gH _ (.fn k .nil)))=>
   match lk cs.l k with
   |some sig=>
    match sig.ob with
    |some ob=>
     match lu P σ pc ob.shape args.toList argTypes.toList with
     |some (es,ids)=>
      match ug σ ob.cH (nX σ ob ids) with
      |some (YJ,l)=>
       if es.map (·.2)++ob.cH.flatten.map ET=sig.params/\(nX σ ob ids).Nodup/\pK l=true/\(kP sig ob).Nodup/\(sig.res.all fun c=>c.1||c.2.length==1)=true/\
         ob.outs.length=(nX σ ob ids).length+ob.new.toNat/\(ob.outs.all fun a=>a.all Z8)=true/\(nX σ ob ids).length=ob.cH.length/\yH σ ob.cH (nX σ ob ids) (B3 ob (nX σ ob ids))=true/\(ob.mv=true->ij ob.shape<ob.cH.length) then
        some ⟨k,.V (es.map (·.1)++YJ.flatten),sig,ob,nX σ ob ids,l⟩
       else none
      |none=>none
     |none=>none
    |none=>none
   |none=>none
  |_=>none
 |_=>none
def oZ.CX(x:oZ)(p:Nat)(dst:Tak):jh:=
 ⟨dst,([],if x.ob.new then .one (.qo p 0) else uL true p (.un (.cell 0) (.var p)) x.sig.res),P3 (BZ x.ob x.ids p) p 1 (ly x.ob x.ids p) x.ob.outs++(if x.ob.mv then [(x.ids.getD (x.ob.cH.length-1) 0,none)] else []),
  (x.own.filterMap fun y=>y.2.map fun g=>(g,none))++(if x.ob.new then [] else od p (.un (.cell 0) (.var p)) x.sig.res)++xP p 1 x.ob.outs,x.ids,[.call p x.k x.args []]⟩
def uh(σ:St):List SC->Tao (List E×Tal×Tah)
 |[]=>some ([],[],[])
 |c::r=>match uh σ r with
  |some (es,ts,ids)=>match asData c with
   |some (e,t)=>some (e::es,t::ts,ids)
   |none=>match c with
    |.qo id 0=>match σ.hp id with
     |some (_,cs)=>match gZ cs with
      |some (ds,us)=>some (.un .qv (.V ds)::es,.box (.V us)::ts,id::ids)
      |none=>none
     |none=>none
    |_=>none
  |none=>none
def KX(P:Tap)(σ:St)(pc:dM)(x:Tbb)(t:Tba):Tao (E×Ty×Tah):=
 match fA P σ pc x t with
 |some (e,ty)=>some (e,ty,[])
 |none=>match gp P σ pc x t with
  |some (.one (.qo id 0))=>match σ.hp id with
   |some (_,cs)=>match uh σ cs with
    |some (es,ts,ids)=>some (.un .qv (.V es),.box (.V ts),id::ids)
    |none=>none
   |none=>none
  |_=>none
def xT(P:Tap)(σ:St)(pc:dM):List Tbb->List Tba->Tao (List (E×Ty)×Tah)
 |[],[]=>some ([],[])
 |x::r,t::ts=>match KX P σ pc x t,xT P σ pc r ts with
  |some (e,ty,i),some (es,ids)=>some ((e,ty)::es,i++ids)
  |_,_=>none
 |_,_=>none
def pg(P:Tap)(cs:ni)(σ:St)(pc:dM)(o:Tbc):Tao (Nat×E×dL×Tah):=
 match o.op with
 |.call {callee:=.value f,args,argTypes}=>
  match gp P σ [] f 0,xT P σ pc args.toList argTypes.toList with
  |some (.one (.gH _ (.fn k .nil))),some (es,ids)=>
   match lk cs.l k with
   |some sig=>
    if sig.ob.isNone=true/\es.map (·.2)=sig.params/\(cU sig.res).Nodup/\(sig.res.all fun c=>c.1||c.2.length==1)=true/\zg sig.res=true/\(pc.isEmpty||KO sig.res)=true then
     some (k,.V (es.map (·.1)),sig,ids)
    else none
   |none=>none
  |_,_=>none
 |_=>none
def sj(P:Tap)(σ:St)(pc:dM)(o:Tbc):Tao (Tao Tag×E×E×Tba×Ty×Nat):=
 match o.op with
 |.call {callee:=.builtin .append,args,argTypes}=>
  match args.toList,argTypes.toList with
  | [s,x],[t,t']=>
   match P.underlying t,gp P σ pc s t,fA P σ pc x t with
   |some (.slice el),some sv,some (e2,.list u)=>
    match P.info? el,Yr P el with
    |some ie,some u'=>
     if t=t'/\u=u'/\u.cells.length=ie.size/\0<ie.size/\(u.cells.all Ty.scalar)=true/\((ie.zero.map fun z=>z.cells.size)=some ie.size)/\ie.bytes=u.bytes then
      match sv with
      |.one (.oJ v)=>if v=u then some (none,.nil,e2,el,u,ie.bytes) else none
      |.one (.own g _ v)=>match σ.live g with
       |some (e1,T,v')=>if v=u/\v'=u/\T=el/\g.ex=false then some (some g,e1,e2,el,u,ie.bytes) else none
       |none=>none
      |_=>none
     else none
    |_,_=>none
   |_,_,_=>none
  |_,_=>none
 |_=>none
def nI(P:Tap)(σ:St)(o:Tbc):Tao (E×E×Tba×Ty×Nat):=
 match o.op with
 |.call {callee:=.builtin .append,args,argTypes}=>
  match args.toList,argTypes.toList with
  | [s,x],[t,t']=>
   match P.underlying t,gp P σ [] s t,fA P σ [] x t with
   |some (.slice el),some (.one (.clip e1 v)),some (e2,.list u)=>
    match P.info? el,Yr P el with
    |some ie,some u'=>
     if t=t'/\u=u'/\u.cells.length=ie.size/\0<ie.size/\(u.cells.all Ty.scalar)=true/\((ie.zero.map fun z=>z.cells.size)=some ie.size)/\ie.bytes=u.bytes/\v=u then some (e1,e2,el,u,ie.bytes) else none
    |_,_=>none
   |_,_,_=>none
  |_,_=>none
 |_=>none
def SC.aaq:SC->Bool
 |.xo .. =>true
 |_=>false
def SV.acB:SV->Bool
 |.one c=>c.aaq
 |.agg l=>l.any SC.aaq
 |.ff _=>false
def vD(σ:St)(g:Tag)(t:Ty):Tao (E×Tba):=
 match σ.live g with
 |some (e,T,t')=>if t'=t/\g.ex=true/\0<t.cells.length then some (e,T) else none
 |none=>none
def Hm(u:Ty)(el:E)(off:Nat)(es:List E):Tao E:=
 match u,es with
 |.agg fs,es=>some (.un .agg (.V (((jx el 0 fs.A).map (·.1)).take off++es++((jx el 0 fs.A).map (·.1)).drop (off+es.length))))
 |u,[x]=>if off=0/\u.scalar=true then some x else none
 |_,_=>none
def vB(e i x:E):E:=.bin .cat (.bin .take e i) (.cons x (.bin .drop (.bin .drop e i) (.aZ i64 1)))
def C7(P:Tap)(σ:St)(o:Tbc):Tao jh:=
 match o.op with
 |.store t x y=>
  match gp P σ [] x t,((gp P σ [] y t).bind mA).bind gZ,iy P t with
  |some (.one (.wS g i u off)),some (es,ts),some n=>match vD σ g u with
   |some (e,T)=>
    if es.length=n/\off+n<=u.cells.length/\ts=(u.cells.drop off).take n/\(ts.all Ty.scalar)=true/\o.dst=none then
     (Hm u (.bin .idx e i) off es).map fun x=>⟨none,([],.agg []),[],[(g,some (vB e i x,T,u))],[],[]⟩
    else none
   |none=>none
  |_,_,_=>none
 |_=>none
def Qc(P:Tap)(σ:St)(o:Tbc):Tao jh:=
 match o.op with
 |.call {callee:=.builtin .len,args,argTypes}=>
  match args.toList,argTypes[0]? with
  | [x],some t=>match P.underlying t,gp P σ [] x t with
   |some (.slice _),some (.one (.xo g u))=>match vD σ g u with
    |some (e,T)=>some ⟨o.dst,([],.one (.gH (.un .len e) (.int i64))),[],[(g,some (e,T,u))],[],[]⟩
    |none=>none
   |_,_=>none
  |_,_=>none
 |_=>none
def C8(P:Tap)(σ:St)(o:Tbc):Tao jh:=
 match o.op with
 |.indexAddr t x i=>
  match P.underlying t,gp P σ [] x t,fA P σ [] i t with
  |some (.slice el),some (.one (.xo g u)),some (ie,.int k)=>match vD σ g u with
   |some (e,T)=>
    if iy P el=some u.cells.length then
     some ⟨o.dst,([],.one (.wS g ie u 0)),[],[(g,some (e,T,u))],[],[.kx [] (.bin .and (.bin .le (.aZ k 0) ie) (.bin .lt ie (.un .len e)))]⟩
    else none
   |none=>none
  |_,_,_=>none
 |_=>none
def Qb(P:Tap)(σ:St)(p:Nat)(o:Tbc):Tao jh:=
 match xa P σ o with
 |some (e,T,t,_)=>some ⟨o.dst,([],.one (.xo (p,1000) t)),[],[((p,1000),some (e,T,t))],[],[]⟩
 |none=>none
def qM(σ:St):SC->Tao ((E×Ty)×List (Tag×Tao (E×Tba×Ty)))
 |.xo g t=>match vD σ g t with
  |some (e,T)=>some ((e,.list t),[(g,some (e,T,t))])
  |none=>none
 |c=>(asData c).map fun x=>(x,[])
def mT(σ:St):List SC->Tao ((List E×Tal)×List (Tag×Tao (E×Tba×Ty)))
 |[]=>some (([],[]),[])
 |c::r=>match qM σ c,mT σ r with
  |some ((e,t),l),some ((es,ts),ls)=>some ((e::es,t::ts),l++ls)
  |_,_=>none
def qi(σ:St):SV->Tao ((E×Ty)×List (Tag×Tao (E×Tba×Ty)))
 |.one c=>qM σ c
 |.agg l=>match mT σ l with
  |some ((es,ts),ls)=>some ((.un .agg (.V es),.agg (.V ts)),ls)
  |none=>none
 |.ff _=>none
def xS(P:Tap)(σ:St)(pc:dM):List Tbb->List Tba->Tao (List (E×Ty)×List (Tag×Tao (E×Tba×Ty)))
 |[],[]=>some ([],[])
 |x::r,t::ts=>match (gp P σ pc x t).bind (qi σ),xS P σ pc r ts with
  |some (e,l),some (es,ls)=>some (e::es,l++ls)
  |_,_=>none
 |_,_=>none
def Jy(P:Tap)(cs:ni)(σ:St)(p:Nat)(o:Tbc):Tao jh:=
 match o.op with
 |.call {callee:=.value f,args,argTypes}=>
  match gp P σ [] f 0,xS P σ [] args.toList argTypes.toList with
  |some (.one (.gH _ (.fn k .nil))),some (es,l)=>
   match lk cs.l k with
   |some sig=>
    if sig.ob.isNone=true/\es.map (·.2)=sig.params/\(cU sig.res).Nodup/\(sig.res.all fun c=>c.1||c.2.length==1)=true/\(sig.res.all fun c=>c.2.all bF.bare)=true then
     some ⟨o.dst,([],nT true p sig.res),[],l++gO p sig.res,[],[.call p k (.V (es.map (·.1))) []]⟩
    else none
   |none=>none
  |_,_=>none
 |_=>none
def B8(P:Tap)(σ:St)(x:Tbb×Tba):Bool:=match gp P σ [] x.1 x.2 with|some s=>s.acB|none=>false
def Jw(P:Tap)(cs:ni)(σ:St)(o:Tbc):Nat:=
 match o.op with
 |.store t x _=>match gp P σ [] x t with|some (.one (.wS ..))=>2|_=>0
 |.indexAddr t x _=>match gp P σ [] x t with|some (.one (.xo ..))=>4|_=>0
 |.call {callee:=.builtin .len,args,argTypes}=>match args.toList,argTypes.toList with
  | [x],[t]=>match gp P σ [] x t with|some (.one (.xo ..))=>3|_=>0
  |_,_=>0
 |.buildSlice .. =>match o.dst with|some d=>if cs.ex.contains d then 6 else 0|none=>0
 |.makeSlice .. =>match o.dst with|some d=>if cs.ex.contains d then 6 else 0|none=>0
 |.call {callee:=.value _,args,argTypes}=>if(args.toList.zip argTypes.toList).any (B8 P σ) then 7 else 0
 |_=>0
def MI(P:Tap)(cs:ni)(σ:St)(p:Nat)(o:Tbc):Nat->Tao jh
 |2=>C7 P σ o
 |3=>Qc P σ o
 |4=>C8 P σ o
 |6=>Qb P σ p o
 |_=>Jy P cs σ p o
def Hq:Op->Nat
 |.alloc _| .box .. =>1
 |.store .. =>2
 |.makeFunc .. =>3
 |.call {callee:=.value _,.. }=>4
 |.call {callee:=.builtin .append,.. }=>5
 |.buildSlice .. =>6
 |.makeMap .. =>7
 |.mapUpdate .. =>8
 |_=>0
def rZ(P:Tap)(cs:ni)(ops:Tad)(σ:St)(p:Nat)(o:Tbc):Tao jh:=
 match guardOf ops σ o with
 |none=>none
 |some pc=>
  match Hq o.op with
  |1=>match zo P σ pc o with
   |some l=>if pc=[]/\l.all SC.scalar=true then some ⟨o.dst,(pc,.one (.qo p 0)),[(p,some (false,l))],[],[],[]⟩ else none
   |none=>none
  |2=>match vO P σ pc o with
   |some (id,l)=>if pc=[]/\l.all SC.scalar=true/\o.dst=none then some ⟨none,([],.agg []),[(id,some (false,l))],[],[id],[]⟩ else none
   |none=>none
  |3=>match Mx P σ pc o with
   |some (e,t,fz)=>some ⟨o.dst,(pc,.one (.gH e t)),fz.map fun x=>(x.1,some (true,x.2)),[],fz.map (·.1),[]⟩
   |none=>none
  |4=>match xb P cs σ pc o with
   |some (k,e,sig)=>some ⟨o.dst,(pc,nT pc.isEmpty p sig.res),[],if pc.isEmpty then gO p sig.res else [],[],[.call p k e pc]⟩
   |none=>match iQ P cs σ [] o with
    |some x=>if pc=[] then some (x.CX p o.dst) else none
    |none=>match pg P cs σ pc o with
     |some (k,e,sig,rd)=>if cs.fr=0 then some ⟨o.dst,(pc,nT pc.isEmpty p sig.res),[],if pc.isEmpty then gO p sig.res else [],rd,[.call p k e pc]⟩ else none
     |none=>none
  |5=>match nI P σ o with
   |some (e1,e2,T,t,b)=>
    if pc=[] then some ⟨o.dst,([],.one (.own (p,0) (.bin .cat e1 e2) t)),[],[((p,0),some (.bin .cat e1 e2,T,t))],[],[.room [] (.bin .cat e1 e2) b,.kx [] (.bin .lt (.aZ i64 0) (.un .len e2))]⟩ else none
   |none=>match sj P σ pc o with
    |some (g,e1,e2,T,t,b)=>
     if pc=[] then
      some ⟨o.dst,(pc,.one (.own (p,0) (.bin .cat e1 e2) t)),[],(match g with|some g=>[(g,none)] |none=>[])++[((p,0),some (.bin .cat e1 e2,T,t))],[],[.room pc (.bin .cat e1 e2) b]⟩
     else none
    |none=>none
  |6=>match rC P σ pc o with
   |some (e,T,t,_)=>
    if pc.isEmpty then some ⟨o.dst,(pc,.one (.own (p,0) e t)),[],[((p,0),some (e,T,t))],[],[]⟩
    else some ⟨o.dst,(pc,.one (.gH e (.list t))),[],[],[],[]⟩
   |none=>none
  |_=>match qI P σ pc o with
   |some ((s,is),rd)=>some ⟨o.dst,(pc,s),[],[],rd,is⟩
   |none=>none
def B7(P:Tap)(cs:ni)(ops:Tad)(σ:St)(p:Nat)(o:Tbc):Tao jh:=
 match o.guard,Jw P cs σ o with
 |none,k+1=>MI P cs σ p o (k+1)
 |_,_=>rZ P cs ops σ p o
def DT:SC->Bool
 |.gH _ t=>t.bare
 |.oJ _=>true
 |.own .. =>true
 |_=>false
def AD:SV->Bool
 |.one (.own ..)=>true
 |.one (.oJ _)=>true
 |.one (.gH _ (.list u))=>u.cells.all Ty.bare
 |.one (.clip _ u)=>u.cells.all Ty.bare
 |_=>false
def qB(P:Tap)(σ:St)(pc:dM)(o:Tbc):Tao (List SC):=
 match o.op with
 |.buildSlice t len parts=>
  match P.underlying t with
  |some (.slice el)=>
   match P.info? el,flat P Fe el,mw P σ pc (fun _=>el) parts.toList with
   |some ie,some ts,some ps=>
    match ie.zero.bind fun z=>ml ts z.cells.toList with
    |some zs=>uO (fun i=>some (i*ie.size,ie.size)) ((List.range (len*ie.size)).map fun j=>zs.getD (j % zs.length) (.oJ .nil)) ps
    |none=>none
   |_,_,_=>none
  |_=>none
 |_=>none
def RZ(j:Nat):Bool:=decide (500<=j)&&decide (j<1000)
def bF.fr:bF->Bool
 |(t,none)=>t.bare
 |(t,some (j,_))=>t.cells.all Ty.bare||RZ j
def TC(a:List (Bool×List bF)):Bool:=a.all fun c=>c.2.all bF.fr
def Mz(a:List (Bool×List bF)):Bool:=(cU a).all fun j=> !RZ j
def vq(P:Tap)(cs:ni)(σ:St)(pc:dM)(o:Tbc):Bool:=
 match o.op with
 |.call {callee:=.value f,.. }=>match gp P σ pc f 0 with
  |some (.one (.gH _ (.fn k _)))=>match BY cs o.dst k with
   |some sig=>TC sig.res&&sig.ob.isNone&&KO sig.res
   |none=>false
  |_=>false
 |.call {callee:=.builtin .append,args,argTypes}=>match args.toList,argTypes.toList with
  | [s,x],[_,t']=>match gp P σ pc s t',gp P σ pc x t' with
   |some (.one (.clip _ u)),_=>u.cells.all Ty.bare
   |_,some sv=>AD sv
   |_,_=>false
  |_,_=>false
 |.buildSlice .. =>match qB P σ pc o with
  |some cs=>cs.all DT
  |none=>false
 |_=>true
def xg(P:Tap)(cs:ni)(ops:Tad)(σ:St)(p:Nat)(o:Tbc):Tao jh:=
 match cs.fr with
 |0=>B7 P cs ops σ p o
 |1=>match guardOf ops σ o with
  |some pc=>if vq P cs σ pc o then rZ P cs ops σ p o else none
  |none=>none
 |_=>if Hq o.op<3 then rZ P cs ops σ p o else none
structure uF(ex:Bool)(w:Tam)(base:Nat)(S:bE)(T:Tba)(t:Ty)(v:Tan)(d:D):Prop where
 has:Has (.list t) d
 sz:0<t.cells.length
 own:∃xs l,d=.list l/\w.ownsRow base T t.cells.length v l.length xs/\(∀b,v.ownBlock=some b->∀o,S b o↔ex=false/\o<xs.length)/\
  ∀(i:Nat) d (j:Nat) v c,l[i]?=some d->d.cells[j]?=some c->xs[i*t.cells.length+j]?=some v->cg w S v c
def jN(w:Tam)(base:Nat)(S:bE)(τ:Taj):bF->Tan->D->Prop
 |(t,none),v,d=>cg w S v d/\Has t d
 |(t,some (j,T)),v,d=>v=τ j/\uF (BA j) w base S T t (τ j) d
def gk(w:Tam)(base:Nat)(S:bE)(τ:Taj)(c:Bool×List bF)(v:Tan)(d:D):Prop:=
 if c.1 then∃(a:Tac) (b:Taf),v=.agg a.toArray/\d=.agg b/\a.length=c.2.length/\b.length=c.2.length/\
  ∀(i:Nat) x u y,c.2[i]?=some x->a[i]?=some u->b[i]?=some y->jN w base S τ x u y
 else∃x,c.2=[x]/\jN w base S τ x v d
def im(w:Tam)(base:Nat)(S:bE)(τ:Taj)(a:List (Bool×List bF))(v:Tan)(d:D):Prop:=
 (∃c,a=[c]/\gk w base S τ c v d)\/
 (a.length≠1/\∃(b:Tac) (e:Taf),v=.tuple b.toArray/\d=.ff e/\b.length=a.length/\e.length=a.length/\
  ∀(i:Nat) x u y,a[i]?=some x->b[i]?=some u->e[i]?=some y->gk w base S τ x u y)
def Ca(w:Tam)(S:bE)(τ:Taj)(c:List bF)(b:Nat)(cells:Taf):Prop:=
 ∃(a:Tac) (T:Tba),w.heap[b]?=some (.cells a.toArray T (0,0))/\a.length=c.length/\cells.length=c.length/\
  (∀(i:Nat) r v d,c[i]?=some r->a[i]?=some v->cells[i]?=some d->jN w 0 S τ r v d)/\∀o,¬S b o
def rV(w:Tam)(S:bE)(β:Nat->Nat):List Bool->Nat->Tac->Taf->Prop
 |[],_,[],[]=>True
 |true::sh,o,v::vs,ds=>v=.pointer (some ⟨β o,0,none⟩)/\rV w S β sh (o+1) vs ds
 |false::sh,o,v::vs,d::ds=>cg w S v d/\rV w S β sh o vs ds
 |_,_,_,_=>False
def uB(ob:Ob)(β:Nat->Nat)(τ:Taj)(b:Nat):Prop:=(∃o,o<ob.cH.length/\b=β o)\/∃j,j∈ob.jH/\(τ j).ownBlock=some b
structure Cb(w:Tam)(S:bE)(ob:Ob)(β:Nat->Nat)(τ:Taj)(vs:Tac)(dd:Taf)(oo:List (Taf)):Prop where
 lt:∀b o,S b o->b<w.heap.size
 args:rV w S β ob.shape 0 vs dd
 len:oo.length=ob.cH.length
 cH:∀(o:Nat) rc cells,ob.cH[o]?=some rc->oo[o]?=some cells->Ca w S τ rc (β o) cells
 inj:∀i j,i<ob.cH.length->j<ob.cH.length->β i=β j->i=j
 own:∀j k b,j∈ob.jH->k∈ob.jH->(τ j).ownBlock=some b->(τ k).ownBlock=some b->j=k
 eV:∀j o b,j∈ob.jH->o<ob.cH.length->(τ j).ownBlock=some b->b≠β o
 link:ij ob.shape<ob.cH.length->∀(o c:Nat) rc,ob.cH[o]?=some rc->rc[c]?=some Jq->w.cell? ⟨β o,c,none⟩=some (.pointer (some ⟨β (ob.cH.length-1),0,none⟩))
def kq(ob:Ob)(β:Nat->Nat)(βn:Nat)(o:Nat):Nat:=if o<ob.cH.length/\¬(ob.mv=true/\o=ob.cH.length-1) then β o else βn
structure OO(w:Tam)(S:bE)(sig:dL)(ob:Ob)(β:Nat->Nat)(τ:Taj)(v:Tan)(d:D)(w':Tam)(S':bE)(τ':Taj)(βn:Nat):Prop where
 below:gw (uB ob β τ) w w'
 jG:∀b o,S b o->S' b o
 lt:∀b o,S' b o->b<w'.heap.size
 new:∀b o,S' b o->S b o\/w.heap.size<=b\/uB ob β τ b
 keep:∀b o,S b o->w'.cell? ⟨b,o,none⟩=w.cell? ⟨b,o,none⟩
 res:∃(d0:D) (outs:List (Taf)),d=.ff (d0::outs.map .agg)/\outs.length=ob.outs.length/\
  (if ob.new then v=.pointer (some ⟨βn,0,none⟩)/\w.heap.size<=βn else im w' 0 S' τ' sig.res v d0)/\
  ∀(o:Nat) rc cells,ob.outs[o]?=some rc->outs[o]?=some cells->Ca w' S' τ' rc (kq ob β βn o) cells
 gh:∀j b,j∈kP sig ob->(τ' j).ownBlock=some b->w.heap.size<=b\/uB ob β τ b
 own:∀j k b,j∈kP sig ob->k∈kP sig ob->(τ' j).ownBlock=some b->(τ' k).ownBlock=some b->j=k
 eV:∀j o b,j∈kP sig ob->o<ob.outs.length->(τ' j).ownBlock=some b->b≠kq ob β βn o
 link:ij ob.shape<ob.cH.length->∀(o c:Nat) rc,ob.outs[o]?=some rc->rc[c]?=some Jq->w'.cell? ⟨kq ob β βn o,c,none⟩=some (.pointer (some ⟨kq ob β βn (ob.cH.length-1),0,none⟩))
 mvd:ob.mv=true->βn=β (ob.cH.length-1)\/w.heap.size<=βn
structure UM(w:Tam)(T:Tba)(v:Tan)(unit:Bool)(ys:List Int)(u v':Tan)(w':Tam):Prop where
 res:if unit then v'=v else u=v'
 own:w'.ownsRow 0 T 1 v' ys.length (ys.map (Value.int i64))
 GY:v'.ownBlock=v.ownBlock
 below:gw (fun b=>v.ownBlock=some b) w w'
structure bu(P:Tap)(f:Nat)(sig:dL)(Pre:Taf->Prop)(Φ:Taf->D):Prop where
 enter:∀(args:Tbd Tan) (w:Tam),(callFunc f args).run P w=.ok (.enter f args) w
 calls:sig.ob=none->∀(w:Tam) (S:bE) (vs:Tac) (ds:Taf),(∀b o,S b o->b<w.heap.size)->vs.length=ds.length->(∀(i:Nat) v d,vs[i]?=some v->ds[i]?=some d->cg w S v d)->
  dx (.V sig.params) ds->Pre ds->
  Calls P f vs.toArray w fun e w'=>∃v S' τ,e=.returned v/\Below w.heap.size w w'/\(∀b o,S b o->S' b o)/\(∀b o,S' b o->b<w'.heap.size)/\(∀b o,S' b o->S b o\/w.heap.size<=b)/\
   im w' 0 S' τ sig.res v (Φ ds)/\(∀j b,j∈cU sig.res->(τ j).ownBlock=some b->w.heap.size<=b)/\(∀j k b,j∈cU sig.res->k∈cU sig.res->(τ j).ownBlock=some b->(τ k).ownBlock=some b->j=k)/\
   ∀j,j∈cU sig.res->RZ j=true->yV (fun b=>w.heap.size<=b) w' S' (τ j)
 zC:∀ob,sig.ob=some ob->ob.wW=false->∀(w:Tam) (S:bE) (β:Nat->Nat) (τ:Taj) (vs:Tac) (dd:Taf) (oo:List (Taf)),Cb w S ob β τ vs dd oo->
  dx (.V sig.params) (dd++oo.flatten)->Pre (dd++oo.flatten)->
  Calls P f vs.toArray w fun e w'=>∃v S' τ' βn,e=.returned v/\OO w S sig ob β τ v (Φ (dd++oo.flatten)) w' S' τ' βn
 Hp:∀ob,sig.ob=some ob->ob.wW=true->∀(w:Tam) (T:Tba) (v:Tan) (zs:List Int),w.ownsRow 0 T 1 v zs.length (zs.map (Value.int i64))->Has (.list (.int i64)) (.list (zs.map (D.int i64)))->Pre [.list (zs.map (D.int i64))]->
  Calls P f #[v] w fun e w'=>∃(u v':Tan) (ys:List Int),e=.returned u/\Φ [.list (zs.map (D.int i64))]=.list (ys.map (D.int i64))/\Has (.list (.int i64)) (.list (ys.map (D.int i64)))/\UM w T v sig.res.isEmpty ys u v' w'
structure acX(P:Tap)(f:Nat)(sg:z8)(Pre:Taf->Prop)(Φ:Taf->D):Prop where
 enter:∀(args:Tbd Tan) (w:Tam),(callFunc f args).run P w=.ok (.enter f args) w
 calls:∀(w:Tam) (S:bE) (vs:Tac) (ds:Taf) (vo:Tan) (lo:D) (bm:Nat) (lm:D),(∀b o,S b o->b<w.heap.size)->vs.length=ds.length->(∀(i:Nat) v d,vs[i]?=some v->ds[i]?=some d->cg w S v d)->
  dx (.V sg.ps) ds->uF true w 0 S sg.T sg.t vo lo->Has (.list sg.kt) lm->vK P w bm sg.TM sg.kt lm.A->(∀o,¬S bm o)->Pre (ds++[lo,lm])->
  Calls P f (vs++[vo,.map (some bm)]).toArray w fun e w'=>∃v S',e=.returned v/\gw (fun b=>vo.ownBlock=some b\/b=bm) w w'/\(∀b o,S b o->S' b o)/\(∀b o,S' b o->b<w'.heap.size)/\
   (∀b o,S' b o->S b o\/w.heap.size<=b\/vo.ownBlock=some b\/b=bm)/\(∀b o,S b o->w'.cell? ⟨b,o,none⟩=w.cell? ⟨b,o,none⟩)/\uF true w' 0 S' sg.T sg.t v (Φ (ds++[lo,lm]))/\
   ∀b,v.ownBlock=some b->w.heap.size<=b\/vo.ownBlock=some b\/b=bm
structure Qo(P:Tap)(f:Nat)(sF:dL)(Pre:Taf->Prop)(Φ:Taf->D):Prop where
 new:bu P f sF (fun ds=>Pre ds/\((Φ ds).A.getD 0 .top).iV=false) Φ
 nil:∀ob,sF.ob=some ob->∀(w:Tam) (S:bE) (β:Nat->Nat) (τ:Taj) (vs:Tac) (dd:Taf) (oo:List (Taf)),Cb w S ob β τ vs dd oo->dx (.V sF.params) (dd++oo.flatten)->Pre (dd++oo.flatten)->
  ((Φ (dd++oo.flatten)).A.getD 0 .top).iV=true->Calls P f vs.toArray w fun e w'=>e=.returned (.pointer none)/\Below w.heap.size w w'
structure Hf(P:Tap)(cs:ni)(S0:gK)(Φ:Taa)(Pre:eN):Prop where
 fr:S0.fr->cs.fr=1
 wz:S0.wz->cs.fr=2
 prog:S0.prog=P
 keys:∀T kt,lk cs.mp T=some kt->UN P T kt
 eat:∀k sg,lk cs.et k=some sg->sg.nn=none->acX P k sg (Pre k) (Φ k)
 nn:∀k sg sF t,lk cs.et k=some sg->sg.nn=some (sF,t)->Qo P k sF (Pre k) (Φ k)
def Fz{w w':Tam}{S S':bE}{t:Ty}{v:Tan}{d:D}(b:t.bare=true)(a:Has t d)(h:cg w S v d):cg w' S' v d:=by
 cases t<;>simp[Ty.bare]at b
 .obtain⟨n,rfl,_⟩:=dt.1 a;rw[h.cQ];exact .int _ _
 .obtain⟨n,rfl⟩:=dg.1 a;rw[h.gU];exact .bool _
 obtain⟨n,rfl⟩:=my.1 a;rw[h.DQ];exact .str _
def Rw(j:Nat):BA (j+1000)=true:=by unfold BA;exact decide_eq_true (by omega)
def nw(b:List (Bool×List bF)):cU (vI b)=(cU b).map (· +1000):=by
 induction b with
 |nil=>rfl
 |cons c r ih=>
  have d:∀l:List bF,(l.map qC).filterMap (fun x=>x.2.map (·.1))=(l.filterMap (fun x=>x.2.map (·.1))).map (· +1000):=by
   intro l
   induction l with
   |nil=>rfl
   |cons a l P4=>
    obtain⟨t,o⟩:=a;cases o with
    |none=>simpa [qC]using P4
    |some y=>simp only[cM,qC,List.filterMap_cons,aV,P4]
  have f:cU (vI (c::r))=(c.2.map qC).filterMap (fun x=>x.2.map (·.1))++cU (vI r):=rfl;have e:cU (c::r)=c.2.filterMap (fun x=>x.2.map (·.1))++cU r:=rfl;rw[f,e,ih,d,ck]
def CQ{w w0:Tam}{S S':bE}{τ:Taj}{c:bF}{v:Tan}{d:D}(H:c.bare=true)(N:∀b o,S b o->b<w0.heap.size)(f:∀T j,c.2=some (j,T)->∀b,(τ j).ownBlock=some b->w0.heap.size<=b)(h:jN w 0 S' τ c v d):
  jN w 0 S (fun j=>τ (j-1000)) (qC c) v d:=by
 obtain⟨t,o⟩:=c;cases o with
 |none=>
  obtain⟨C,p⟩:=h;exact⟨Fz H p C,p⟩
 |some y=>
  obtain⟨j,T⟩:=y;obtain⟨C,p⟩:=h;have g:t.cells.all Ty.bare=true:=H;rw[bY]at g;refine⟨by rw[C];simp,?_⟩;have R:(fun j=>τ (j-1000)) (j+1000)=τ j:=by simp
  rw[R,Rw];obtain⟨E,J,I,l,F,e,V,M⟩:=p;refine⟨E,J,I,l,F,e,?_,?_⟩
  .intro b A o;refine⟨fun s=>?_,fun s=>Bool.noConfusion s.1⟩;have B:=N b o s;have n:=f T j rfl b A;omega
  intro i x k u y B n Q;obtain⟨U,a,_,K⟩:=bO.1 E;rw[F]at a;injection a with a;subst a;have r:=K x (bQ B);obtain⟨P,O⟩:=cB r;have G:k<t.cells.length:=by rw[<-P];exact(aO.1 n).1
  have L:t.cells[k]?=some t.cells[k]:=aS G;obtain⟨z,m,q⟩:=O k _ L;rw[n]at m;injection m with m;subst m;exact Fz (g _ (aN G)) q (M i x k u y B n Q)
def CP{w w0:Tam}{S S':bE}{τ:Taj}{c:Bool×List bF}{v:Tan}{d:D}(k:(c.2.all bF.bare)=true)(p:∀b o,S b o->b<w0.heap.size)(a:∀x∈c.2,∀T j,x.2=some (j,T)->∀b,(τ j).ownBlock=some b->w0.heap.size<=b)(h:gk w 0 S' τ c v d):
  gk w 0 S (fun j=>τ (j-1000)) (c.1,c.2.map qC) v d:=by
 rw[bY]at k;unfold gk at*;split
 .rename_i g;rw[if_pos g]at h;obtain⟨q,C,l,B,A,z,t⟩:=h;refine⟨q,C,l,B,by simpa using A,by simpa using z,fun i x u y f s r=>?_⟩;simp only[ab,dn]at f;obtain⟨m,e,rfl⟩:=f;exact CQ (k _ (bQ e)) p (a m (bQ e)) (t i m u y e s r)
 rename_i g;rw[if_neg g]at h;obtain⟨x,f,l⟩:=h;refine⟨qC x,by simp[f],?_⟩;have n:x∈c.2:=by rw[f];simp
 exact CQ (k x n) p (a x n) l
def im.afl{w:Tam}{base:Nat}{S:bE}{τ:Taj}{a:List (Bool×List bF)}{v:Tan}{d:D}(h:im w base S τ a v d){j:Nat}(m:j∈cU a):
  ∃(t:Ty) (T:Tba) (d':D),uF (BA j) w base S T t (τ j) d'/\∃c∈a,(t,some (j,T))∈c.2:=by
 obtain⟨c,k,m⟩:=dj.1 m;obtain⟨⟨t,x⟩,e,f⟩:=bH.1 m;simp only[dn]at f;obtain⟨⟨p,T⟩,rfl,rfl⟩:=f
 have b:∀v d,gk w base S τ c v d->∃d',uF (BA p) w base S T t (τ p) d':=by
  intro v d h;unfold gk at h;split at h
  .obtain⟨q,z,_,_,u,s,l⟩:=h;obtain⟨i,g⟩:=aE e;have n:i<c.2.length:=(aO.1 g).1;exact⟨_,(l i _ _ _ g (aS (by omega)) (aS (by omega))).2⟩
  obtain⟨y,r,l⟩:=h;rw[r]at e;simp only[ax]at e;subst e;exact⟨_,l.2⟩
 rcases h with⟨c',hc',h⟩|⟨_,q,z,_,_,u,s,l⟩
 .rw[hc']at k;simp only[ax]at k;subst k;obtain⟨d',o⟩:=b _ _ h;exact⟨t,T,d',o,c,by rw[hc'];simp,e⟩
 obtain⟨i,g⟩:=aE k;have n:i<a.length:=(aO.1 g).1;obtain⟨d',o⟩:=b _ _ (l i _ _ _ g (aS (by omega)) (aS (by omega)));exact⟨t,T,d',o,c,k,e⟩
def pJ(a:List (Bool×List bF))(τ:Taj):Taj:=fun j=>if j∈cU a then τ j else .nilIface
def im.Z6{w:Tam}{base:Nat}{S:bE}{τ:Taj}{res:List (Bool×List bF)}{v:Tan}{d:D}(h:im w base S τ res v d):im w base S (pJ res τ) res v d:=by
 have b:∀c∈res,∀v d,gk w base S τ c v d->gk w base S (pJ res τ) c v d:=by
  intro c e v d h
  have cell:∀x∈c.2,∀v d,jN w base S τ x v d->jN w base S (pJ res τ) x v d:=by
   rintro⟨t,x⟩ a v d h;cases x with
   |none=>exact h
   |some y=>
    obtain⟨j,T⟩:=y;have s:j∈cU res:=dj.2 ⟨c,e,bH.2 ⟨_,a,rfl⟩⟩;have A:pJ res τ j=τ j:=if_pos s;show v=pJ res τ j/\uF (BA j) w base S T t (pJ res τ j) d;rw[A];exact h
  unfold gk at*;split
  .rename_i l;rw[if_pos l]at h;obtain⟨f,m,r,q,p,o,n⟩:=h;exact⟨f,m,r,q,p,o,fun i x u y a k g=>cell x (bQ a) u y (n i x u y a k g)⟩
  rename_i l;rw[if_neg l]at h;obtain⟨x,a,z⟩:=h;exact⟨x,a,cell x (by rw[a];simp) _ _ z⟩
 rcases h with⟨c,e,h⟩|⟨h0,f,m,r,q,p,o,n⟩
 .exact .inl ⟨c,e,b c (by rw[e];simp) _ _ h⟩
 exact .inr ⟨h0,f,m,r,q,p,o,fun i x u y a k g=>b x (bQ a) u y (n i x u y a k g)⟩
def AS{w:Tam}{S:bE}{X:Tai}{t:Ty}{v:Tan}{d:D}(b:t.bare=true)(a:Has t d)(h:cg w S v d):mJ X v:=by
 cases t<;>simp[Ty.bare]at b
 .obtain⟨n,rfl,_⟩:=dt.1 a;rw[h.cQ];trivial
 .obtain⟨n,rfl⟩:=dg.1 a;rw[h.gU];trivial
 obtain⟨n,rfl⟩:=my.1 a;rw[h.DQ];trivial
def pv{w:Tam}{S:bE}{X:Tai}{t:Ty}{l:Taf}{xs:Tac}(z:(t.cells.all Ty.bare)=true)(a:0<t.cells.length)(f:∀x∈l,Has t x)(b:xs.length=l.length*t.cells.length)(y:∀(i:Nat) d (j:Nat) v c,l[i]?=some d->d.cells[j]?=some c->xs[i*t.cells.length+j]?=some v->cg w S v c):∀u∈xs,mJ X u:=by
 intro u s;obtain⟨q,o⟩:=aE s;have k:q<xs.length:=(aO.1 o).1;have p:q/t.cells.length<l.length:=by rw[Nat.div_lt_iff_lt_mul a,<-b];exact k
 have m:q % t.cells.length<t.cells.length:=Nat.mod_lt _ a;have r:l[q/t.cells.length]?=some (l[q/t.cells.length]'p):=aS p;have g:t.cells[q % t.cells.length]?=some (t.cells[q % t.cells.length]'m):=aS m;obtain⟨A,n,e⟩:=(cB (f _ (bQ r))).2 _ _ g;have h:q/t.cells.length*t.cells.length+q % t.cells.length=q:=by rw[Nat.mul_comm];exact Nat.div_add_mod _ _
 exact AS (bY.1 z _ (aN m)) e (y _ _ _ u A r n (by rw[h];exact o))
def Py{w w0:Tam}{S0:gK}{S:bE}{T:Tba}{t:Ty}{v:Tan}{d:D}(G:(t.cells.all Ty.bare)=true)(m:∀b,v.ownBlock=some b->jn w0 S0 b)(h:uF false w 0 S T t v d):yV (jn w0 S0) w S v:=by
 intro a n H J;obtain⟨p,j,y,l,rfl,e,A,E⟩:=h;obtain⟨I,f,_,q⟩:=bO.1 p;injection f with f;subst f;rcases e.2 with⟨hn,_⟩|⟨b,He,r,P5,_⟩
 .rw[hn];exact .inl rfl
 have c:v.ownBlock=some b:=by rw[P5];rfl
 rw[P5];by_cases F:l.length=0
 .exact .inl F
 refine .inr ⟨b,0,rfl,fun i=>i=b,?_,rfl⟩;rintro i rfl;have k:0<y.length:=by rw[e.1];exact Nat.mul_pos (by omega) j
 have x:∃r T,w.heap[i]?=some (.cells r T (0,0)):=by
  rcases e.2 with⟨hn,_⟩|⟨b2,agm,agj,hv2,_,Yj,_⟩
  .rw[hn]at c;cases c
  rw[hv2]at c;simp only[Value.ownBlock,aa]at c;subst c;exact⟨_,_,Yj⟩
 refine⟨m i c,⟨0,(A i c 0).2 ⟨rfl,k⟩⟩,x,fun o u C B=>?_⟩;have z:=((A i c o).1 C).2;have s:=e.cells (g:=i) c o y[o] (aS z);rw[fT,av,B]at s;injection s with s;subst s;exact pv G j q e.1 E _ (aN z)
def im.fresh{w w0:Tam}{S0:gK}{S:bE}{τ:Taj}{e:List (Bool×List bF)}{v:Tan}{d:D}(h:im w 0 S τ e v d)(s:TC e=true)(r:KO e=true)(f:∀j b,j∈cU e->(τ j).ownBlock=some b->jn w0 S0 b)(g:∀j,j∈cU e->RZ j=true->yV (jn w0 S0) w S (τ j)):∀j,yV (jn w0 S0) w S (pJ e τ j):=by
 intro j;unfold pJ;split
 .rename_i k;obtain⟨t,T,u,q,c,p,o⟩:=h.afl k;have m:=bY.1 (bY.1 s c p) _ o;have i:=bY.1 (bY.1 r c p) _ o;have l:BA j=false:=by simpa using i
  rw[l]at q;have a:(t.cells.all Ty.bare||RZ j)=true:=m;rcases (bW _ _).mp a with a|a
  .exact Py a (fun b n=>f j b k n) q
  exact g j k a
 exact yV.nilIface
def sZ{C:Cx}{w:Tam}{G:Gh}{N:Tai}{c:SC}{v:Tan}(h:DT c=true)(d:∀g,yV N w G.S (G.τ g))(b:ru C w G c v):mJ (yW N w G.S) v:=by
 cases c with
 |gH e t=>exact AS h b.2.2 b.2.1
 |oJ t=>simp only[ru]at b;subst b;exact .inl rfl
 |own g e t=>
  obtain⟨_,_,j,n,i⟩:=b;obtain⟨l,m,_⟩:=bO.1 n;rw[m]at j;obtain⟨a,f,k⟩:=j.qf;exact i▸d g a _ f (by rw[<-i];exact k)
 |_=>cases h
def IA{w:Tam}{S:bE}{N:Tai}{v:Tan}{l:Taf}{A:Tao Addr}{k c:Nat}{news:Tac}(g:mJ (yW N w S) v)(h:cg w S v (.list l))(x:∀d∈l,d.cells.length=k)(f:v=.slice A l.length c)(i:news.length=l.length*k)(m:∀n,A=some n->∀(j:Nat) u,news[j]?=some u->w.cell? (n.add j)=some u):∀u∈news,mJ (yW N w S) u:=by
 intro u t;obtain⟨q,o⟩:=aE t;have e:q<news.length:=(aO.1 o).1;cases h with
 |nil n cap=>rw[i]at e;simp at e
 |list b off cap sz xs _ UZ tV rN hl hS hc hw hr=>
  have a:sz=k:=by
   cases G6:l with
   |nil=>exact absurd G6 tV
   |cons d r=>rw[<-hw 0 d (by rw[G6];rfl)];exact x d (by rw[G6];simp)
  subst a;injection f with z E C;rcases g with g|⟨F,B,s,y⟩
  .exact absurd (au g) tV
  simp only[aa,Addr.mk.injEq]at s;obtain⟨rfl,rfl,_⟩:=s;have p:=m _ z.symm q u o;rw[fT]at p;exact(yW.set N w S b y).2.2.2 _ u (hS q (by omega)) p
def I2{res:List (Bool×List bF)}{c:Bool×List bF}{x:bF}{j:Nat}{T:Tba}(b:c∈res)(a:x∈c.2)(h:x.2=some (j,T)):j∈cU res:=
 dj.2 ⟨c,b,bH.2 ⟨x,a,by rw[h];rfl⟩⟩
def bu.aeT{P:Tap}{f:Nat}{a:dL}{Pre:Taf->Prop}{Φ:Taf->D}(h:bu P f a Pre Φ)(l:a.ob=none)(B:zg a.res=true):bu P f (zv a) Pre Φ:=by
 refine⟨h.enter,fun _ w S N W C t q G r=>?_,fun F E=>?_,fun F E=>?_⟩
 .refine(h.calls l w S N W C t q G r).mono ?_;rintro e X ⟨v,S',τ,rfl,yI,E,h2,h3,h4,h5,h6,_⟩;unfold zg at B;rw[bY]at B;refine⟨v,S,fun j=>τ (j-1000),rfl,yI,fun _ _ h=>h,fun b o V=>az (C b o V) yI.size,fun _ _ h=>.inl h,?_,?_,?_,?_⟩
  .have g:∀c∈a.res,∀x∈c.2,∀T j,x.2=some (j,T)->∀b,(τ j).ownBlock=some b->w.heap.size<=b:=
    fun c p x A T j n b M=>h5 j b (I2 p A n) M
   rcases h4 with⟨c,p,h4⟩|⟨tV,P1,ds',h7,h8,h9,h10,h11⟩
   .refine .inl ⟨(c.1,c.2.map qC),by simp[zv,vI,p],?_⟩;have s:c∈a.res:=by rw[p];simp
    exact CP (B c s) C (g c s) h4
   refine .inr ⟨by simpa [zv,vI]using tV,P1,ds',h7,h8,by simpa [zv,vI]using h9,by simpa [zv,vI]using h10,fun i x u y A U R=>?_⟩;simp only[zv,vI,ab,dn]at A;obtain⟨c,p,rfl⟩:=A;have s:=bQ p;exact CP (B c s) C (g c s) (h11 i c u y p U R)
  .intro j b n m;have d:j∈(cU a.res).map (· +1000):=by rw[<-nw];exact n
   obtain⟨k,K,rfl⟩:=bq.1 d;exact h5 k b K (by simpa using m)
  .intro j k b n K m H;have d:j∈(cU a.res).map (· +1000):=by rw[<-nw];exact n
   have J:k∈(cU a.res).map (· +1000):=by rw[<-nw];exact K
   obtain⟨Q,L,rfl⟩:=bq.1 d;obtain⟨O,I,rfl⟩:=bq.1 J;rw[h6 Q O b L I (by simpa using m) (by simpa using H)]
  intro j n z;have d:j∈(cU a.res).map (· +1000):=by rw[<-nw];exact n
  obtain⟨k,_,rfl⟩:=bq.1 d;exfalso;unfold RZ at z;simp only[aT,bk]at z;omega
 .exact absurd E (by show a.ob≠some F;rw[l];simp)
 exact absurd E (by show a.ob≠some F;rw[l];simp)
def OX{P:Tap}{cs:ni}{Φ:Taa}{Pre:eN}{dst:Tak}{k:Nat}{a:dL}(h:BY cs dst k=some a)(b:∀k a,lk cs.l k=some a->bu P k a (Pre k) (Φ k)):bu P k a (Pre k) (Φ k):=by
 unfold BY at h;split at h
 .rename_i s c;split at h
  .rename_i d;injection h with h;subst h;exact(b k s c).aeT d.2.1 d.2.2
  injection h with h;subst h;exact b k _ c
 cases h
section
variable{P:Tap}{C:Cx}{w w0:Tam}{S0:gK}{G:Gh}{σ:St}{a:Act}{o:Tbc}{pc:dM}{s:SV}{is:List Item}{Φ:Taa}{Pre:eN}{n p:Nat}
def Lq{q:Tah}(D:fg w0 S0 C G σ w)(l:iO C w G σ.tm a)(d:bc C.ρ pc=true)(H:S0.prog=P)(h:Df P σ pc o=some ((s,is),q)):jK P C w G a o s:=by
 unfold Df at h;split at h
 .rename_i T m x B;split at h
  .rename_i id I K j i;split at h
   .rename_i J M g;split at h
    .rename_i e v N f;split at h
     .rename_i F;obtain⟨rfl,rfl⟩:=F;injection h with h;simp only[ah]at h;obtain⟨⟨rfl,rfl⟩,rfl⟩:=h;obtain⟨_,_,b,_⟩:=D.box _ _ _ g;unfold jL at b;rw[f]at b;obtain⟨y,L,k⟩:=b;obtain⟨u,t,r⟩:=dV l d i;have A:=(df l d j).2;rw[H]at k;have c:=k.lookup t r;refine⟨.bool ((den C.ρ e).A.any fun z=>z.Ye (den C.ρ I)),?_,?_⟩
      .unfold execOp;simp only[B,A];rw[bw,c];rfl
      exact⟨by simp[E.lt,y,u],.bool _,dg.2 ⟨_,rfl⟩⟩
     cases h
    cases h
   cases h
  cases h
 cases h
end
section
variable{α β:Type}[DecidableEq α]
def eh(h:α->β):fx h []=h:=by funext x;rfl
def tE(h:α->β)(k:α)(v:β)(l:List (α×β)):fx h ((k,v)::l)=fun x=>if x=k then v else fx h l x:=by
 funext x;simp only[fx,lk];split<;>rename_i b
 .by_cases c:x=k
  .rw[if_pos c]at b;injection b with b;rw[if_pos c,b]
  rw[if_neg c]at b;rw[if_neg c,b]
 by_cases c:x=k
 .rw[if_pos c]at b;cases b
 rw[if_neg c]at b;rw[if_neg c,b]
def Fm(h:Nat->β)(k:Nat)(v:β):fx h [(k,v)]=fC h k v:=by rw[tE];funext x;simp only[eh,fC]
def iL:∀{l:List (α×β)} {x:α} {v:β},lk l x=some v->(x,v)∈l
 |[],_,_,h=>by cases h
 |(k,u)::r,x,v,h=>by
  simp only[lk]at h;split at h
  .rename_i b;injection h with h;subst h;subst b;simp
  exact aK _ (iL h)
end
section
variable{P:Tap}{C:Cx}{w w0:Tam}{S0:gK}{G:Gh}{σ:St}{a:Act}{o:Tbc}{pc:dM}{s:SV}{is:List Item}{Φ:Taa}{Pre:eN}{n p:Nat}
def fg.congr{σ':St}(h:fg w0 S0 C G σ w)(e:σ'.hp=σ.hp)(d:σ'.live=σ.live):fg w0 S0 C G σ' w:=by obtain⟨tm,i,c⟩:=σ;obtain⟨f,g,b⟩:=σ';simp only at e d;subst e;subst d;exact⟨h.below,h.jI,h.keep,h.qq,h.lq,h.dT,h.gY,h.na,h.box,h.inj,h.own,h.gh,h.jA,h.eV,h.fresh,h.wz⟩
def IU{f:Tah}(i:fg w0 S0 C G σ w)(d:iO C w G σ.tm a)(c:bc C.ρ pc=true)(k:S0.prog=P)(h:qI P σ pc o=some ((s,is),f))(e:∀j∈is,fc C Φ Pre j):jK P C w G a o s:=by
 unfold qI at h
 have b:∀{x:Tao Pl},x.map (·,([]:Tah))=some ((s,is),f)->x=some (s,is):=by intro x g;simp only[dn,ah]at g;obtain⟨y,m,l,_⟩:=g;rw[m,l]
 split at h
 .exact Lr i d c h
 .exact Cw d c (b h)
 .exact Cw d c (b h)
 .exact Lp d c (b h)
 .exact Ls d c (b h) e
 .exact Kb d c (b h)
 .exact Kb d c (b h)
 .exact Eh d c (b h)
 .exact Bt d c (b h)
 .exact IV d c (b h)
 .exact Br d c (b h) e
 .exact O9 d c (b h) e
 .exact IT d c (b h) e
 .exact Gp d c (b h) e
 .exact IW d c (b h)
 .exact Lq i d c k h
 .exact Ao d c (b h)
 .exact Ao d c (b h)
 .exact Ao d c (b h)
 cases h
def XP:Tan->Tao Bool
 |.bool b=>some b
 |_=>none
def gE{ops:Tad}(A:iO C w G σ.tm a)(h:guardOf ops σ o=some pc):Region.wanted o (yielded ops a.tmps)=bc C.ρ pc/\∀x∈pc,x.1.lt C.N=true:=by
 unfold guardOf at h;unfold Region.wanted;split at h
 .rename_i m;injection h with h;subst h;rw[m];exact⟨rfl,by simp⟩
 rename_i j d m;rw[m];split at h
 .rename_i t B;split at h
  .rename_i c e l;injection h with h;subst h;obtain⟨v,E,D,F,i⟩:=A t c _ l
   have y:yielded ops a.tmps j=XP v:=by unfold yielded;rw[B];simp only[cq,E];cases v<;>rfl
   refine⟨?_,fun x k=>?_⟩
   .show(yielded ops a.tmps j==some d)=bc C.ρ ((e,d)::c);rw[y];have f:bc C.ρ ((e,d)::c)=(((den C.ρ e).W==d)&&bc C.ρ c):=rfl;rw[f];by_cases g:bc C.ρ c=true
    .rw[if_pos g]at i;obtain⟨_,u,r⟩:=i;obtain⟨b,q⟩:=dg.1 r;have z:=(q▸u).gU;rw[z,q,g,Bool.and_true];show(some b==some d)=(b==d);cases b<;>cases d<;>rfl
    rw[if_neg g]at i;have:bc C.ρ c=false:=by simpa using g
    rw[this,Bool.and_false,i];rfl
   rcases aH.1 k with rfl|k
   .exact F
   exact D x k
  cases h
 cases h
def fY(P:Tap)(n:Nat)(w0:Tam)(S0:gK)(C:Cx)(σ':St)(p:Nat)(ops:Tad)(a:Act)(w:Tam)(o:Tbc):Prop:=
 ∀(K:Act->Tae) (Q:Iv),(∀c b d,gQ n w0 S0 (C.add p) d σ' c b->K c b)->
  if Region.wanted o (yielded ops a.tmps) then o.wp P a w K Q else K (a.put o.dst undef) w
def Act.Ak(a:Act)(d:Tak)(v:Tan):(a.put d v).tmps.size=a.tmps.size:=by cases d<;>simp[Act.put]
def Act.J9(a:Act)(d:Tak)(v:Tan):(a.put d v).defers=a.defers:=by cases d<;>rfl
def gQ.step{e:jh}{w':Tam}{h:Gh}{v:Tan}(f:gQ n w0 S0 C G σ a w)(b:dS C w G (C.add p) w' h)(m:fg w0 S0 (C.add p) h (e.app σ) w')(k:e.dst=o.dst)(j:e.tW.2.lt C.N=true)(r:∀x∈e.tW.1,x.1.lt C.N=true)(l:(∃d,o.dst=some d)->if bc C.ρ e.tW.1 then wR (C.add p) w' h e.tW.2 v else v=undef)(g:∀d,o.dst=some d->d<n):gQ n w0 S0 (C.add p) h (e.app σ) (a.put o.dst v) w':=by
 refine⟨m,?_,by rw[Act.Ak];exact f.sz,by rw[Act.J9];exact f.defers⟩;cases Yk:o.dst with
 |none=>
  have c:(e.app σ).tm=σ.tm:=by unfold jh.app;rw[k,Yk]
  rw[c];exact f.t.later b
 |some d=>
  have c:(e.app σ).tm=fC σ.tm d (some (e.tW.1,e.tW.2)):=by unfold jh.app;rw[k,Yk]
  rw[c];exact(f.t.later b).put (some d) v e.tW.1 e.tW.2 r j (l ⟨d,Yk⟩) (fun i q=>by rw[f.sz];exact g i (by rw[Yk];exact q))
def BI{ops:Tad}{g:Tah}(f:gQ n w0 S0 C G σ a w)(x:guardOf ops σ o=some pc)(h:qI P σ pc o=some ((s,is),g))(i:s.lt C.N=true)(j:∀r∈is,fc C Φ Pre r)(c:∀d,o.dst=some d->d<n)(y:S0.prog=P):
  fY P n w0 S0 C ((⟨o.dst,(pc,s),[],[],g,is⟩:jh).app σ) p ops a w o:=by
 intro K Q q;obtain⟨u,l⟩:=gE f.t x;have k:fg w0 S0 (C.add p) G ((⟨o.dst,(pc,s),[],[],g,is⟩:jh).app σ) w:=(f.m.pH p).congr (eh _) (eh _);have b:=dS.pH C w G p;rw[u];cases yD:bc C.ρ pc with
 |true=>
  obtain⟨v,A,z⟩:=IU f.m f.t yD y h j;simp only[if_true];unfold Oper.wp;rw[A];exact q _ _ _ (f.step (o:=o) (e:=⟨o.dst,(pc,s),[],[],g,is⟩) b k rfl i l (by intro _;simp only[yD,if_true];exact z.later b) c)
 |false=>
  simp only[aj,if_false];exact q _ _ _ (f.step (o:=o) (e:=⟨o.dst,(pc,s),[],[],g,is⟩) b k rfl i l (by intro _;simp only[yD,aj,if_false]) c)
def Ld{l:List SC}(r:iO C w G σ.tm a)(q:bc C.ρ pc=true)(h:zo P σ pc o=some l)(m:l.all SC.scalar=true):
  ∃(vs:Tac) (T:Tba),(execOp a.eval o).run P w=.ok (.value (.pointer (some ⟨w.heap.size,0,none⟩))) (w.alloc (.cells vs.toArray T))/\jZ C w G l vs:=by
 unfold zo at h;split at h
 .rename_i t g;split at h
  .rename_i y z j b;refine⟨z.cells.toList,t,?_,qN h⟩;cases hi:P.info? t with
   |none=>simp[hi]at b
   |some it=>
    simp[hi]at b;unfold execOp;simp only[g,Instr.alloc];simp[zeroValue,typeInfo,hi,b,newVar,newRow]
  .rename_i z j b;split at h
   .rename_i f;injection h with h;subst h;refine⟨z.cells.toList,t,?_,by rw[f];rfl,?_⟩
    .cases hi:P.info? t with
     |none=>simp[hi]at b
     |some it=>
      simp[hi]at b;unfold execOp;simp only[g,Instr.alloc];simp[zeroValue,typeInfo,hi,b,newVar,newRow]
    rw[f];intro i c v e d
    match i,e,d with
    |0,e,d=>
     simp at e d;subst e d;exact .inl rfl
    |k+1,e,d=>simp at e
   cases h
  cases h
 .rename_i t x g;cases hg:gp P σ pc x t with
  |none=>simp[hg]at h
  |some sv=>
   simp only[hg,cq]at h;obtain⟨vs,d,u⟩:=qU h (df r q hg) m;refine⟨vs,t,?_,u⟩;unfold execOp;simp only[g,Instr.box];simp[newVar,newRow,d]
 cases h
def Gd{ops:Tad}{l:List SC}(g:gQ n w0 S0 C G σ a w)(j:¬C.M p)(q:guardOf ops σ o=some [])(h:zo P σ [] o=some l)(b:l.all SC.scalar=true)(f:∀d,o.dst=some d->d<n):
  fY P n w0 S0 C ((⟨o.dst,([],.one (.qo p 0)),[(p,some (false,l))],[],[],[]⟩:jh).app σ) p ops a w o:=by
 intro K Q r;obtain⟨i,_⟩:=gE g.t q;rw[i];simp only[bc,bX,if_true];obtain⟨x,T,v,u⟩:=Ld g.t (pc:=[]) rfl h b;unfold Oper.wp;rw[v];obtain⟨c,k⟩:=g.m.alloc j u b T
 exact r _ _ _ (g.step (o:=o) (e:=⟨o.dst,([],.one (.qo p 0)),[(p,some (false,l))],[],[],[]⟩) c (k.congr (Fm _ _ _) (eh _)) rfl rfl (by simp)
  (by intro _;simp only[bc,bX,if_true];exact⟨.inr rfl,by simp[fC]⟩) f)
def BH{ops:Tad}{id:Nat}{l:List SC}(r:gQ n w0 S0 C G σ a w)(hg:guardOf ops σ o=some [])(h:vO P σ [] o=some (id,l))(j:l.all SC.scalar=true)(Z:o.dst=none):
  fY P n w0 S0 C ((⟨none,([],.agg []),[(id,some (false,l))],[],[id],[]⟩:jh).app σ) p ops a w o:=by
 intro K Q hK;obtain⟨hw,_⟩:=gE r.t hg;rw[hw];simp only[bc,bX,if_true];unfold vO at h;split at h
 .rename_i t x y ho;split at h
  .rename_i g b R sz hx U W;split at h
   .rename_i A L;split at h
    .rename_i M;obtain⟨F,hl,I⟩:=M;obtain⟨rfl,rfl⟩:=iP h;obtain⟨_,a0,O,_⟩:=r.m.box _ _ _ L;obtain⟨S,T,Y,hr⟩:=O.cells F;have V:=(df r.t (pc:=[]) rfl hx).2;cases U2:gp P σ [] y t with
     |none=>simp[U2]at U
     |some sv=>
      simp only[U2,cq]at U
      have k:R.all SC.scalar=true:=by rw[List.all_append,List.all_append]at j;simp only[aT]at j;exact j.1.2
      obtain⟨z,hv,c⟩:=qU U (df r.t (pc:=[]) rfl U2) k;have H:=hr.N8 c I
      have E:∀u∈z,u.oneCell'=true:=by intro u hu;obtain⟨i,hi⟩:=aE hu;have X:i<z.length:=(aO.1 hi).1;have N:R[i]?=some (R[i]'(by rw[<-c.1];exact X)):=aS _;exact(c.2 i _ u N hi).iE (bY.1 k _ (bQ N))
      have B:=run_storeCells_at P (G.β g) b T z 0 S.toArray w Y (by simp[c.1,hr.1];exact I) E;simp only[dO]at B
      have D:(execOp a.eval o).run P w=.ok .skip (w.setRow (G.β g) (S.take b++z++S.drop (b+z.length)).toArray):=by have h1:=hC (P:=P) (w:=w) W;unfold execOp;simp only[ho,V,Instr.storeAt,Instr.sureAddr];simp[storeVar,h1,hv,c.1,hl,B]
      unfold Oper.wp;rw[D];obtain⟨J,hm⟩:=r.m.Wq L F H j;have q:=J.trans (dS.pH C _ G p)
      exact hK _ _ _ (r.step (o:=o) (e:=⟨none,([],.agg []),[(g,some (false,A.take b++R++A.drop (b+R.length)))],[],[g],[]⟩) q ((hm.pH p).congr (Fm _ _ _) (eh _)) Z.symm rfl (by simp)
       (v:=undef) (by rintro⟨d,f⟩;rw[Z]at f;cases f) (by intro d f;rw[Z]at f;cases f))
    cases h
   cases h
  cases h
 cases h
end
section
variable{P:Tap}{C:Cx}{w w0:Tam}{S0:gK}{G:Gh}{σ:St}{a:Act}{o:Tbc}{pc:dM}{s:SV}{is:List Item}{Φ:Taa}{Pre:eN}{n p:Nat}
def fg.Kk(q:fg w0 S0 C G σ w):∀(c:List (Nat×List SC)),(∀x∈c,∃k,σ.hp x.1=some (k,x.2)/\mapOf x.2=none)->
  ∃j,dS C w G C w j/\fg w0 S0 C j {σ with hp:=fx σ.hp (c.map fun x=>(x.1,some (true,x.2)))} w/\(∀x∈c,∀o,o<x.2.length->j.S (G.β x.1) o)/\j.β=G.β
 |[],_=>⟨G,dS.refl C w G,q.congr (eh _) rfl,by simp,rfl⟩
 |(id,cs)::c,h=>by
  obtain⟨F,z,y,B,r⟩:=fg.Kk q c (fun x e=>h x (aK _ e));obtain⟨k,f,g⟩:=h (id,cs) (by simp);simp only at f g
  have b:∃d,fx σ.hp (c.map fun x=>(x.1,some (true,x.2))) id=some (d,cs):=by
   unfold fx;cases hl:lk (c.map fun x=>(x.1,some (true,x.2))) id with
   |none=>exact⟨k,f⟩
   |some v=>
    have:=iL hl;simp only[bq,ah]at this;obtain⟨x,e,rfl,rfl⟩:=this;obtain⟨t,i,_⟩:=h x (aK _ e);rw[f]at i;injection i with i;simp only[ah]at i;exact⟨true,by rw[i.2]⟩
  obtain⟨d,b⟩:=b;obtain⟨E,l,u,A,D,_⟩:=y.freeze (id:=id) (ro:=d) (cs:=cs) b g;refine⟨E,z.trans l,?_,?_,by rw[D,r]⟩
  .refine u.congr ?_ rfl;show fx σ.hp ((id,some (true,cs))::c.map fun x=>(x.1,some (true,x.2)))=fC (fx σ.hp (c.map fun x=>(x.1,some (true,x.2)))) id (some (true,cs));rw[tE];rfl
  intro x e o m;rcases aH.1 e with rfl|e
  .rw[<-r];exact A o m
  exact l.S _ _ (B x e o m)
def AN:∀{l:List Tbb} {es:List (E×Ty)} {b:List (Nat×List SC)},rU P σ pc l=some (es,b)->∀x∈b,∃c,σ.hp x.1=some (c,x.2)/\mapOf x.2=none
 |[],es,b,h=>by simp only[rU,aa,ah]at h;obtain⟨rfl,rfl⟩:=h;simp
 |y::l,es,b,h=>by
  simp only[rU]at h;split at h
  .rename_i id k j m f;split at h
   .rename_i c r g;split at h
    .rename_i i;obtain⟨rfl,rfl⟩:=iP h;intro x d;rcases aH.1 d with rfl|d
     .exact⟨c,g,jc i⟩
     exact AN f x d
    cases h
   cases h
  .rename_i e q k j m f;obtain⟨rfl,rfl⟩:=iP h;exact AN f
  cases h
def AM(B:fg w0 S0 C G σ w)(r:iO C w G σ.tm a)(f:bc C.ρ pc=true){L:Gh}(b:dS C w G C w L):∀{l:List Tbb} {es:List (E×Ty)} {t:List (Nat×List SC)},rU P σ pc l=some (es,t)->
  (∀x∈t,∀o,o<x.2.length->L.S (G.β x.1) o)->es.length=l.length/\∀(i:Nat) x e,l[i]?=some x->es[i]?=some e->e.1.lt C.N=true/\cg w L.S (a.eval x) (den C.ρ e.1)/\Has e.2 (den C.ρ e.1)
 |[],es,t,h,_=>by simp only[rU,aa,ah]at h;obtain⟨rfl,rfl⟩:=h;exact⟨rfl,by intro i x e c;simp at c⟩
 |y::l,es,t,h,hS=>by
  simp only[rU]at h;split at h
  .rename_i id K J I A;split at h
   .rename_i ro cs F;split at h
    .rename_i Q ts k;obtain⟨rfl,rfl⟩:=iP h;obtain⟨z,u⟩:=AM B r f b A (fun x hx=>hS x (aK _ hx));refine⟨by simp[z],fun i x e c g=>?_⟩;cases i with
     |succ i=>exact u i x e (by simpa using c) (by simpa using g)
     |zero=>
      simp at c g;subst c;subst g;have hv:=(df r f I).2;obtain⟨_,_,q,_⟩:=B.box _ _ _ F;obtain⟨R,T,H,j⟩:=q.cells (jc k);obtain⟨m1,M,m3,Z,Y⟩:=mj k j;have O:den C.ρ (.un .qv (.V Q))=.ptr (Q.map (den C.ρ)):=by simp only[den,gg,U.den,D.A]
      refine⟨by simpa [E.lt]using m1,?_,?_⟩
      .rw[O,hv];refine .ptr _ R _ (by simp[M]) (fun i c=>hS (id,cs) (by simp) i (by simp[M,j.1]at c;exact c)) (fun i v c=>?_) (fun i v d c m=>?_)
       .rw[cell_of_row w _ i _ T _ H];simpa using c
       simp only[ab,dn]at m;obtain⟨e,g,rfl⟩:=m;exact(Z i v e c g).keep b.S b.cell
      rw[O];exact ik.2 ⟨_,rfl,Y⟩
    cases h
   cases h
  .rename_i e fs K J I A;obtain⟨rfl,rfl⟩:=iP h;obtain⟨z,u⟩:=AM B r f b A hS;refine⟨by simp[z],fun i x e' c g=>?_⟩;cases i with
   |succ i=>exact u i x e' (by simpa using c) (by simpa using g)
   |zero=>
    simp at c g;subst c;subst g;obtain⟨X,W,V⟩:=df r f I;exact⟨X,W.keep b.S b.cell,V⟩
  cases h
def IF{ops:Tad}{e:E}{t:Ty}{V:List (Nat×List SC)}(z:gQ n w0 S0 C G σ a w)(hg:guardOf ops σ o=some pc)(h:Mx P σ pc o=some (e,t,V))(B:e.lt C.N=true)(H:∀d,o.dst=some d->d<n):
  fY P n w0 S0 C ((⟨o.dst,(pc,.one (.gH e t)),V.map fun x=>(x.1,some (true,x.2)),[],V.map (·.1),[]⟩:jh).app σ) p ops a w o:=by
 intro K Q hK;obtain⟨hw,hc⟩:=gE z.t hg;rw[hw];unfold Mx at h;split at h
 .rename_i f first b ho
  split at h
  .rename_i k;split at h
   .rename_i es y g;obtain⟨hE,hT,hF⟩:=Mi h;subst hF;obtain⟨G',l,hm,J,a0⟩:=z.m.Kk y (AN g);have q:=l.trans (dS.pH C w G' p);have R:=(hm.pH p);have L:=fun(v:Tan) hv=>z.step (o:=o) (v:=v) (e:=(⟨o.dst,(pc,.one (.gH e t)),y.map fun x=>(x.1,some (true,x.2)),[],y.map (·.1),[]⟩:jh)) q (R.congr rfl (eh _)) rfl B hc hv H;cases yD:bc C.ρ pc with
    |false=>
     simp only[aj,if_false];exact hK _ _ _ (L _ (by intro _;simp only[yD,aj,if_false]))
    |true=>
     simp only[if_true];obtain⟨X,W⟩:=AM z.m z.t yD l g J;have T:first=#[]:=by apply dI;simpa using k
     have A:(execOp a.eval o).run P w=.ok (.value (.func (.func f) #[] (b.toList.map a.eval).toArray)) w:=by
      have O:(b.toList.map a.eval).toArray=b.map a.eval:=by apply dI;simp
      unfold execOp;simp only[ho,Instr.makeFunc,T,O];simp
     unfold Oper.wp;rw[A];refine hK _ _ _ (L _ ?_);intro _;simp only[yD,if_true];have hd:den C.ρ e=.fn f ((es.map (·.1)).map (den C.ρ)):=by rw[<-hE];simp only[den,gg,U.den,D.A]
     refine⟨B,?_,?_⟩
     .show cg w G'.S _ (den C.ρ _);rw[hd];refine .fn f _ _ (by simp[X]) fun i v d Z I=>?_;simp only[ab,dn]at Z I;obtain⟨x,M,rfl⟩:=Z;obtain⟨e1,⟨e2,c,rfl⟩,rfl⟩:=I;exact(W i x e2 M c).2.1
     show Has _ (den C.ρ _);rw[hd,<-hT];refine lz.2 ⟨_,rfl,jk (by simp) fun j u x Y M=>?_⟩;simp only[ab,dn]at Y M;obtain⟨e1,r,rfl⟩:=Y;obtain⟨_,⟨e2,c,rfl⟩,rfl⟩:=M;rw[r]at c;injection c with c;subst c;have F:j<b.toList.length:=by rw[<-X];exact(aO.1 r).1
     exact(W j _ e1 (aS F) r).2.2
   cases h
  cases h
 cases h
def F8(f:iO C w G σ.tm a)(b:bc C.ρ pc=true):∀{l:List Tbb} {ts:List Tba} {es:List (E×Ty)},xU P σ pc l ts=some es->
  es.length=l.length/\∀(i:Nat) x e,l[i]?=some x->es[i]?=some e->cg w G.S (a.eval x) (den C.ρ e.1)/\Has e.2 (den C.ρ e.1)
 |[],[],es,h=>by simp only[xU,aa]at h;subst h;exact⟨rfl,by intro i x e c;simp at c⟩
 |y::l,t::ts,es,h=>by
  simp only[xU]at h;split at h
  .rename_i e q m k;injection h with h;subst h;obtain⟨j,g⟩:=F8 f b k;refine⟨by simp[j],fun i x r c d=>?_⟩;cases i with
   |zero=>simp at c d;subst c;subst d;exact(dV f b m).2
   |succ i=>exact g i x r (by simpa using c) (by simpa using d)
  cases h
 |[],_::_,_,h=>by cases h
 |_::_,[],_,h=>by cases h
def uF.ok{base:Nat}{S:bE}{T:Tba}{t:Ty}{v:Tan}{d:D}{g:Tag}(h:uF g.ex w base S T t v d){e:E}(j:C.M g.1)(c:e.lt C.N=true)(f:den C.ρ e=d)(i:G.S=S)(b:G.τ g=v):
  jg C w base G g e T t:=by obtain⟨l,m,k⟩:=h;subst f;subst i;subst b;exact⟨j,c,l,k⟩
def pB(own:Bool)(p:Nat)(e:E):∀(l:List bF) (j i:Nat),(lG own p e j l)[i]?=(l[i]?).map fun c=>oc own p (.un (.cell (j+i)) e) c
 |[],j,i=>by simp[lG]
 |c::l,j,0=>by simp[lG]
 |c::l,j,i+1=>by simp only[lG,dw,pB own p e l (j+1) i];congr 2;funext t;congr 3;omega
def tc(own:Bool)(p:Nat)(e:E):∀(l:List bF) (j:Nat),(lG own p e j l).length=l.length
 |[],_=>rfl
 |_::l,j=>by simp[lG,tc own p e l]
def ym(own:Bool)(p:Nat)(e:E):∀(l:List (Bool×List bF)) (j i:Nat),(nq own p e j l)[i]?=(l[i]?).map fun c=>zU own p (.un (.cell (j+i)) e) c
 |[],j,i=>by simp[nq]
 |c::l,j,0=>by simp[nq]
 |c::l,j,i+1=>by simp only[nq,dw,ym own p e l (j+1) i];congr 2;funext t;congr 3;omega
def yl(own:Bool)(p:Nat)(e:E):∀(l:List (Bool×List bF)) (j:Nat),(nq own p e j l).length=l.length
 |[],_=>rfl
 |_::l,j=>by simp[nq,yl own p e l]
def tS{base:Nat}{τ:Taj}{c:bF}{v:Tan}{d:D}{e:E}(h:jN w base G.S τ c v d)(x:C.M p)(r:e.lt C.N=true)(u:den C.ρ e=d)(i:∀j,G.τ (p,j)=τ j)(own:Bool)(y:own=true\/∀j T,c.2=some (j,T)->BA j=false:=by exact .inl rfl):
  ru C w G (oc own p e c) v:=by
 obtain⟨t,_|⟨j,T⟩⟩:=c
 .obtain⟨A,q⟩:=h;exact⟨r,u▸A,u▸q⟩
 obtain⟨rfl,q⟩:=h;have k:=uF.ok (C:=C) (G:=G) (g:=(p,j)) q x r u rfl (i j);cases KJ:BA j with
 |true=>
  have z:own=true:=y.elim id fun h=>by rw[h j T rfl]at KJ;cases KJ
  subst z;simp only[oc,if_true,KJ];refine⟨x,(i j).symm,?_⟩;obtain⟨B,l,_,m,_⟩:=q.own;rcases m.2 with⟨hv,_⟩|⟨b,cap,cur,hv,_⟩
  .exact⟨_,_,_,hv⟩
  exact⟨_,_,_,hv⟩
 |false=>
  have f:=k.rep q.sz KJ;rw[i j]at f;cases own with
  |true=>simp only[oc,if_true,KJ,aj,if_false];exact⟨x,r,f,k.has,(i j).symm⟩
  |false=>exact⟨r,f,k.has⟩
def CO{base:Nat}{τ:Taj}{c:Bool×List bF}{v:Tan}{d:D}{e:E}(h:gk w base G.S τ c v d)(H:C.M p)(B:e.lt C.N=true)(F:den C.ρ e=d)(g:∀j,G.τ (p,j)=τ j)(own:Bool)(b:own=true\/∀y∈c.2,∀j T,y.2=some (j,T)->BA j=false:=by exact .inl rfl):
  lR C w G (zU own p e c) v:=by
 have k:=b;clear b;unfold gk at h;unfold lR zU;cases hc:c.1 with
 |true=>
  simp only[hc,if_true]at h⊢;obtain⟨I,A,rfl,rfl,t,r,f⟩:=h;refine⟨I,rfl,by rw[tc,t],fun i x u b J=>?_⟩;rw[pB]at b;simp only[dn]at b;obtain⟨y,m,rfl⟩:=b;have z:i<A.length:=by rw[r];exact(aO.1 m).1
  have l:A[i]?=some A[i]:=aS z;refine tS (f i y u _ m J l) H (by simpa [E.lt]using B) ?_ g own (k.imp id fun h=>h y (bQ m));simp only[den,U.den,F,D.A,av];exact gx l
 |false=>
  simp only[hc,aj,if_false]at h⊢;obtain⟨x,b,q⟩:=h;exact⟨oc own p e x,by rw[b];rfl,tS q H B F g own (k.imp id fun h=>h x (by rw[b];simp))⟩
def Cr{base:Nat}{τ:Taj}{b:List (Bool×List bF)}{v:Tan}{e:E}(h:im w base G.S τ b v (den C.ρ e))(A:C.M p)(z:e.lt C.N=true)(f:∀j,G.τ (p,j)=τ j)(own:Bool)(d:own=true\/KO b=true:=by exact .inl rfl):
  wR C w G (uL own p e b) v:=by
 have k:own=true\/∀c∈b,∀y∈c.2,∀j T,y.2=some (j,T)->BA j=false:=d.imp id fun h c I y g j T H=>by have:=bY.1 (bY.1 h c I) y g;rw[H]at this;simpa using this
 clear d;rcases h with⟨c,rfl,h⟩|⟨tV,vs,ds,rfl,hd,hl1,hl2,uk⟩
 .have:=CO h A z rfl f own (k.imp id fun h=>h c (by simp));unfold lR at this;simp only[uL];split
  .rename_i l q;rw[q]at this;simpa [wR]using this
  rename_i l q;rw[q]at this;simp only[aj,if_false]at this;obtain⟨J,rfl,t⟩:=this;exact t
 have F:uL own p e b=.ff (nq own p e 0 b):=by
  match b,tV with
  |[],_=>rfl
  | [c],tV=>exact absurd rfl tV
  |_::_::_,_=>rfl
 rw[F];refine⟨vs,rfl,by rw[yl,hl1],fun i x u d B=>?_⟩;rw[ym]at d;simp only[dn]at d;obtain⟨y,g,rfl⟩:=d;have r:i<ds.length:=by rw[hl2];exact(aO.1 g).1
 have m:ds[i]?=some ds[i]:=aS r;refine CO (uk i y u _ g B m) A (by simpa [E.lt]using z) ?_ f own (k.imp id fun h=>h y (bQ g));simp only[den,U.den,hd,D.A,av];exact gx m
def xj(C:Cx)(w:Tam)(base:Nat)(G:Gh)(p:Nat)(idx:Tah)(x:Tag×Tao (E×Tba×Ty)):Prop:=
 x.1.1=p/\x.1.2∈idx/\∃e T t,x.2=some (e,T,t)/\jg C w base G x.1 e T t
def td{base:Nat}{τ:Taj}{c:bF}{v:Tan}{d:D}{e:E}{idx:Tah}(h:jN w base G.S τ c v d)(m:C.M p)(k:e.lt C.N=true)(l:den C.ρ e=d)(i:∀j,G.τ (p,j)=τ j)(b:∀j T,c.2=some (j,T)->j∈idx):∀x∈kE p e c,xj C w base G p idx x:=by
 obtain⟨t,_|⟨j,T⟩⟩:=c
 .intro x f;simp[kE]at f
 intro x f;simp only[kE,ax]at f;subst f;obtain⟨rfl,q⟩:=h;exact⟨rfl,b j T rfl,e,T,t,rfl,uF.ok (g:=(p,j)) q m k l rfl (i j)⟩
def pV(p:Nat)(e:E):∀(l:List bF) (j:Nat) (x),x∈me p e j l->∃(i:Nat) (c:bF),l[i]?=some c/\x∈kE p (.un (.cell (j+i)) e) c
 |[],j,x,h=>by simp[me]at h
 |c::l,j,x,h=>by
  simp only[me,aM]at h;rcases h with h|h
  .exact⟨0,c,rfl,h⟩
  obtain⟨i,f,d,b⟩:=pV p e l (j+1) x h;exact⟨i+1,f,by simpa using d,by rw[show j+(i+1)=j+1+i by omega];exact b⟩
def uw(p:Nat)(e:E):∀(l:List (Bool×List bF)) (j:Nat) (x),x∈nM p e j l->∃(i:Nat) (c:Bool×List bF),l[i]?=some c/\x∈sw p (.un (.cell (j+i)) e) c
 |[],j,x,h=>by simp[nM]at h
 |c::l,j,x,h=>by
  simp only[nM,aM]at h;rcases h with h|h
  .exact⟨0,c,rfl,h⟩
  obtain⟨i,f,d,b⟩:=uw p e l (j+1) x h;exact⟨i+1,f,by simpa using d,by rw[show j+(i+1)=j+1+i by omega];exact b⟩
def yn{base:Nat}{τ:Taj}{c:Bool×List bF}{v:Tan}{d:D}{e:E}{idx:Tah}(h:gk w base G.S τ c v d)(B:C.M p)(z:e.lt C.N=true)(A:den C.ρ e=d)(l:∀j,G.τ (p,j)=τ j)(f:∀y∈c.2,∀j T,y.2=some (j,T)->j∈idx):∀x∈sw p e c,xj C w base G p idx x:=by
 intro x b;unfold gk at h;unfold sw at b;cases hc:c.1 with
 |true=>
  simp only[hc,if_true]at h b;obtain⟨u,F,rfl,rfl,I,H,g⟩:=h;obtain⟨i,y,k,b⟩:=pV p e _ _ _ b;have J:i<c.2.length:=(aO.1 k).1;have m:F[i]?=some (F[i]'(by omega)):=aS _;have r:u[i]?=some (u[i]'(by omega)):=aS _;refine td (g i y _ _ k r m) B (by simpa [E.lt]using z) ?_ l (fun j T t=>f y (bQ k) j T t) x b;simp only[den,U.den,A,D.A,av];exact gx m
 |false=>
  simp only[hc,aj,if_false]at h b;obtain⟨y,k,q⟩:=h;rw[k]at b;simp only[List.flatMap_cons,List.flatMap_nil,dh]at b;exact td q B z A l (fun j T t=>f y (by rw[k];simp) j T t) x b
def xZ{base:Nat}{τ:Taj}{res:List (Bool×List bF)}{v:Tan}{e:E}(h:im w base G.S τ res v (den C.ρ e))(q:C.M p)(m:e.lt C.N=true)(d:∀j,G.τ (p,j)=τ j):
  ∀x∈od p e res,xj C w base G p (cU res) x:=by
 have b:∀c∈res,∀y∈c.2,∀j T,y.2=some (j,T)->j∈cU res:=by intro c z y f j T t;unfold cU;rw[dj];exact⟨c,z,bH.2 ⟨y,f,by rw[t];rfl⟩⟩
 rcases h with⟨c,rfl,h⟩|⟨tV,vs,ds,rfl,hd,hl1,hl2,uk⟩
 .exact yn h q m rfl d (b c (by simp))
 have r:od p e res=nM p e 0 res:=by
  match res,tV with
  |[],_=>rfl
  | [c],tV=>exact absurd rfl tV
  |_::_::_,_=>rfl
 rw[r];intro x k;obtain⟨i,y,f,k⟩:=uw p _ _ _ _ k;have u:i<res.length:=(aO.1 f).1;have g:ds[i]?=some (ds[i]'(by omega)):=aS _;have l:vs[i]?=some (vs[i]'(by omega)):=aS _;refine yn (uk i y _ _ f l g) q (by simpa [E.lt]using m) ?_ d (b y (bQ f)) x k;simp only[den,U.den,hd,D.A,av];exact gx g
def Ah{base:Nat}{τ:Taj}{b:List (Bool×List bF)}{v:Tan}(h:im w base G.S τ b v (C.ρ p))(g:C.M p)(f:p<C.N)(c:∀j,G.τ (p,j)=τ j)(own:Bool)(d:own=true\/KO b=true:=by exact .inl rfl):
  wR C w G (nT own p b) v:=Cr (e:=.var p) h g (by simpa [E.lt]using f) c own d
def uR{base:Nat}{τ:Taj}{b:List (Bool×List bF)}{v:Tan}(h:im w base G.S τ b v (C.ρ p))(f:C.M p)(d:p<C.N)(c:∀j,G.τ (p,j)=τ j):
  ∀x∈gO p b,xj C w base G p (cU b) x:=xZ (e:=.var p) h f (by simpa [E.lt]using d) c
end
def rb:∀{l:List (Tao Tag)},kY l=true->∀(i j:Nat) g,l[i]?=some (some g)->l[j]?=some (some g)->i=j
 |[],_,i,j,g,h,_=>by simp at h
 |x::r,hn,i,j,g,hi,hj=>by
  have c:kY r=true:=by cases x<;>simp[kY]at hn<;>first|exact hn|exact hn.2
  have b:x=some g->some g∉r:=by rintro rfl;simp only[kY,aT,eT]at hn;simpa using hn.1
  cases i with
  |zero=>
   cases j with
   |zero=>rfl
   |succ j=>
    simp at hi hj;exact absurd (bQ hj) (b hi)
  |succ i=>
   cases j with
   |zero=>
    simp at hi hj;exact absurd (bQ hi) (b hj)
   |succ j=>rw[rb c i j g (by simpa using hi) (by simpa using hj)]
section
variable{P:Tap}{C:Cx}{w w0:Tam}{S0:gK}{G:Gh}{σ:St}{a:Act}{n:Nat}
def pY(G:Gh)(l:lj):Taj:=fun j=>match lk l j with
 |some (some g)=>G.τ g
 |_=>.slice none 0 0
def mc{c β:Type}[DecidableEq c] :∀{l:List (c×β)} {k:c} {v:β},(l.map (·.1)).Nodup->(k,v)∈l->lk l k=some v
 |[],_,_,_,h=>by simp at h
 |(a,b)::l,k,v,hn,h=>by
  simp only[cM,List.nodup_cons]at hn;simp only[lk];rcases aH.1 h with h|h
  .simp only[ah]at h;obtain⟨rfl,rfl⟩:=h;simp
  have:k≠a:=fun e=>hn.1 (bq.2 ⟨(k,v),h,e⟩);rw[if_neg this];exact mc hn.2 h
def IL{r:bF}{c:SC}{e:E}{l L:lj}{v:Tan}(H:fg w0 S0 C G σ w)(h:jC σ r c=some (e,l))(q:ru C w G c v)(F:∀x∈l,x∈L)(B:(L.map (·.1)).Nodup):
  jN w 0 G.S (pY G L) r v (den C.ρ e):=by
 obtain⟨t,_|⟨j,T⟩⟩:=r
 .simp only[jC]at h;split at h
  .rename_i O A I;split at h
   .rename_i m;obtain⟨rfl,rfl⟩:=iP h;subst m;exact(kZ I q).2
   cases h
  split at h
  .split at h
   .rename_i m;obtain⟨rfl,rfl⟩:=iP h;subst m;obtain⟨_,rfl⟩:=q;exact⟨.ptr _ [] [] rfl (fun i u=>by simp at u) (fun i v u=>by simp at u) (fun i v d u=>by simp at u),⟨[],rfl,rfl⟩⟩
   cases h
  cases h
 simp only[jC]at h;split at h
 .rename_i A;split at h
  .rename_i y;obtain⟨rfl,k⟩:=y;obtain⟨rfl,rfl⟩:=iP h;have f:pY G L j=.slice none 0 0:=by unfold pY;rw[mc B (F (j,none) (by simp))]
   refine⟨by rw[f];exact q,⟨bO.2 ⟨[],rfl,gM _,by simp⟩,k,[],[],rfl,?_,?_,by simp⟩⟩
   .rw[f];exact fJ w _ _ _
   rw[f];intro b J;cases J
  cases h
 .rename_i g N A;split at h
  .rename_i K M z D;split at h
   .rename_i y;obtain⟨rfl,rfl,rfl,k,p,o⟩:=y;obtain⟨rfl,rfl⟩:=iP h;have f:pY G L j=G.τ g:=by unfold pY;rw[mc B (F (j,some g) (by simp))]
    have s:=H.own _ _ _ _ D;refine⟨by rw[f];exact q.2.2.2.2,⟨s.has,k,?_⟩⟩;rw[f];have e:BA j=g.ex:=by rw[o,p]
    rw[e];exact s.own
   cases h
  cases h
 .rename_i g A;split at h
  .rename_i K M z D;split at h
   .rename_i y;obtain⟨rfl,rfl,rfl,k,p,o⟩:=y;obtain⟨rfl,rfl⟩:=iP h;have f:pY G L j=G.τ g:=by unfold pY;rw[mc B (F (j,some g) (by simp))]
    have s:=H.own _ _ _ _ D;refine⟨by rw[f];exact q.2.1,⟨s.has,k,?_⟩⟩;rw[f];have e:BA j=g.ex:=by rw[o,p]
    rw[e];exact s.own
   cases h
  cases h
 cases h
def jU{L:lj}(o:fg w0 S0 C G σ w)(m:(L.map (·.1)).Nodup):∀{d:List bF} {cs:List SC} {es:List E} {l:lj} {vs:Tac},gy σ d cs=some (es,l)->jZ C w G cs vs->(∀x∈l,x∈L)->
  es.length=d.length/\vs.length=d.length/\∀(i:Nat) r v e,d[i]?=some r->vs[i]?=some v->es[i]?=some e->jN w 0 G.S (pY G L) r v (den C.ρ e)
 |[],[],es,l,vs,h,hr,_=>by simp only[gy,aa,ah]at h;obtain⟨rfl,rfl⟩:=h;exact⟨rfl,by have:=hr.1;simpa using this,by intro i r v e b;simp at b⟩
 |[],_::_,_,_,_,h,_,_=>by cases h
 |_::_,[],_,_,_,h,_,_=>by cases h
 |r::d,c::cs,es,l,vs,h,hr,hL=>by
  simp only[gy]at h;split at h
  .rename_i e F A D z y;obtain⟨rfl,rfl⟩:=iP h;cases vs with
   |nil=>have:=hr.1;simp at this
   |cons v vs=>
    have j:jZ C w G cs vs:=⟨by have:=hr.1;simpa using this,fun i c v b f=>hr.2 (i+1) c v (by simpa using b) (by simpa using f)⟩;obtain⟨u,t,s⟩:=jU o m y j (fun x g=>hL x (by simp[g]));refine⟨by simp[u],by simp[t],fun i q p B b f k=>?_⟩;cases i with
    |zero=>
     simp at b f k;subst b;subst f;subst k;exact IL o z (hr.2 0 c _ rfl rfl) (fun x g=>hL x (by simp[g])) m
    |succ i=>exact s i q p B (by simpa using b) (by simpa using f) (by simpa using k)
  cases h
def Gn{r:bF}{c:SC}{e:E}{l:lj}(h:jC σ r c=some (e,l)):(r.2.map (·.1)).toList=l.map (·.1):=by
 obtain⟨t,_|⟨j,T⟩⟩:=r
 .simp only[jC]at h;split at h
  .split at h
   .injection h with h;simp only[ah]at h;rw[<-h.2];rfl
   cases h
  split at h
  .split at h
   .injection h with h;simp only[ah]at h;rw[<-h.2];rfl
   cases h
  cases h
 simp only[jC]at h;split at h
 .split at h
  .injection h with h;simp only[ah]at h;rw[<-h.2];rfl
  cases h
 .split at h
  .split at h
   .injection h with h;simp only[ah]at h;rw[<-h.2];rfl
   cases h
  cases h
 .split at h
  .split at h
   .injection h with h;simp only[ah]at h;rw[<-h.2];rfl
   cases h
  cases h
 cases h
def nu:∀{b:List bF} {cs:List SC} {es:List E} {l:lj},gy σ b cs=some (es,l)->(b.filterMap fun x=>x.2.map (·.1))=l.map (·.1)
 |[],cs,es,l,h=>by
  cases cs<;>simp[gy]at h
  obtain⟨rfl,rfl⟩:=h;rfl
 |_::_,[],_,_,h=>by cases h
 |r::b,c::cs,es,l,h=>by
  simp only[gy]at h;split at h
  .rename_i e d;injection h with h;simp only[ah]at h;rw[<-h.2,ck,<-Gn e,<-nu d];cases hr:r.2 with
   |none=>simp[hr]
   |some x=>simp[hr]
  cases h
def Ea{r:bF}{c:SC}{e:E}{l:lj}{j:Nat}{g:Tag}(h:jC σ r c=some (e,l))(b:(j,some g)∈l):∃z,σ.live g=some z:=by
 obtain⟨t,_|⟨f,T⟩⟩:=r
 .simp only[jC]at h;split at h
  .split at h
   .injection h with h;simp only[ah]at h;rw[<-h.2]at b;simp at b
   cases h
  split at h
  .split at h
   .injection h with h;simp only[ah]at h;rw[<-h.2]at b;simp at b
   cases h
  cases h
 simp only[jC]at h;split at h
 .split at h
  .injection h with h;simp only[ah]at h;rw[<-h.2]at b;simp at b
  cases h
 .split at h
  .rename_i d;split at h
   .injection h with h;simp only[ah]at h;rw[<-h.2]at b;simp at b;obtain⟨rfl,rfl⟩:=b;exact⟨_,d⟩
   cases h
  cases h
 .split at h
  .rename_i d;split at h
   .injection h with h;simp only[ah]at h;rw[<-h.2]at b;simp at b;obtain⟨rfl,rfl⟩:=b;exact⟨_,d⟩
   cases h
  cases h
 cases h
def mB:∀{d:List bF} {cs:List SC} {es:List E} {l:lj} {j:Nat} {g:Tag},gy σ d cs=some (es,l)->(j,some g)∈l->∃z,σ.live g=some z
 |[],[],es,l,j,g,h,b=>by simp[gy]at h;obtain⟨rfl,rfl⟩:=h;simp at b
 |[],_::_,_,_,_,_,h,_=>by cases h
 |_::_,[],_,_,_,_,h,_=>by cases h
 |r::d,c::cs,es,l,j,g,h,b=>by
  simp only[gy]at h;split at h
  .rename_i f e;injection h with h;simp only[ah]at h;rw[<-h.2]at b;rcases aM.1 b with b|b
   .exact Ea f b
   exact mB e b
  cases h
def xw{l:lj}(A:fg w0 S0 C G σ w)(h:pK l=true)(d:∀j g,(j,some g)∈l->∃z,σ.live g=some z){j k b:Nat}(D:j∈l.map (·.1))(B:k∈l.map (·.1))(f:(pY G l j).ownBlock=some b)(e:(pY G l k).ownBlock=some b):j=k:=by
 unfold pK at h;simp only[aT,bk]at h;obtain⟨s,i⟩:=h;obtain⟨x,r,rfl⟩:=bq.1 D;obtain⟨y,q,rfl⟩:=bq.1 B;have ex:lk l x.1=some x.2:=mc i r;have H:lk l y.1=some y.2:=mc i q;unfold pY at f e;rw[ex]at f;rw[H]at e;obtain⟨L,_|t⟩:=x
 .cases f
 obtain⟨K,_|F⟩:=y
 .cases e
 simp only at f e;obtain⟨J,p⟩:=d _ _ r;obtain⟨I,o⟩:=d _ _ q;have E:=A.jA t F _ _ b p o f e;subst E;obtain⟨v,m⟩:=aE r;obtain⟨u,c⟩:=aE q;have:=rb s v u t (by rw[ab,m];rfl) (by rw[ab,c];rfl);subst this;rw[m]at c;injection c with c;simp only[ah]at c;exact c.1
def vN{l:lj}(c:pK l=true){j b:Nat}(f:j∈l.map (·.1))(d:(pY G l j).ownBlock=some b):∃g,(j,some g)∈l/\(G.τ g).ownBlock=some b:=by
 unfold pK at c;simp only[aT,bk]at c;obtain⟨x,e,rfl⟩:=bq.1 f;have ex:lk l x.1=some x.2:=mc c.2 e;unfold pY at d;rw[ex]at d;obtain⟨i,_|h⟩:=x
 .cases d
 exact⟨h,e,d⟩
end
section
variable{P:Tap}{C:Cx}{w w0:Tam}{S0:gK}{G:Gh}{σ:St}{a:Act}{n p:Nat}
def fg.QI(h:fg w0 S0 C G σ w)(hp:¬C.M p){w':Tam}{S':bE}{τ':Taj}{βn:Nat}{ids:Tah}{kill:List Tag}{mu:Tai}(v:gw mu w w')(a2:∀b,mu b->(∃id∈ids,b=G.β id)\/∃g∈kill,(G.τ g).ownBlock=some b)(f:∀id∈ids,∃Z,σ.hp id=some (false,Z))(J:∀g∈kill,∃x,σ.live g=some x)(hS:∀b o,G.S b o->S' b o)(b9:∀b o,S' b o->b<w'.heap.size)(U:∀b o,S' b o->G.S b o\/w.heap.size<=b\/mu b)(a3:∀b o,G.S b o->w'.cell? ⟨b,o,none⟩=w.cell? ⟨b,o,none⟩)(B:Nat->Tao (Bool×List SC))(live':Tag->Tao (E×Tba×Ty))(G':Gh)(hG:G'={S:=S',β:=fC G.β p βn,τ:=fun g=>if g.1=p then τ' g.2 else G.τ g})(a4:∀id x,B id=some x->(id∉ids/\id≠p/\σ.hp id=some x)\/(x.1=false/\(id∈ids\/(id=p/\(w.heap.size<=βn\/∃d∈ids,βn=G.β d/\B d=none)))/\x.2.all SC.scalar=true/\
   jL S0.prog (C.add p) w' G' (G'.β id) x.2/\∀o,¬S' (G'.β id) o))(s:∀g x,live' g=some x->(g.1≠p/\g∉kill/\σ.live g=some x)\/(g.1=p/\jg (C.add p) w' 0 G' g x.1 x.2.1 x.2.2/\∀b,(τ' g.2).ownBlock=some b->w.heap.size<=b\/mu b))(a9:∀j k x y b,live' (p,j)=some x->live' (p,k)=some y->(τ' j).ownBlock=some b->(τ' k).ownBlock=some b->j=k)(b6:∀j id x y b,live' (p,j)=some x->B id=some y->(id∈ids\/id=p)->(τ' j).ownBlock=some b->b≠G'.β id)(b8:¬S0.fr)(b7:¬S0.wz):
  dS C w G (C.add p) w' G'/\fg w0 S0 (C.add p) G' {σ with hp:=B,live:=live'} w':=by
 subst hG;have W:∀id∈ids,C.M id:=fun id Y=>by obtain⟨Z,A⟩:=f id Y;exact h.na _ _ A
 have O:∀id,C.M id->fC G.β p βn id=G.β id:=fun id Y=>fu _ _ (fun e=>hp (e▸Y));have b0:∀g:Tag,C.M g.1->(if g.1=p then τ' g.2 else G.τ g)=G.τ g:=fun g hg=>if_neg (fun e=>hp (by rw[<-e];exact hg))
 have V:∀b,mu b->jn w0 S0 b/\b<w.heap.size:=by
  intro b H;rcases a2 b H with⟨id,F,rfl⟩|⟨g,hg,c⟩
  .obtain⟨Z,A⟩:=f id F;exact⟨h.VX (h.box _ _ _ A).1,h.lA A⟩
  obtain⟨x,z⟩:=J g hg;exact⟨h.gh g x b z c,((h.own g x.1 x.2.1 x.2.2 z).gG b c).2⟩
 have D:dS C w G (C.add p) w' {S:=S',β:=fC G.β p βn,τ:=fun g=>if g.1=p then τ' g.2 else G.τ g}:=
  ⟨fun _ h=>⟨rfl,h⟩,fun _ h=>.inl h,hS,a3,fun i Y=>O i Y,fun g hg=>b0 g hg⟩
 have K:∀id x,id∉ids->σ.hp id=some x->¬mu (G.β id):=by
  intro id x hn z H;rcases a2 _ H with⟨PX,h2,he⟩|⟨g,hg,c⟩
  .obtain⟨Z,A⟩:=f PX h2;exact hn (h.inj id PX _ _ z A he▸h2)
  obtain⟨y,X⟩:=J g hg;exact h.eV g id y x _ X z c rfl
 have q:∀g x b,g∉kill->σ.live g=some x->(G.τ g).ownBlock=some b->¬mu b:=by
  intro g x b hn z c H;rcases a2 _ H with⟨PX,h2,he⟩|⟨g2,Yj,af2⟩
  .obtain⟨Z,A⟩:=f PX h2;exact h.eV g PX x _ b z A c he
  obtain⟨y,X⟩:=J g2 Yj;exact hn (h.jA g g2 x y b z X c af2▸Yj)
 have b4:=h.below.size
 have a0:∀i x,B i=some x->(C.M i/\(∃x',σ.hp i=some x')/\fC G.β p βn i=G.β i)\/(i=p/\(w.heap.size<=βn\/∃d∈ids,βn=G.β d/\B d=none)):=by
  intro i x Y;rcases a4 i x Y with⟨_,_,h2⟩|⟨_,h2|h2,_⟩
  .exact .inl ⟨h.na _ _ h2,⟨_,h2⟩,O _ (h.na _ _ h2)⟩
  .obtain⟨Z,A⟩:=f i h2;exact .inl ⟨W i h2,⟨_,A⟩,O _ (W i h2)⟩
  exact .inr h2
 refine⟨D,⟨?_,fun b o hs=>hS b o (h.jI b o hs),h.mh D,h.nG D,h.lq,b9,?_,?_,?_,?_,?_,?_,?_,?_,fun h=>absurd h b8,fun h=>absurd h b7⟩⟩
 .refine⟨v.os.trans h.below.os,v.tape.trans h.below.tape,v.output.trans h.below.output,aY b4 v.size,fun k hk hm=>(v.block k (by omega) (fun H=>?_)).trans (h.below.block k hk hm)⟩;rcases (V k H).1 with I|I
  .omega
  exact hm I
 .intro b o hs;rcases U b o hs with r|r|r
  .exact h.gY b o r
  .exact .inr (.inl (by omega))
  exact .inr (V b r).1
 .intro id x z;rcases a0 id x z with⟨r,_⟩|⟨rfl,_⟩
  .exact .inl r
  exact .inr rfl
 .intro id ro Z z;rcases a4 id _ z with⟨n1,n2,Ml⟩|⟨hf,F,hsc,zt,hns⟩
  .obtain⟨b1,b2,b3,b5⟩:=h.box id ro Z Ml;have H:=O id (h.na _ _ Ml);have a5:=K id _ n1 Ml;have a6:=h.lA Ml;refine⟨by show Hg w0 S0 (fC G.β p βn id);rw[H];exact b1,b2,by show jL S0.prog _ w' _ (fC G.β p βn id) Z;rw[H];exact b3.later D (v.block _ a6 a5),?_⟩;show if ro=true then∀o,o<Z.length->S' (fC G.β p βn id) o else∀o,¬S' (fC G.β p βn id) o
   rw[H];cases ro with
   |true=>simp only[if_true]at b5⊢;exact fun o ho=>hS _ _ (b5 o ho)
   |false=>
    simp only[aj,if_false]at b5⊢;intro o ho;rcases U _ _ ho with R|R|R
    .exact b5 o R
    .omega
    exact a5 R
  simp only at hf;subst hf;refine⟨?_,hsc,zt,by simp only[aj,if_false];exact hns⟩;show Hg w0 S0 (fC G.β p βn id);rcases F with F|⟨rfl,L⟩
  .rw[O id (W id F)];obtain⟨a1,m⟩:=f id F;exact(h.box _ _ _ m).1
  rw[dZ];rcases L with L|⟨d,u,L,_⟩
  .exact .inl (by omega)
  rw[L];obtain⟨a1,m⟩:=f d u;exact(h.box _ _ _ m).1
 .intro i j x y Y hj he;have Q:fC G.β p βn i=fC G.β p βn j:=he;rcases a0 i x Y with⟨_,⟨x',Ml⟩,e1⟩|⟨rfl,e1⟩<;>rcases a0 j y hj with⟨_,⟨y',Yy⟩,N⟩|⟨rfl,N⟩
  .rw[e1,N]at Q;exact h.inj i j _ _ Ml Yy Q
  .rw[e1,dZ]at Q;have:=h.lA Ml;rcases N with N|⟨d,u,N,e3⟩
   .omega
   obtain⟨a1,m⟩:=f d u;have e4:=h.inj i d _ _ Ml m (Q.trans N);have a8:B i=some x:=Y;rw[e4,e3]at a8;cases a8
  .rw[N,dZ]at Q;have:=h.lA Yy;rcases e1 with e1|⟨d,u,e1,e3⟩
   .omega
   obtain⟨a1,m⟩:=f d u;have e4:=h.inj j d _ _ Yy m (Q.symm.trans e1);have a7:B j=some y:=hj;rw[e4,e3]at a7;cases a7
  rfl
 .intro g e T t z;rcases s g _ z with⟨r,h2,I⟩|⟨r,h2,_⟩
  .have ho:=h.own g e T t I;refine ho.later D (fun b H=>v.block b (ho.gG b H).2 (q g _ b h2 I H)) (fun b H o hs=>?_);rcases U b o hs with R|R|R
   .exact R
   .have:=(ho.gG b H).2;omega
   exact absurd R (q g _ b h2 I H)
  exact h2
 .intro g x b z c;rcases s g _ z with⟨r,h2,I⟩|⟨r,_,h2⟩
  .simp only[if_neg r]at c;exact h.gh g x b I c
  simp only[if_pos r]at c;rcases h2 b c with h4|h4
  .exact .inl (by omega)
  exact(V b h4).1
 .intro g g' x y b z X c l;rcases s g _ z with⟨r,h2,I⟩|⟨r,_,h2⟩<;>rcases s g' _ X with⟨h4,h5,R⟩|⟨h4,_,h5⟩
  .simp only[if_neg r]at c;simp only[if_neg h4]at l;exact h.jA g g' x y b I R c l
  .simp only[if_neg r]at c;simp only[if_pos h4]at l;rcases h5 b l with h7|h7
   .have:=((h.own g x.1 x.2.1 x.2.2 I).gG b c).2;omega
   exact absurd h7 (q g x b h2 I c)
  .simp only[if_pos r]at c;simp only[if_neg h4]at l;rcases h2 b c with h7|h7
   .have:=((h.own g' y.1 y.2.1 y.2.2 R).gG b l).2;omega
   exact absurd h7 (q g' y b h5 R l)
  obtain⟨g1,j⟩:=g;obtain⟨g2,k⟩:=g';simp only at r h4;subst r;subst h4;simp only[if_true]at c l;rw[a9 j k x y b z X c l]
 intro g id x y b z X c;show b≠fC G.β p βn id;rcases s g _ z with⟨r,h2,I⟩|⟨r,_,h2⟩
 .simp only[if_neg r]at c;rcases a0 id y X with⟨_,⟨y',Yy⟩,N⟩|⟨rfl,N⟩
  .rw[N];exact h.eV g id x y' b I Yy c
  rw[dZ];rcases N with N|⟨d,u,N,_⟩
  .have:=((h.own g x.1 x.2.1 x.2.2 I).gG b c).2;omega
  obtain⟨a1,m⟩:=f d u;rw[N];exact h.eV g d x _ b I m c
 obtain⟨g1,j⟩:=g;simp only at r;subst r;simp only[if_true]at c;rcases a4 id y X with⟨n1,n2,Ml⟩|⟨_,F,_⟩
 .rw[O id (h.na _ _ Ml)];intro he;have:=h.lA Ml;rcases h2 b c with h7|h7
  .omega
  rw[he]at h7;exact K id _ n1 Ml h7
 exact b6 j id x y b z X (F.imp (fun h=>h) And.left) c
end
def sY:∀{a b:Tal} {x y:Taf},dx (.V a) x->dx (.V b) y->dx (.V (a++b)) (x++y)
 |[],b,x,y,h,h'=>by rw[dy.1 h];exact h'
 |t::a,b,x,y,h,h'=>by obtain⟨d,r,rfl,e,c⟩:=aJ.1 h;exact aJ.2 ⟨d,r++y,rfl,e,sY c h'⟩
section
variable{P:Tap}{C:Cx}{w w0:Tam}{S0:gK}{G:Gh}{σ:St}{a:Act}{o:Tbc}{pc:dM}{Φ:Taa}{Pre:eN}{n p:Nat}{cs:ni}
def wo(g:iO C w G σ.tm a){pc:dM}(c:bc C.ρ pc=true){β:Nat->Nat}:∀{f:List Bool} {l:List Tbb} {ts:List Tba} {es:List (E×Ty)} {ids:Tah} {k:Nat},lu P σ pc f l ts=some (es,ids)->(∀(i:Nat) id,ids[i]?=some id->β (k+i)=G.β id)->
  rV w G.S β f k (l.map a.eval) (es.map fun x=>den C.ρ x.1)/\dx (.V (es.map (·.2))) (es.map fun x=>den C.ρ x.1)
 |[],[],[],es,ids,k,h,_=>by simp only[lu,aa,ah]at h;obtain⟨rfl,rfl⟩:=h;exact⟨trivial,dy.2 rfl⟩
 |false::f,x::l,t::ts,es,ids,k,h,hβ=>by
  simp only[lu]at h;split at h
  .rename_i e u d s r;obtain⟨rfl,rfl⟩:=iP h;obtain⟨m,j⟩:=wo g c r hβ;obtain⟨F,D⟩:=e;obtain⟨_,y,v⟩:=dV g c s;exact⟨⟨y,m⟩,aJ.2 ⟨_,_,rfl,v,j⟩⟩
  cases h
 |true::f,x::l,t::ts,es,ids,k,h,hβ=>by
  simp only[lu]at h;split at h
  .rename_i id u d s r;obtain⟨rfl,rfl⟩:=iP h;obtain⟨m,j⟩:=wo (k:=k+1) g c r (fun i q A=>by rw[show k+1+i=k+(i+1) by omega];exact hβ (i+1) q (by simpa using A));have z:=(df g c s).2;have B:β k=G.β id:=by simpa using hβ 0 id rfl
   exact⟨⟨by rw[z,B],m⟩,j⟩
  cases h
 |[],[],_::_,_,_,_,h,_=>by simp[lu]at h
 |[],_::_,ts,_,_,_,h,_=>by cases ts<;>simp[lu]at h
 |b::_,[],ts,_,_,_,h,_=>by cases b<;>cases ts<;>simp[lu]at h
 |b::_,_::_,[],_,_,_,h,_=>by cases b<;>simp[lu]at h
def Aq:∀{rcs:List (List bF)} {ids:Tah} {b:List (List E)} {l:lj},ug σ rcs ids=some (b,l)->
  b.length=rcs.length/\ids.length=rcs.length/\rcs.flatMap E5=l.map (·.1)/\(∀id∈ids,∃cs,σ.hp id=some (false,cs))/\(∀j g,(j,some g)∈l->∃z,σ.live g=some z)/\
  ∀(i:Nat) f id m,rcs[i]?=some f->ids[i]?=some id->b[i]?=some m->∃cs k,σ.hp id=some (false,cs)/\gy σ f cs=some (m,k)/\∀x∈k,x∈l
 |[],[],b,l,h=>by simp only[ug,aa,ah]at h;obtain⟨rfl,rfl⟩:=h;exact⟨rfl,rfl,rfl,by simp,by simp,by intro i f id m e;simp at e⟩
 |f::r,id::ids,b,l,h=>by
  simp only[ug]at h;split at h
  .rename_i cs d;split at h
   .rename_i m Q D S y R;obtain⟨rfl,rfl⟩:=iP h;obtain⟨O,N,M,L,K,J⟩:=Aq R;refine⟨by simp[O],by simp[N],?_,?_,?_,?_⟩
    .rw[List.flatMap_cons,M,ck,<-nu y];rfl
    .simp only[aH,forall_eq_or_imp];exact⟨⟨cs,d⟩,L⟩
    .intro j g c;rcases aM.1 c with c|c
     .exact mB y c
     exact K j g c
    intro i q s A e v u;cases i with
    |zero=>simp at e v u;subst e;subst v;subst u;exact⟨cs,Q,d,y,fun x t=>aG _ t⟩
    |succ i=>
     obtain⟨B,k,I,H,F⟩:=J i q s A (by simpa using e) (by simpa using v) (by simpa using u);exact⟨B,k,I,H,fun x t=>bC _ (F x t)⟩
   cases h
  cases h
 |[],_::_,_,_,h=>by cases h
 |_::_,[],_,_,h=>by cases h
def CA{ob:Ob}{ids:Tah}{i id:Nat}(h:ids[i]?=some id):(nX σ ob ids)[i]?=some id:=by
 have b:i<ids.length:=(aO.1 h).1;unfold nX;split
 .split
  .split
   .rw[an b];exact h
   exact h
  exact h
 exact h
def DM{lk:Tak}:∀{k:Nat} {ids:Tah} {rcs:List (List bF)} {id:Nat} {v:Tao (Bool×List SC)},(id,v)∈P3 lk p k ids rcs->∃(i:Nat) (b:List bF),ids[i]?=some id/\rcs[i]?=some b/\v=some (false,uE lk b (lG true p (.un (.cell (k+i)) (.var p)) 0 b))
 |k,[],rcs,id,v,h=>by cases rcs<;>simp[P3]at h
 |k,_::_,[],id,v,h=>by simp[P3]at h
 |k,x::ids,b::rcs,id,v,h=>by
  simp only[P3,aH,ah]at h;rcases h with⟨rfl,rfl⟩|h
  .exact⟨0,b,rfl,rfl,rfl⟩
  obtain⟨i,c,f,e,d⟩:=DM h;exact⟨i+1,c,by simpa using f,by simpa using e,by rw[d,show k+1+i=k+(i+1) by omega]⟩
def FE{lkk:Tak}{id:Nat}:∀{k:Nat} {ids:Tah} {rcs:List (List bF)},lk (P3 lkk p k ids rcs) id=none->ids.length<=rcs.length->id∉ids
 |k,[],rcs,_,_=>by simp
 |k,_::_,[],_,hl=>by simp at hl
 |k,x::ids,rc::rcs,h,hl=>by
  simp only[P3,lk]at h;split at h
  .cases h
  rename_i b;simp only[aH,not_or];exact⟨b,FE h (by simpa using hl)⟩
def Cy:∀{k:Nat} {rcs:List (List bF)} {x:Tag×Tao (E×Tba×Ty)},x∈xP p k rcs->∃(i:Nat) (b:List bF),rcs[i]?=some b/\x∈me p (.un (.cell (k+i)) (.var p)) 0 b
 |k,[],x,h=>by simp[xP]at h
 |k,b::rcs,x,h=>by
  simp only[xP,aM]at h;rcases h with h|h
  .exact⟨0,b,rfl,h⟩
  obtain⟨i,c,e,d⟩:=Cy h;exact⟨i+1,c,by simpa using e,by rw[show k+(i+1)=k+1+i by omega];exact d⟩
def pz{c β:Type}[DecidableEq c] :∀{l:List (c×β)} {k:c},lk l k=none->∀v,(k,v)∉l
 |[],k,_,v=>by simp
 |(a,b)::l,k,h,v=>by
  simp only[lk]at h;split at h
  .cases h
  rename_i d;simp only[aH,ah,not_or,not_and];exact⟨fun e=>absurd e d,pz h v⟩
def FD{w:Tam}{S:bE}{τ:Taj}:∀{rcs:List (List bF)} {b:List (Taf)} {β:Nat->Nat} {k:Nat},b.length=rcs.length->(∀(i:Nat) rc cells,rcs[i]?=some rc->b[i]?=some cells->Ca w S τ rc (β (k+i)) cells)->
  dx (.V (rcs.flatten.map ET)) b.flatten
 |[],[],β,k,_,_=>dy.2 rfl
 |[],_::_,_,_,h,_=>by simp at h
 |_::_,[],_,_,h,_=>by simp at h
 |rc::rcs,cells::b,β,k,hl,h=>by
  obtain⟨d,T,_,A,v,s,_⟩:=h 0 rc cells rfl rfl;rw[eS,eS,ck];refine sY (jk (by simp[v]) fun j u x f g=>?_) (FD (k:=k+1) (β:=β) (by simpa using hl) (fun i c y m q=>by rw[show k+1+i=k+(i+1) by omega];exact h (i+1) c y (by simpa using m) (by simpa using q)));simp only[ab,dn]at f;obtain⟨r,e,rfl⟩:=f;have l:j<rc.length:=(aO.1 e).1;have:=s j r _ x e (aS (by omega)) g;obtain⟨t,_|⟨z,B⟩⟩:=r
  .exact this.2
  exact this.2.has
def pO{ops:Tad}{x:oZ}(hs:gQ n w0 S0 C G σ a w)(hp:¬C.M p)(n4:p<C.N)(hg:guardOf ops σ o=some pc)(l1:bc C.ρ pc=true)(h:iQ P cs σ pc o=some x)(m6:∀k I,lk cs.l k=some I->bu P k I (Pre k) (Φ k))(o4:fc C Φ Pre (.call p x.k x.args []))(o0:(x.CX p o.dst).tW.2.lt C.N=true)(m3:∀d,o.dst=some d->d<n)(n9:¬S0.fr)(n7:¬S0.wz):
  fY P n w0 S0 C ((x.CX p o.dst).app σ) p ops a w o:=by
 intro K Q hK;obtain⟨hw,hc⟩:=gE hs.t hg;rw[hw,if_pos l1];unfold iQ at h;split at h
 .rename_i f b7 j8 ho;split at h
  .rename_i fe k' hf;split at h
   .rename_i I k5;split at h
    .rename_i q n6;split at h
     .rename_i es aar o9;split at h
      .rename_i f4 l d9;split at h
       .rename_i i0;obtain⟨ids,g7⟩:∃ids,ids=nX σ q aar:=⟨_,rfl⟩;rw[<-g7]at i0 d9 h;obtain⟨n2,g8,a5,q0,n0,a6,n3,l9,g5,e4⟩:=i0;injection h with h;subst h;have i1:∀(i:Nat) id,aar[i]?=some id->ids[i]?=some id:=fun i id A=>by rw[g7];exact CA A
        obtain⟨f1,f2,f3⟩:=df hs.t (pc:=[]) rfl hf;obtain⟨fl,o7,o8⟩:=lz.1 f3;have m1:fl=[]:=dy.1 o8;subst m1;obtain⟨p9,o6,j4,_⟩:=(o7▸f2).xf;have m5:p9=[]:=au j4;subst m5;have a2:=m6 _ _ k5;obtain⟨q1,q2,q3,q4,q5,q6⟩:=Aq d9;let Z:Nat->Nat:=fun i=>G.β (ids.getD i 0);have F:∀(i:Nat) id,ids[i]?=some id->Z i=G.β id:=fun i id A=>by show G.β (ids.getD i 0)=_;rw[ae,A];rfl
        obtain⟨j7,i8⟩:=wo (k:=0) (β:=Z) hs.t l1 o9 (fun i id A=>by rw[av];exact F i id (i1 i id A));have g9:∀id∈ids,C.M id:=fun id A=>by obtain⟨cs,p0⟩:=q4 id A;exact hs.m.na _ _ p0
        have d6:p∉ids:=fun A=>hp (g9 p A)
        have l3:(l.map (·.1)).Nodup:=by unfold pK at a5;simp only[aT,bk]at a5;exact a5.2
        let f5:=pY G l;let dd:=es.map fun x=>den C.ρ x.1;let oo:=f4.map fun es=>es.map (den C.ρ)
        have m4:(den C.ρ (.V (es.map (·.1)++f4.flatten))).A=dd++oo.flatten:=by rw[gg];simp only[D.A,ck,List.map_map,dd,oo,List.map_flatten];rfl
        have a9:∀(i:Nat) V cells,q.cH[i]?=some V->oo[i]?=some cells->Ca w G.S f5 V (Z i) cells:=by
         intro i V cells A c7;simp only[oo,ab,dn]at c7;obtain⟨p8,m2,rfl⟩:=c7;have a7:i<ids.length:=by rw[q2];exact(aO.1 A).1
         have a4:ids[i]?=some ids[i]:=aS a7;obtain⟨m9,lo,r1,r2,r3⟩:=q6 i V _ p8 A a4 m2;obtain⟨b1,b2,f0,b5⟩:=hs.m.box _ _ _ r1;obtain⟨vs,T,b3,b4⟩:=f0.cells (kL r2);obtain⟨k1,k2,k3⟩:=jU (L:=l) hs.m l3 r2 b4 r3;rw[F i _ a4];refine⟨vs,T,b3,k2,by simp[k1],fun j r v d hr hv hd=>?_,by simpa using b5⟩;simp only[ab,dn]at hd;obtain⟨e,he,rfl⟩:=hd;exact k3 j r v e hr hv he
        have o5:Cb w G.S q Z f5 (b7.toList.map a.eval) dd oo:=by
         refine⟨hs.m.dT,j7,by simp[oo,q1],a9,?_,?_,?_,?_⟩
         .intro i j A Y he;have W:ids[i]?=some (ids[i]'(by omega)):=aS _;have h2:ids[j]?=some (ids[j]'(by omega)):=aS _;rw[F i _ W,F j _ h2]at he;obtain⟨c1,j5⟩:=q4 _ (aN (l:=ids) (n:=i) (by omega));obtain⟨c2,p2⟩:=q4 _ (aN (l:=ids) (n:=j) (by omega));have:=hs.m.inj _ _ _ _ j5 p2 he;exact(List.getElem_inj g8).1 this
         .intro j k b Y hk p4 p3;unfold Ob.jH at Y hk;rw[q3]at Y hk;exact xw hs.m a5 q5 Y hk p4 p3
         .intro j i b Y A hb he;unfold Ob.jH at Y;rw[q3]at Y;obtain⟨g,j1,j2⟩:=vN a5 Y hb;obtain⟨z,hz⟩:=q5 _ _ j1;have W:ids[i]?=some (ids[i]'(by omega)):=aS _;obtain⟨c1,j5⟩:=q4 _ (aN (l:=ids) (n:=i) (by omega));rw[F i _ W]at he;exact hs.m.eV g _ z _ b hz j5 j2 he
         intro c6 o c V ho hc;have f8:o<q.cH.length:=(aO.1 ho).1;have W:ids[o]?=some (ids[o]'(by omega)):=aS _;have h2:ids[q.cH.length-1]?=some (ids[q.cH.length-1]'(by omega)):=aS _;obtain⟨m9,r1⟩:=q4 _ (aN (l:=ids) (n:=o) (by omega));have o1:B3 q ids=some (ids[q.cH.length-1]'(by omega)):=by unfold B3;rw[if_pos c6,h2]
         rw[o1]at g5;have j6:=Au g5 ho W r1;obtain⟨b1,b2,f0,b5⟩:=hs.m.box _ _ _ r1;obtain⟨q8,lo,d3,r2,_⟩:=q6 o V _ _ ho W (aS (by rw[q1];exact f8));rw[r1]at d3;injection d3 with d3;simp only[ah,true_and]at d3;subst d3;obtain⟨vs,T,b3,b4⟩:=f0.cells (kL r2)
         obtain⟨k1,k2,_⟩:=jU (L:=l) hs.m l3 r2 b4 (fun x hx=>by obtain⟨q7,q9,y1,y2,y3⟩:=q6 o V _ _ ho W (aS (by rw[q1];exact f8));rw[r1]at y1;injection y1 with y1;simp only[ah,true_and]at y1;subst y1;rw[r2]at y2;injection y2 with y2;simp only[ah,true_and]at y2;subst y2;exact y3 x hx)
         have b9:c<V.length:=(aO.1 hc).1;have j3:c<vs.length:=by rw[k2];exact b9
         have m7:c<m9.length:=by rw[<-b4.1];exact j3
         have k6:=xz j6 hc (aS m7);have k8:=b4.2 c _ _ (aS m7) (aS j3);rw[k6]at k8;obtain⟨_,n1⟩:=k8;rw[F o _ W,F _ _ h2,cell_of_row w _ c _ T (0,0) b3];rw[dr,aS j3,n1]
        have m0:dx (.V I.params) (dd++oo.flatten):=by rw[<-n2];exact sY i8 (FD (k:=0) (β:=Z) (by simp[oo,q1]) (fun i V cells A b9=>by rw[av];exact a9 i V cells A b9))
        obtain⟨_,_,k0,l0⟩:=o4;have d5:=l0 rfl;rw[m4]at k0 d5
        have k7:(execOp a.eval o).run P w=.ok (.enter k' (b7.toList.map a.eval).toArray) w:=by
         have e1:(b7.toList.map a.eval).toArray=b7.map a.eval:=by apply dI;simp
         unfold execOp;simp only[ho,resolve,o6,Deferred.ofValue,e1];have:=a2.enter (b7.map a.eval) w;simpa [invoke]using this
        unfold Oper.wp;rw[k7]
        have l2:q.wW=false:=by rw[cE];intro i2;unfold Ob.wW at i2;simp only[aT,List.isEmpty_iff,beq_iff_eq]at i2;obtain⟨⟨_,W⟩,h2⟩:=i2;have h3:=a6;rw[h2,l9,W]at h3;cases R:q.new<;>rw[R]at h3<;>simp at h3
        refine(a2.zC q n6 l2 w G.S Z f5 _ dd oo o5 m0 d5).mono ?_;rintro e' w' ⟨v,S',τ',βn,rfl,uD⟩;simp only;rw[<-k0]at uD;obtain⟨d0,a8,hd,f8,H,f9⟩:=uD.res;let a3:Nat:=if q.new=true\/q.mv=true then βn else G.β p
        let G':Gh:={S:=S',β:=fC G.β p a3,τ:=fun g=>if g.1=p then τ' g.2 else G.τ g};have f6:∀j,G'.τ (p,j)=τ' j:=fun j=>if_pos rfl;have hM:(C.add p).M p:=.inr rfl;have k4:(E.var p).lt C.N=true:=by simpa [E.lt]using n4
        have g4:∀j,(E.un (.cell j) (.var p)).lt (C.add p).N=true:=fun j=>k4;have e6:∀i j,(E.un (.cell j) (.un (.cell i) (.var p))).lt (C.add p).N=true:=fun i j=>k4;have d1:den C.ρ (.un (.cell 0) (.var p))=d0:=by simp only[den,U.den,hd,D.A];rfl
        have c9:∀(i:Nat) cells,a8[i]?=some cells->den C.ρ (.un (.cell (1+i)) (.var p))=.agg cells:=by intro i cells A;simp only[den,U.den,hd,D.A];exact gx (by rw[Nat.add_comm];simp[A])
        have c4:∀id∈ids,G'.β id=G.β id:=fun id A=>fu _ _ (fun e=>d6 (e▸A));have e8:q.new=true->a3=βn:=fun R=>if_pos (.inl R);have e7:q.mv=true->a3=βn:=fun R=>if_pos (.inr R)
        have X:q.mv=true->(ids[q.cH.length-1]?=some (ids.getD (q.cH.length-1) 0)/\ids.getD (q.cH.length-1) 0∈ids):=by
         intro hm;have h3:=e4 hm;have h4:ids[q.cH.length-1]?=some (ids[q.cH.length-1]'(by omega)):=aS _;have h5:ids.getD (q.cH.length-1) 0=ids[q.cH.length-1]'(by omega):=by rw[ae,h4];rfl
         rw[h5];exact⟨h4,aN _⟩
        have i9:q.mv=true->fx σ.hp (oZ.CX ⟨k',.V (es.map (·.1)++f4.flatten),I,q,ids,l⟩ p o.dst).hp (ids.getD (q.cH.length-1) 0)=none:=by
         intro hm
         have n8:ids.getD (q.cH.length-1) 0∉ly q ids p:=by
          unfold ly;rw[if_pos hm];intro hh;rcases aM.1 hh with hh|hh
          .obtain⟨i,A⟩:=aE hh;rw[aq]at A;split at A
           .rename_i a7;have h6:=(X hm).1;have h7:=(aO.1 A);obtain⟨h8,h9⟩:=h7;obtain⟨p7,p6⟩:=aO.1 h6;have:=(List.getElem_inj g8 (h₀:=h8) (h₁:=p7)).1 (h9.trans p6.symm);omega
           cases A
          simp only[ax]at hh;exact d6 (hh▸(X hm).2)
         unfold fx oZ.CX;simp only[hm,if_true];split
         .rename_i y O;rcases aM.1 (iL O) with h7|h7
          .obtain⟨i,V,h8,_⟩:=DM h7;exact absurd (bQ h8) n8
          simp only[ax,ah]at h7;exact h7.2
         rename_i O;exact absurd (bC _ (ax.2 rfl)) (pz O none)
        have d4:∀(i:Nat) id V,(ly q ids p)[i]?=some id->q.outs[i]?=some V->∃cells,a8[i]?=some cells/\Ca w' S' τ' V (G'.β id) cells/\(id∈ids\/(id=p/\(w.heap.size<=a3\/∃j9∈ids,a3=G.β j9/\fx σ.hp (oZ.CX ⟨k',.V (es.map (·.1)++f4.flatten),I,q,ids,l⟩ p o.dst).hp j9=none)))/\kq q Z βn i=G'.β id:=by
         intro i id V A d2;have n5:i<a8.length:=by rw[f8];exact(aO.1 d2).1
         have d8:a8[i]?=some a8[i]:=aS n5;have g0:=f9 i V _ d2 d8;cases s:q.mv with
         |true=>
          have e3:=Ob.Dt s;unfold ly at A;rw[s,if_pos rfl]at A;have r4:(ids.take (q.cH.length-1)).length=q.cH.length-1:=by rw[aA];omega
          by_cases b0:i<q.cH.length-1
          .rw[an (by omega),aq,if_pos b0]at A;have b6:id∈ids:=bQ A;have e1:kq q Z βn i=G'.β id:=by unfold kq;rw[if_pos ⟨by omega,fun h=>by omega⟩,F i id A,c4 id b6]
           exact⟨_,d8,e1▸g0,.inl b6,e1⟩
          rw[aL (by omega)]at A
          have i7:i-(ids.take (q.cH.length-1)).length=0:=by have:=(aO.1 A).1;simp at this;omega
          rw[i7]at A;simp only[du,aa]at A;subst A;have a7:i=q.cH.length-1:=by have:=e4 s;omega
          have e1:kq q Z βn i=G'.β p:=by unfold kq;rw[if_neg (fun h=>h.2 ⟨s,a7⟩)];show βn=fC G.β p a3 p;rw[dZ,e7 s]
          refine⟨_,d8,e1▸g0,.inr ⟨rfl,?_⟩,e1⟩;rw[e7 s];rcases uD.mvd s with h|h
          .exact .inr ⟨_,(X s).2,h.trans (F _ _ (X s).1),i9 s⟩
          exact .inl h
         |false=>
         unfold ly at A;simp only[s,aj,if_false]at A;by_cases b0:i<ids.length
         .rw[an b0]at A;have b6:id∈ids:=bQ A;have e1:kq q Z βn i=G'.β id:=by unfold kq;rw[if_pos ⟨by omega,fun h=>by rw[s]at h;cases h.1⟩,F i id A,c4 id b6]
          exact⟨_,d8,e1▸g0,.inl b6,e1⟩
         rw[aL (by omega)]at A;cases R:q.new with
         |false=>rw[R]at A;simp at A
         |true=>
          rw[R]at A H;simp only[if_true]at A H
          have i7:i-ids.length=0:=by have:=(aO.1 A).1;simp at this;omega
          rw[i7]at A;simp only[du,aa]at A;subst A
          have e1:kq q Z βn i=G'.β p:=by unfold kq;rw[if_neg (fun h=>by omega)];show βn=fC G.β p a3 p;rw[dZ,e8 R]
          exact⟨_,d8,e1▸g0,.inr ⟨rfl,.inl (by rw[e8 R];exact H.2)⟩,e1⟩
        have d7:(ly q ids p).length=q.outs.length:=by
         unfold ly;cases s:q.mv with
         |true=>
          have e3:=Ob.Dt s;have:=e4 s;rw[e3]at a6;simp only[if_true,ai,aA,aW,Bool.toNat_false]at a6⊢;omega
         |false=>
          simp only[aj,if_false,ai];rw[a6];cases q.new<;>simp
        have i5:∀y∈(if q.new then [] else od p (.un (.cell 0) (.var p)) I.res)++xP p 1 q.outs,xj (C.add p) w' 0 G' p (kP I q) y:=by
         intro y O;rcases aM.1 O with O|O
         .cases R:q.new with
          |true=>rw[R]at O;simp at O
          |false=>
           rw[R]at O H;simp only[aj,if_false]at O H
           have b8:im w' 0 G'.S τ' I.res v (den (C.add p).ρ (.un (.cell 0) (.var p))):=by show im w' 0 S' τ' I.res v (den C.ρ _);rw[d1];exact H
           obtain⟨z1,z2,z3⟩:=xZ (C:=C.add p) (G:=G') b8 hM (g4 _) f6 y O;exact⟨z1,aG _ z2,z3⟩
         obtain⟨i,V,d2,O⟩:=Cy O;obtain⟨j,r,hr,O⟩:=pV _ _ _ _ _ O
         have a7:i<(ly q ids p).length:=by rw[d7];exact(aO.1 d2).1
         obtain⟨cells,b9,⟨g3,T,_,v2,v3,v4,_⟩,_,_⟩:=d4 i _ V (aS a7) d2;have o2:j<V.length:=(aO.1 hr).1;have e9:cells[j]?=some (cells[j]'(by omega)):=aS _;have:=v4 j r _ _ hr (aS (by omega)) e9;refine td (C:=C.add p) (G:=G') (idx:=kP I q) this hM (e6 _ _) ?_ f6 (fun j0 T0 o3=>?_) y O
         .show den C.ρ (.un (.cell (0+j)) (.un (.cell (1+i)) (.var p)))=_;have e2:den C.ρ (.un (.cell (0+j)) (.un (.cell (1+i)) (.var p)))=(U.cell (0+j)).den (den C.ρ (.un (.cell (1+i)) (.var p))):=rfl;rw[e2,c9 i _ b9];simp only[U.den,D.A,av];exact gx e9
         unfold kP;refine bC _ (dj.2 ⟨V,bQ d2,?_⟩);unfold E5;exact bH.2 ⟨r,bQ hr,by rw[o3];rfl⟩
        let kill:List Tag:=l.filterMap (·.2)
        have g1:∀g:Tag,((g,none):Tag×Tao (E×Tba×Ty))∈(l.filterMap fun y=>y.2.map fun g=>((g,none):Tag×Tao (E×Tba×Ty)))↔g∈kill:=by
         intro g;simp only[bH,kill];constructor
         .rintro⟨y,O,J⟩;cases Yh:y.2 with
          |none=>rw[Yh]at J;cases J
          |some g'=>rw[Yh]at J;simp at J;subst J;exact⟨y,O,Yh⟩
         rintro⟨y,O,J⟩;exact⟨y,O,by rw[J];rfl⟩
        have g2:∀g z,(g,some z)∉(l.filterMap fun y=>y.2.map fun g=>((g,none):Tag×Tao (E×Tba×Ty))):=by
         intro g z hm;simp only[bH]at hm;obtain⟨y,_,J⟩:=hm;cases Yh:y.2 with
         |none=>rw[Yh]at J;cases J
         |some g'=>rw[Yh]at J;simp at J
        have i6:∀g∈kill,∃j,(j,some g)∈l:=by intro g hg;simp only[kill,bH]at hg;obtain⟨⟨j,y⟩,O,J⟩:=hg;simp only at J;subst J;exact⟨j,O⟩
        let CX:jh:=oZ.CX ⟨k',.V (es.map (·.1)++f4.flatten),I,q,ids,l⟩ p o.dst
        have a0:∀g z,fx σ.live CX.live g=some z->(g.1≠p/\g∉kill/\σ.live g=some z)\/xj (C.add p) w' 0 G' p (kP I q) (g,some z):=by
         intro g z hz;unfold fx at hz;split at hz
         .rename_i y O;subst hz;have l4:=iL O;have e5:(g,some z)∈(l.filterMap fun y=>y.2.map fun g=>((g,none):Tag×Tao (E×Tba×Ty)))++(if q.new then [] else od p (.un (.cell 0) (.var p)) I.res)++xP p 1 q.outs:=l4;rw[dP]at e5;rcases aM.1 e5 with hm|hm
          .exact absurd hm (g2 g z)
          exact .inr (i5 _ hm)
         rename_i O;refine .inl ⟨fun e=>hp (e▸(hs.m.own g z.1 z.2.1 z.2.2 hz).m),fun hk=>?_,hz⟩;refine pz O none ?_;show(g,none)∈(l.filterMap fun y=>y.2.map fun g=>((g,none):Tag×Tao (E×Tba×Ty)))++(if q.new then [] else od p (.un (.cell 0) (.var p)) I.res)++xP p 1 q.outs;rw[dP];exact aG _ ((g1 g).2 hk)
        have h0:∀id z,fx σ.hp CX.hp id=some z->(id∉ids/\id≠p/\σ.hp id=some z)\/∃(i:Nat) (V:List bF),(ly q ids p)[i]?=some id/\q.outs[i]?=some V/\z=(false,uE (BZ q ids p) V (lG true p (.un (.cell (1+i)) (.var p)) 0 V)):=by
         intro id z hz;unfold fx at hz;split at hz
         .rename_i y O;subst hz;rcases aM.1 (iL O) with f7|f7
          .obtain⟨i,V,W,h2,h3⟩:=DM f7;injection h3 with h3;exact .inr ⟨i,V,W,h2,h3⟩
          split at f7<;>simp at f7
         rename_i O;have J:=pz O
         have e0:id∉ly q ids p:=by
          refine FE (p:=p) (lkk:=BZ q ids p) (k:=1) (ids:=ly q ids p) (rcs:=q.outs) ?_ (by rw[d7];exact aU _);cases hq:lk (P3 (BZ q ids p) p 1 (ly q ids p) q.outs) id with
          |none=>rfl
          |some v=>exact absurd (aG _ (iL hq)) (J v)
         refine .inl ⟨fun A=>?_,?_,hz⟩
         .unfold ly at e0;cases s:q.mv with
          |false=>
           simp only[s,aj,if_false]at e0;exact e0 (aG _ A)
          |true=>
           simp only[s,if_true]at e0;have h3:=e4 s;obtain⟨i,a7,l7⟩:=fP A;by_cases b0:i<q.cH.length-1
           .refine e0 (aG _ (bQ (i:=i) ?_));rw[aq,if_pos b0,aS a7,l7]
           have l8:i=q.cH.length-1:=by omega
           have h6:=(X s).1;rw[<-l8,aS a7,l7]at h6;injection h6 with h6;refine J none (bC _ ?_);simp only[s,if_true,ax,ah,and_true];rw[h6,l8]
         rintro rfl;exact hp (hs.m.na _ _ hz)
        have i3:∀j id y z b,fx σ.live CX.live (p,j)=some y->fx σ.hp CX.hp id=some z->(id∈ids\/id=p)->(τ' j).ownBlock=some b->b≠G'.β id:=by
         intro j id y z b O hz a4 hb;rcases a0 _ _ O with⟨W,_⟩|i4
         .exact absurd rfl W
         rcases h0 id z hz with⟨W,h2,_⟩|⟨i,V,W,h2,_⟩
         .rcases a4 with a4|a4
          .exact absurd a4 W
          exact absurd a4 h2
         obtain⟨cells,_,_,_,he⟩:=d4 i id V W h2;rw[<-he];exact uD.eV j i b i4.2.1 (aO.1 h2).1 hb
        obtain⟨l6,hm⟩:=hs.m.QI hp (τ':=τ') (βn:=a3) (ids:=ids) (kill:=kill) (mu:=uB q Z f5) uD.below
         (by
          rintro b (⟨i,A,rfl⟩|⟨j,Y,hb⟩)
          .have W:ids[i]?=some (ids[i]'(by omega)):=aS _;exact .inl ⟨_,aN (l:=ids) (n:=i) (by omega),F i _ W⟩
          unfold Ob.jH at Y;rw[q3]at Y;obtain⟨g,j1,j2⟩:=vN a5 Y hb;exact .inr ⟨g,bH.2 ⟨_,j1,rfl⟩,j2⟩)
         q4 (fun g hg=>by obtain⟨j,Y⟩:=i6 g hg;exact q5 j g Y) uD.jG uD.lt uD.new uD.keep (fx σ.hp CX.hp) (fx σ.live CX.live) G' rfl
         (by
          intro id z hz;rcases h0 id z hz with W|⟨i,V,W,h2,rfl⟩
          .exact .inl W
          obtain⟨cells,b9,⟨g3,T,v1,v2,v3,v4,v5⟩,a4,m8⟩:=d4 i id V W h2;refine .inr ⟨rfl,a4,?_,jL.mk (vs:=g3) (T:=T) v1 ⟨?_,?_⟩,v5⟩
          .rw[bY];intro c p1;obtain⟨j,Y⟩:=aE p1;obtain⟨c0,Y,c3⟩:=sr Y;rcases c3 with rfl|⟨_,_,_,rfl⟩
           rotate_left
           .rfl
           rw[pB]at Y;simp only[dn]at Y;obtain⟨r,hr,rfl⟩:=Y;have:=bY.1 (bY.1 n3 V (bQ h2)) r (bQ hr);obtain⟨t,_|⟨j0,T0⟩⟩:=r
           .exact this
           cases KJ:BA j0<;>simp[oc,KJ,SC.scalar]
          .show _=(uE _ _ _).length;rw[AE,tc,v2]
          intro j c u Y hu;obtain⟨c0,Y,c3⟩:=sr Y;rcases c3 with rfl|⟨PX,B,k9,rfl⟩
          rotate_left
          .by_cases s:q.mv=true
           .unfold BZ at B;rw[if_pos s]at B;injection B with B;subst B;have a1:=uD.link (e4 s) i j V h2 k9;rw[m8,cell_of_row w' _ j _ T (0,0) v1,dr,hu]at a1;injection a1 with a1;refine⟨hM,?_⟩;rw[a1];unfold kq;rw[if_neg (fun h=>h.2 ⟨s,rfl⟩)];show _=Value.pointer (some ⟨fC G.β p a3 p,0,none⟩);rw[dZ,e7 s]
           unfold BZ at B;rw[if_neg s]at B
           have c6:ij q.shape<q.cH.length:=by
            unfold B3 at B;split at B
            .assumption
            cases B
           have g6:ids[q.cH.length-1]?=some PX:=by unfold B3 at B;rw[if_pos c6]at B;exact B
           have l5:PX∈ids:=bQ g6;have a1:=uD.link c6 i j V h2 k9;rw[m8,cell_of_row w' _ j _ T (0,0) v1,dr,hu]at a1;injection a1 with a1;refine⟨.inl (g9 PX l5),?_⟩;unfold kq at a1;rw[if_pos ⟨by omega,fun h=>s h.1⟩]at a1;rw[a1,F _ _ g6,c4 PX l5]
          rw[pB]at Y;simp only[dn]at Y;obtain⟨r,hr,rfl⟩:=Y;have o2:j<V.length:=(aO.1 hr).1;have e9:cells[j]?=some (cells[j]'(by omega)):=aS _;refine tS (C:=C.add p) (G:=G') (v4 j r u _ hr hu e9) hM (e6 _ _) ?_ f6 true;show den C.ρ (.un (.cell (0+j)) (.un (.cell (1+i)) (.var p)))=_;have e2:den C.ρ (.un (.cell (0+j)) (.un (.cell (1+i)) (.var p)))=(U.cell (0+j)).den (den C.ρ (.un (.cell (1+i)) (.var p))):=rfl;rw[e2,c9 i _ b9];simp only[U.den,D.A,av];exact gx e9)
         (by
          intro g z hz;rcases a0 g z hz with W|i4
          .exact .inl W
          obtain⟨z1,z2,e,T,t,z3,z4⟩:=i4;injection z3 with z3;subst z3;exact .inr ⟨z1,z4,fun b hb=>uD.gh g.2 b z2 hb⟩)
         (by
          intro j k y z b O hz j6 p5;rcases a0 _ _ O with⟨W,_⟩|hl1
          .exact absurd rfl W
          rcases a0 _ _ hz with⟨W,_⟩|hl2
          .exact absurd rfl W
          exact uD.own j k b hl1.2.1 hl2.2.1 j6 p5)
         i3 n9 n7
        refine hK _ _ _ (hs.step (o:=o) (e:=CX) l6 (hm.congr rfl rfl) rfl o0 (by intro x hx;cases hx) ?_ m3);intro _;rw[if_pos (show bc C.ρ CX.tW.1=true from rfl)];show wR (C.add p) w' G' (if q.new then .one (.qo p 0) else uL true p (.un (.cell 0) (.var p)) I.res) v;cases R:q.new with
        |true=>
         rw[R]at H;simp only[if_true]at H⊢;refine⟨hM,?_⟩;rw[H.1];show _=Value.pointer (some ⟨fC G.β p a3 p,0,none⟩);rw[dZ,e8 R]
        |false=>
         rw[R]at H;simp only[aj,if_false]at H⊢
         have b8:im w' 0 G'.S τ' I.res v (den (C.add p).ρ (.un (.cell 0) (.var p))):=by show im w' 0 S' τ' I.res v (den C.ρ _);rw[d1];exact H
         exact Cr (C:=C.add p) (G:=G') b8 hM (g4 _) f6 true
       cases h
      cases h
     cases h
    cases h
   cases h
  cases h
 cases h
end
section
variable{P:Tap}(w:Tam)
def yO(t ty e:Tba)(i:TypeInfo)(z:Tan)(size:Nat)(D:P.underlying t=some (.slice e))(hi:P.info? e=some i)(C:i.zero=some z)(g:i.size=size)(r:z.cells.size=size)(B:Addr)(n:Nat)(xs:Tac)(f:xs.length=n*size)(holds:∀(j:Nat) v,xs[j]?=some v->w.cell? (B.add j)=some v)(A:Tao Addr)(m c:Nat)(news:Tac)(G:A=none->m=0)(s:news.length=m*size)(h:∀a,A=some a->∀(j:Nat) u,news[j]?=some u->w.cell? (a.add j)=some u)(H:0<m)(l:n+m<=maxLen)(b:(n+m)*i.bytes<=140737488355328):
  ∃q p,(Builtin.append_ #[t,t] ty #[.slice (some B) n n,.slice A m c]).run P w=.ok q p/\p.ownsRow 0 e size q (n+m) (xs++news)/\q.ownBlock=some w.heap.size/\w.grownBy p none:=by
 subst g;have o:n+m<=9223372036854775807:=by simp only[maxLen]at l;omega
 have d:(xs++news).length=(n+m)*i.size:=by rw[ai,f,s,cn]
 obtain⟨a,rfl⟩:∃a,A=some a:=by
  cases A with
  |none=>have:=G rfl;omega
  |some a=>exact⟨a,rfl⟩
 have E:=run_append_grow (P:=P) w t ty e i z D hi C B n n xs f holds a m c news s (h a rfl) (by omega) (by omega) (growslice_fits (by omega) b);have x:=grownCap_ge w (n+m) n e;have y:grownCap w (n+m) n e<=maxLen:=grownCap_le_maxLen w (n+m) n e l;refine⟨_,_,E,⟨d,.inr ⟨w.heap.size,_,_,rfl,aF _,heap_alloc_new w.drew _,x,y,?_,?_⟩⟩,rfl,⟨rfl,rfl,rfl,by simp,fun k F _=>heap_alloc_old w.drew _ k F⟩⟩
 .simp only[Array.size_append,bV,size_zeroCells,r,f,s,<-cn];congr 1;omega
 simp only[Array.toList_append,dP];rw[<-dP,<-d];exact List.take_left
end
section
variable{P:Tap}{C:Cx}{w w0:Tam}{S0:gK}{G:Gh}{σ:St}{a:Act}{o:Tbc}{pc:dM}{s:SV}{is:List Item}{Φ:Taa}{Pre:eN}{n p:Nat}{cs:ni}
def gC(c:fg w0 S0 C G σ w)(b:¬C.M p){g:Tag}{x:E×Tba×Ty}(h:σ.live g=some x):g.1≠p:=
 fun e=>b (e▸(c.own g x.1 x.2.1 x.2.2 h).m)
def jg.Ho{base c:Nat}{g:Tag}{e:E}{T:Tba}{t:Ty}(h:jg C w base G g e T t)(y:∀b,(G.τ g).ownBlock=some b->c<=b):jg C w c G g e T t:=by
 obtain⟨q,l,v,d,f⟩:=h.own;refine⟨h.m,h.lt,h.has,q,l,v,⟨d.1,?_⟩,f⟩;rcases d.2 with r|⟨b,j,i,k,x,u⟩
 .exact .inl r
 exact .inr ⟨b,j,i,k,y b (by rw[k];rfl),u⟩
def D6{ops:Tad}{k:Nat}{e:E}{B:dL}(T:gQ n w0 S0 C G σ a w)(hp:¬C.M p)(b4:p<C.N)(hg:guardOf ops σ o=some pc)(h:xb P cs σ pc o=some (k,e,B))(c3:∀k B,lk cs.l k=some B->bu P k B (Pre k) (Φ k))(d2:fc C Φ Pre (.call p k e pc))(b5:(nT pc.isEmpty p B.res).lt C.N=true)(a4:∀d,o.dst=some d->d<n)(H:List Item)(d5:S0.fr->vq P cs σ pc o=true)(d1:¬S0.wz):
  fY P n w0 S0 C ((⟨o.dst,(pc,nT pc.isEmpty p B.res),[],if pc.isEmpty then gO p B.res else [],[],H⟩:jh).app σ) p ops a w o:=by
 intro K Q hK;obtain⟨hw,hc⟩:=gE T.t hg;rw[hw];have c0:bc C.ρ pc=false->pc.isEmpty=false:=by intro h;cases pc<;>first|rfl|(simp[bc]at h)
 cases yD:bc C.ρ pc with
 |false=>
  simp only[aj,if_false]
  have hm:fg w0 S0 (C.add p) G ((⟨o.dst,(pc,nT pc.isEmpty p B.res),[],if pc.isEmpty then gO p B.res else [],[],H⟩:jh).app σ) w:=
   (T.m.pH p).congr (eh _) (by simp only[jh.app,c0 yD,aj,if_false];exact eh _)
  exact hK _ _ _ (T.step (o:=o) (e:=⟨o.dst,(pc,nT pc.isEmpty p B.res),[],if pc.isEmpty then gO p B.res else [],[],H⟩) (dS.pH C w G p) hm rfl b5 hc
   (by intro _;simp only[yD,aj,if_false]) a4)
 |true=>
  simp only[if_true];unfold xb at h;split at h
  .rename_i f z a8 ho;split at h
   .rename_i fe k' fs es hf d8;split at h
    .rename_i c a2;split at h
     .rename_i c4;obtain⟨c9,c7,e3,c6,d0⟩:=c4;obtain⟨rfl,hE,rfl⟩:=Mi h;obtain⟨f1,f2,f3⟩:=df T.t yD hf;obtain⟨fl,b9,a1⟩:=lz.1 f3;obtain⟨R,d4,a7,d9⟩:=(b9▸f2).xf;obtain⟨k1,k2⟩:=F8 T.t yD d8;have F:=OX a2 c3
      have c2:(den C.ρ e).A=(es.map fun x=>den C.ρ x.1)++fl:=by
       rw[<-hE,gg];simp only[D.A,ck,List.map_map];congr 1;apply dD;intro i;simp only[ab,mi,Option.map_map];cases Z:(fs.A)[i]? with
       |none=>
        have:fl.length<=i:=by rw[fH a1];exact eO.1 Z
        simp[cC this]
       |some t=>
        obtain⟨x,r,_⟩:=cJ a1 i t Z;simp only[aV,Function.comp,den,U.den,b9,D.A,av,gx r,r]
      have O:(z.toList.map a.eval++R).length=((es.map fun x=>den C.ρ x.1)++fl).length:=by simp[k1,a7]
      have b2:(execOp a.eval o).run P w=.ok (.enter k' (z.toList.map a.eval++R).toArray) w:=by
       have e1:(z.toList.map a.eval++R).toArray=z.map a.eval++R.toArray:=by apply dI;simp
       unfold execOp;simp only[ho,resolve,d4,Deferred.ofValue,e1];have:=F.enter (z.map a.eval++R.toArray) w;simpa [invoke]using this
      unfold Oper.wp;rw[b2]
      have L:∀(i:Nat) v d,(z.toList.map a.eval++R)[i]?=some v->((es.map fun x=>den C.ρ x.1)++fl)[i]?=some d->cg w G.S v d:=by
       intro i v d hv hd;by_cases Z:i<z.toList.length
       .rw[an (by simpa using Z)]at hv;rw[an (by rw[ao,k1];exact Z)]at hd;simp only[ab,dn]at hv hd;obtain⟨x,r,rfl⟩:=hv;obtain⟨y,J,rfl⟩:=hd;exact(k2 i x y r J).1
       rw[aL (by simpa using Z)]at hv;rw[aL (by rw[ao,k1];omega)]at hd;simp only[ao]at hv hd;rw[k1]at hd;exact d9 _ v d hv hd
      have b8:dx (.V c.params) ((es.map fun x=>den C.ρ x.1)++fl):=by
       rw[<-c7];refine jk (by simp[fH a1]) fun j u x I r=>?_;by_cases Z:j<es.length
       .rw[an (by simpa using Z)]at I r;simp only[ab,dn]at I r;obtain⟨y,J,rfl⟩:=I;obtain⟨y',a0,rfl⟩:=r;rw[J]at a0;injection a0 with a0;subst a0;have b6:j<z.toList.length:=by rw[<-k1];exact Z
        exact(k2 j _ y (aS b6) J).2
       rw[aL (by simpa using Z)]at I r;simp only[ao]at I r;obtain⟨y,J,d3⟩:=cJ a1 _ u I;rw[r]at J;injection J with J;subst J;exact d3
      obtain⟨_,_,b1,b3⟩:=d2;have X:=b3 yD;rw[c2]at b1 X;refine(F.calls (by simpa using c9) w G.S _ _ T.m.dT O L b8 X).mono ?_;rintro e' w' ⟨v,S',X2,rfl,yI,hS,C2,TA,NI,zT,NJ,acA⟩;simp only;rw[<-b1]at NI;obtain⟨A,V⟩:∃A,A=pJ c.res X2:=⟨_,rfl⟩;have a6:∀j,j∈cU c.res->A j=X2 j:=fun j I=>by rw[V];exact if_pos I
      have a3:=NI.Z6;rw[<-V]at a3;have a5:∀j b,j∈cU c.res->(A j).ownBlock=some b->w.heap.size<=b:=fun j b I hb=>zT j b I (by rw[<-a6 j I];exact hb);have c1:∀j k b,j∈cU c.res->k∈cU c.res->(A j).ownBlock=some b->(A k).ownBlock=some b->j=k:=fun j k b I hk h1 h2=>NJ j k b I hk (by rw[<-a6 j I];exact h1) (by rw[<-a6 k hk];exact h2);let G':Gh:={S:=S',β:=G.β,τ:=fun g=>if g.1=p then A g.2 else G.τ g};have b0:∀j,G'.τ (p,j)=A j:=fun j=>if_pos rfl;have hM:(C.add p).M p:=.inr rfl;have W:im w' 0 G'.S A c.res v ((C.add p).ρ p):=a3;have Y:=uR (C:=C.add p) (G:=G') W hM b4 b0
      obtain⟨b7,hm⟩:=T.m.called hp (τ':=A) yI hS C2 TA (fx σ.live (if pc.isEmpty then gO p c.res else [])) G' rfl
       (by
        intro g x r;unfold fx at r;split at r
        .rename_i y J;have q:=iL J;cases Mq:pc.isEmpty with
         |false=>rw[Mq]at q;simp at q
         |true=>
          rw[Mq]at q;simp only[if_true]at q;obtain⟨q1,q2,e1,T1,t1,q3,q4⟩:=Y _ q;simp only at q1 q3 q4;rw[q3]at r;injection r with r;subst r;refine .inr ⟨q1,q4.Ho (fun b hb=>a5 g.2 b q2 ?_)⟩;have e:G'.τ g=A g.2:=if_pos q1;rw[<-e];exact hb
        exact .inl ⟨gC T.m hp r,r⟩)
       (by
        intro j1 j2 x y b r J e2 e0
        have a9:∀j x,fx σ.live (if pc.isEmpty then gO p c.res else []) (p,j)=some x->j∈cU c.res:=by
         intro j x r;unfold fx at r;split at r
         .rename_i y J;have q:=iL J;cases Mq:pc.isEmpty with
          |false=>rw[Mq]at q;simp at q
          |true=>
           rw[Mq]at q;simp only[if_true]at q;exact(Y _ q).2.1
         exact absurd rfl (gC T.m hp r)
        exact c1 j1 j2 b (a9 j1 x r) (a9 j2 y J) e2 e0)
       (fun d7=>by have h1:=d5 d7;unfold vq at h1;simp only[ho,hf,a2,aT]at h1;rw[V];exact NI.fresh h1.1.1 h1.2 (fun j b I hb=>.inl (aY T.m.tD (zT j b I hb))) fun j I d6=>(acA j I d6).YN fun b hb=>.inl (aY T.m.tD hb)) d1
      exact hK _ _ _ (T.step (o:=o) (e:=⟨o.dst,(pc,nT pc.isEmpty p c.res),[],if pc.isEmpty then gO p c.res else [],[],H⟩) b7 (hm.congr (eh _) rfl) rfl b5 hc
       (by intro _;simp only[yD,if_true];exact Ah (C:=C.add p) (G:=G') W hM b4 b0 _ (by simpa using d0)) a4)
     cases h
    cases h
   cases h
  cases h
def cg.source{S:bE}{v:Tan}{l:Taf}{k:Nat}(h:cg w S v (.list l))(q:∀d∈l,d.cells.length=k):
  ∃(A:Tao Addr) (c:Nat) (news:Tac),v=.slice A l.length c/\(A=none->l.length=0)/\news.length=l.length*k/\(∀g,A=some g->∀(j:Nat) u,news[j]?=some u->w.cell? (g.add j)=some u)/\
   ∀(i:Nat) d (j:Nat) u c,l[i]?=some d->d.cells[j]?=some c->news[i*k+j]?=some u->cg w S u c:=by
 cases h with
 |nil g cap=>exact⟨g,cap,[],rfl,fun _=>rfl,by simp,by simp,by simp⟩
 |list b off cap sz xs _ UZ tV rN hl hS hc hw hr=>
  have f:sz=k:=by
   cases G6:l with
   |nil=>exact absurd G6 tV
   |cons d r=>rw[<-hw 0 d (by rw[G6];rfl)];exact q d (by rw[G6];simp)
  subst f;refine⟨_,cap,xs,rfl,(by intro h;cases h),hl,?_,hr⟩;intro g e j u m;injection e with e;subst e;rw[fT];exact hc j u m
def Ep{N:Tai}{sv:SV}{v:Tan}{e2:E}{u:Ty}(d:AD sv=true)(b:∀g,yV N w G.S (G.τ g))(h:wR C w G sv v)(f:po sv=some (e2,.list u)):
  mJ (yW N w G.S) v\/(u.cells.all Ty.bare)=true:=by
 cases sv with
 |one c=>
  cases c with
  |own g e t=>exact .inl (sZ (C:=C) (c:=.own g e t) rfl b h)
  |oJ t=>exact .inl (sZ (C:=C) (c:=.oJ t) rfl b h)
  |gH e t=>
   simp only[po,asData,aa,ah]at f;obtain⟨_,rfl⟩:=f;exact .inr d
  |clip e t=>
   simp only[po,asData,aa,ah,Ty.list.injEq]at f;obtain⟨_,rfl⟩:=f;exact .inr d
  |_=>cases d
 |_=>cases d
def Bp{ops:Tad}{g:Tao Tag}{e1 e2:E}{T:Tba}{t:Ty}{b:Nat}(hs:gQ n w0 S0 C G σ a w)(hp:¬C.M p)(hg:guardOf ops σ o=some [])(h:sj P σ [] o=some (g,e1,e2,T,t,b))(d0:fc C Φ Pre (.room [] (.bin .cat e1 e2) b))(d2:∀d,o.dst=some d->d<n)(H:List Item)(f2:S0.fr->vq P cs σ [] o=true)(e8:¬S0.wz):
  fY P n w0 S0 C ((⟨o.dst,([],.one (.own (p,0) (.bin .cat e1 e2) t)),[],(match g with|some g=>[(g,none)] |none=>[])++[((p,0),some (.bin .cat e1 e2,T,t))],[],H⟩:jh).app σ) p ops a w o:=by
 intro K Q hK;obtain⟨hw,hc⟩:=gE hs.t hg;rw[hw];simp only[bc,bX,if_true];unfold sj at h;split at h
 .rename_i d6 R ho;split at h
  .rename_i sx x tt f9 a1 a6;split at h
   .rename_i el sv ex u hu a7 hx;split at h
    .rename_i ie u' e9 g4;split at h
     .rename_i d3;obtain⟨rfl,rfl,a5,f7,a8,W,d5⟩:=d3;obtain⟨y1,y2,y3⟩:=dV hs.t (pc:=[]) rfl hx;obtain⟨l2,b3,f8,y⟩:=bO.1 y3;have c9:∀d∈l2,d.cells.length=u.cells.length:=fun d hd=>(cB (y d hd)).1;obtain⟨A,c,I,b9,hA,a2,c6,b2⟩:=(b3▸y2).source c9
      obtain⟨z,hz,d7⟩:∃z,ie.zero=some z/\z.cells.size=ie.size:=by
       cases hq:ie.zero with
       |none=>simp[hq]at W
       |some z=>exact⟨z,rfl,by simpa [hq]using W⟩
      have f3:∀e0 u0,sv≠ .one (.clip e0 u0):=by rintro e0 u0 rfl;cases h
      have a4:∀(v:Tan) (k:E) (g':Tao Tag),a.eval sx=v->k.lt C.N=true->(∃V xs,den C.ρ k=.list V/\(∀d∈V,Has u d)/\w.ownsRow 0 el u.cells.length v V.length xs/\
        (∀(i:Nat) d (j:Nat) u' c,V[i]?=some d->d.cells[j]?=some c->xs[i*u.cells.length+j]?=some u'->cg w G.S u' c)/\
        (v=.slice none 0 0/\g'=none\/∃g x,g'=some g/\σ.live g=some x/\G.τ g=v/\∀b,v.ownBlock=some b->(∀o,G.S b o↔Tag.ex (p,0)=false/\o<xs.length)))->
        fc C Φ Pre (.room [] (.bin .cat k ex) ie.bytes)->
        (∀a' w' G',gQ n w0 S0 (C.add p) G' ((⟨o.dst,([],.one (.own (p,0) (.bin .cat k ex) u)),[],(match g' with|some g=>[(g,none)] |none=>[])++[((p,0),some (.bin .cat k ex,el,u))],[],H⟩:jh).app σ) a' w'->K a' w')->
        o.wp P a w K Q:=by
       rintro v k g' hv O ⟨V,xs,a3,F,r,hxr,hold⟩ acw hK;have a0:den C.ρ (.bin .cat k ex)=.list (V++l2):=by simp only[den,B.den,a3,b3,D.A]
       obtain⟨g5,e4⟩:=acw;have J:=e4 rfl;rw[a0]at J;simp only[D.A,ai]at J
       have c4:∀w∈I,w.oneCell'=true:=by
        intro uu d9;obtain⟨q,hq⟩:=aE d9;have e6:q<I.length:=(aO.1 hq).1;have c1:0<u.cells.length:=by omega
        have hi:q/u.cells.length<l2.length:=by rw[Nat.div_lt_iff_lt_mul c1,<-a2];exact e6
        have hj:q % u.cells.length<u.cells.length:=Nat.mod_lt _ c1;have hd:l2[q/u.cells.length]?=some (l2[q/u.cells.length]'hi):=aS hi;have e3:u.cells[q % u.cells.length]?=some (u.cells[q % u.cells.length]'hj):=aS hj;obtain⟨cc,f4,d4⟩:=(cB (y _ (bQ hd))).2 _ _ e3;have e5:q/u.cells.length*u.cells.length+q % u.cells.length=q:=by rw[Nat.mul_comm];exact Nat.div_add_mod _ _
        exact(b2 _ _ _ uu cc hd f4 (by rw[e5];exact hq)).iE d4 (bY.1 a8 _ (aN hj))
       obtain⟨v',w',c3,a9,b7⟩:=kf (P:=P) w 0 tt o.type el ie z u.cells.length hu e9 hz a5.symm (by rw[d7,a5]) v V.length xs r A l2.length c I hA a2 c6 c4 J.1 J.2 (aF _)
       have b5:(execOp a.eval o).run P w=.ok (.value v') w':=by
        have f6:d6=#[sx,x]:=by apply dI;simpa using a1
        have f5:R=#[tt,tt]:=by apply dI;simpa using a6
        unfold execOp;simp only[ho,resolve,invoke,builtin,f6,f5];simp[hv,b9,c3]
       unfold Oper.wp;rw[b5]
       have f0:∀g,g'=some g->g≠(p,0):=by
        intro g L he;rcases hold with⟨_,h2⟩|⟨g0,x0,h2,h3,_⟩
        .rw[h2]at L;cases L
        rw[h2]at L;injection L with L;subst L;subst he;exact gC hs.m hp h3 rfl
       obtain⟨G',c7,hm,b8⟩:=hs.m.appended hp 0 (v:=v) (v':=v') (T:=el) (t:=u) (n:=V.length) (m:=l2.length) (xs:=xs) (news:=I) (l:=V) (l2:=l2) (e2:=.bin .cat k ex)
        (by omega) rfl rfl hxr b2 (fun d hd=>(cB (F d hd)).1) r.1 a9 b7 (fx σ.live ((match g' with|some g=>[(g,none)] |none=>[])++[((p,0),some (.bin .cat k ex,el,u))]))
        (by
         rcases hold with⟨U,_⟩|⟨g0,x0,h2,h3,h4,h5⟩
         .exact .inl U
         refine .inr ⟨g0,x0,h3,h4,?_,fun b hb=>⟨h5 b hb,fun o' u' e7=>?_⟩⟩
         .rw[h2];simp[fx,lk]
         have:=r.cells (g:=b) hb o' u' e7;rw[fT,av]at this;exact this)
        (by simp[E.lt,O,y1]) a0 (by rw[a0];exact bO.2 ⟨_,rfl,⟨by simpa using J.1,by rw[<-d5];simpa using J.2⟩,fun d hd=>by rcases aM.1 hd with h|h;exact F d h;exact y d h⟩)
        (by
         intro g0 x0 f;unfold fx at f;cases g' with
         |none=>
          simp only[dW,lk]at f;by_cases he:g0=(p,0)
          .rw[if_pos he]at f;simp only[aa]at f;exact .inr ⟨he,f.symm⟩
          rw[if_neg he]at f;exact .inl ⟨he,f⟩
         |some g1=>
          simp only[eL,dW,lk]at f;by_cases O:g0=g1
          .rw[if_pos O]at f;cases f
          rw[if_neg O]at f;by_cases he:g0=(p,0)
          .rw[if_pos he]at f;simp only[aa]at f;exact .inr ⟨he,f.symm⟩
          rw[if_neg he]at f;exact .inl ⟨he,f⟩)
        (fun d1=>⟨rfl,(by
         intro hn u0 c2;rcases r.2 with⟨_,U⟩|⟨b0,aiR,aiP,U,_⟩
         .have:=r.1;rw[U,Nat.zero_mul]at this;rw[au this]at c2;simp at c2
         .rw[hn]at U;cases U),(by
         have U:=f2 d1;unfold vq at U;simp only[ho,a1,a6]at U;cases hxs:gp P σ [] x tt with
         |none=>rw[fA,hxs]at hx;cases hx
         |some xv=>
          have d8:po xv=some (ex,.list u):=by rw[fA,hxs]at hx;exact hx
          have h2:(u.cells.all Ty.bare)=true\/AD xv=true:=by
           rw[a7,hxs]at U;cases sv with
           |one c0=>cases c0 with
            |clip e0 u0=>exact absurd rfl (f3 _ _)
            |_=>exact .inr U
           |_=>exact .inr U
          have h3:mJ (yW (jn w0 S0) w G.S) (a.eval x)\/(u.cells.all Ty.bare)=true:=by
           rcases h2 with h2|h2
           .exact .inr h2
           exact Ep h2 (hs.m.fresh d1) (df hs.t (pc:=[]) rfl hxs) d8
          rcases h3 with h3|h3
          .exact IA h3 (b3▸y2) c9 b9 a2 c6
          exact pv h3 (by omega) y a2 b2)⟩) e8
       have X:=hm.own (p,0) (.bin .cat k ex) el u (by
        show fx σ.live _ (p,0)=_;unfold fx;cases g' with
        |none=>simp[lk]
        |some g1=>simp[lk,Ne.symm (f0 g1 rfl)])
       exact hK _ _ _ (hs.step (o:=o) (e:=⟨o.dst,([],.one (.own (p,0) (.bin .cat k ex) u)),[],(match g' with|some g=>[(g,none)] |none=>[])++[((p,0),some (.bin .cat k ex,el,u))],[],H⟩) c7 (hm.congr (eh _) rfl) rfl
        (by simp[SV.lt,SC.lt,E.lt,O,y1]) (by simp)
        (by intro _;simp only[bc,bX,if_true];refine⟨.inr rfl,by simp[E.lt,O,y1,Cx.add],?_,X.has,b8.symm⟩;have:=X.rep (by omega);rw[b8]at this;exact this) d2)
      split at h
      .rename_i v;split at h
       .rename_i g3;obtain⟨rfl,rfl,rfl,rfl,rfl,rfl⟩:=zP6 h;have hv:=df hs.t (pc:=[]) rfl a7;refine a4 (.slice none 0 0) .nil none hv rfl ⟨[],[],rfl,by simp,fJ w _ _ _,by simp,.inl ⟨rfl,rfl⟩⟩ d0 hK
       cases h
      .rename_i g0 e0 v;split at h
       .rename_i k T' v' Y;split at h
        .rename_i b6;obtain⟨rfl,rfl,rfl,f1⟩:=b6;obtain⟨rfl,rfl,rfl,rfl,rfl,rfl⟩:=zP6 h;have hv:=df hs.t (pc:=[]) rfl a7;have b1:=hs.m.own _ _ _ _ Y;obtain⟨xs,V,a3,r,b4,hr⟩:=b1.own;have hh:=b1.has;rw[a3]at hh;obtain⟨g2,Z,_,F⟩:=bO.1 hh;injection Z with Z;subst Z;exact a4 (G.τ g0) k (some g0) hv.2.2.2.2 b1.lt ⟨V,xs,a3,F,r,hr,.inr ⟨g0,_,rfl,Y,rfl,fun b hb o=>(b4 b hb o).trans (by rw[f1];rfl)⟩⟩ d0 hK
        cases h
       cases h
      cases h
     cases h
    cases h
   cases h
  cases h
 cases h
def yM{ops:Tad}{e1 e2:E}{T:Tba}{t:Ty}{b:Nat}(hs:gQ n w0 S0 C G σ a w)(hp:¬C.M p)(hg:guardOf ops σ o=some [])(h:nI P σ o=some (e1,e2,T,t,b))(e3:fc C Φ Pre (.room [] (.bin .cat e1 e2) b))(c0:fc C Φ Pre (.kx [] (.bin .lt (.aZ i64 0) (.un .len e2))))(c3:∀d,o.dst=some d->d<n)(J:List Item)(e4:S0.fr->vq P cs σ [] o=true)(d8:¬S0.wz):
  fY P n w0 S0 C ((⟨o.dst,([],.one (.own (p,0) (.bin .cat e1 e2) t)),[],[((p,0),some (.bin .cat e1 e2,T,t))],[],J⟩:jh).app σ) p ops a w o:=by
 intro K Q hK;obtain⟨hw,hc⟩:=gE hs.t hg;rw[hw,if_pos (show bc C.ρ []=true from rfl)];unfold nI at h;split at h
 .rename_i d0 H ho;split at h
  .rename_i sx x tt f3 R a0;split at h
   .rename_i el F v ex u hu b4 hx;split at h
    .rename_i ie u' c2 f4;split at h
     .rename_i c4;obtain⟨rfl,rfl,y,f0,a2,L,c9,rfl⟩:=c4;obtain⟨rfl,rfl,rfl,rfl,rfl⟩:=zP5 h;obtain⟨y1,y2,y3⟩:=dV hs.t (pc:=[]) rfl hx;obtain⟨x1,x2,x3,ad,a1⟩:=df hs.t (pc:=[]) rfl b4;obtain⟨S,a7,f2,r⟩:=bO.1 x3;obtain⟨I,a6,f1,i⟩:=bO.1 y3;have b9:∀d∈S,d.cells.length=v.cells.length:=fun d Z=>(cB (r d Z)).1;have e0:∀d∈I,d.cells.length=v.cells.length:=fun d Z=>(cB (i d Z)).1;obtain⟨A1,c1,xs,Y,e9,W,d2,b2⟩:=(a7▸x2).source b9;obtain⟨A,c,f,d1,hA,X,b7,a5⟩:=(a6▸y2).source e0
      obtain⟨z,hz,b1⟩:∃z,ie.zero=some z/\z.cells.size=ie.size:=by
       cases hq:ie.zero with
       |none=>simp[hq]at L
       |some z=>exact⟨z,rfl,by simpa [hq]using L⟩
      have O:den C.ρ (.bin .cat F ex)=.list (S++I):=by simp only[den,B.den,a7,a6,D.A]
      obtain⟨f5,d5⟩:=e3;have k:=d5 rfl;rw[O]at k;simp only[D.A,ai]at k
      have d9:0<I.length:=by have:=c0.2 rfl;simp only[den,B.den,U.den,a6,D.q,D.W,D.A,bk]at this;omega
      have c7:a.eval sx=.slice A1 S.length S.length:=by rw[a7]at a1;simp only[D.A]at a1;rw[a1]at Y⊢;injection Y with h1 h2 h3;rw[h1]
      have b6:∀w∈f,w.oneCell'=true:=by
       intro uu d3;obtain⟨q,hq⟩:=aE d3;have d7:q<f.length:=(aO.1 hq).1;have b3:0<v.cells.length:=by omega
       have hi:q/v.cells.length<I.length:=by rw[Nat.div_lt_iff_lt_mul b3,<-X];exact d7
       have hj:q % v.cells.length<v.cells.length:=Nat.mod_lt _ b3;have Z:I[q/v.cells.length]?=some (I[q/v.cells.length]'hi):=aS hi;have d4:v.cells[q % v.cells.length]?=some (v.cells[q % v.cells.length]'hj):=aS hj;obtain⟨cc,e6,c6⟩:=(cB (i _ (bQ Z))).2 _ _ d4;have d6:q/v.cells.length*v.cells.length+q % v.cells.length=q:=by rw[Nat.mul_comm];exact Nat.div_add_mod _ _
       exact(a5 _ _ _ uu cc Z e6 (by rw[d6];exact hq)).iE c6 (bY.1 a2 _ (aN hj))
      obtain⟨V,w',b5,a4,a9⟩:∃V w',(Builtin.append_ #[tt,tt] o.type #[.slice A1 S.length S.length,.slice A I.length c]).run P w=.ok V w'/\w'.ownsRow 0 el v.cells.length V (S.length+I.length) (xs++f)/\
        ((V.ownBlock=(Value.slice none 0 0).ownBlock/\w.grownBy w' (Value.slice none 0 0).ownBlock)\/(V.ownBlock=some w.heap.size/\w.grownBy w' none)):=by
       cases A1 with
       |none=>
        have h0:=e9 rfl;have g:xs=[]:=au (by rw[W,h0];simp);rw[h0,g];have a3:=k;rw[h0]at a3;exact kf (P:=P) w 0 tt o.type el ie z v.cells.length hu c2 hz y.symm (by rw[b1,y]) (.slice none 0 0) 0 [] (fJ w _ _ _) A I.length c f hA X b7 b6 a3.1 a3.2 (aF _)
       |some ad1=>
        obtain⟨V,w',q1,q2,q3,q4⟩:=yO (P:=P) w tt o.type el ie z v.cells.length hu c2 hz y.symm (by rw[b1,y]) ad1 S.length xs W (fun j u hj=>d2 ad1 rfl j u hj) A I.length c f hA X b7 d9 k.1 k.2;exact⟨V,w',q1,q2,.inr ⟨q3,q4⟩⟩
      have a8:(execOp a.eval o).run P w=.ok (.value V) w':=by
       have e8:d0=#[sx,x]:=by apply dI;simpa using R
       have e7:H=#[tt,tt]:=by apply dI;simpa using a0
       unfold execOp;simp only[ho,resolve,invoke,builtin,e8,e7];simp[c7,d1,b5]
      unfold Oper.wp;rw[a8]
      obtain⟨G',b8,hm,b0⟩:=hs.m.appended hp 0 (v:=.slice none 0 0) (v':=V) (T:=el) (t:=v) (n:=S.length) (m:=I.length) (xs:=xs) (news:=f) (l:=S) (l2:=I) (e2:=.bin .cat F ex)
       (by omega) rfl rfl b2 a5 b9 W a4 a9 (fx σ.live [((p,0),some (.bin .cat F ex,el,v))]) (.inl rfl)
       (by simp[E.lt,x1,y1]) O (by rw[O];exact bO.2 ⟨_,rfl,⟨by simpa using k.1,by rw[<-c9];simpa using k.2⟩,fun d Z=>by rcases aM.1 Z with h|h;exact r d h;exact i d h⟩)
       (by
        intro g0 x0 g;unfold fx at g;simp only[lk]at g;by_cases he:g0=(p,0)
        .rw[if_pos he]at g;simp only[aa]at g;exact .inr ⟨he,g.symm⟩
        rw[if_neg he]at g;exact .inl ⟨he,g⟩)
       (fun e5=>by have h1:=e4 e5;unfold vq at h1;simp only[ho,R,a0,b4]at h1;exact⟨rfl,fun _=>pv h1 (by omega) r W b2,pv h1 (by omega) i X a5⟩) d8
      have N:=hm.own (p,0) (.bin .cat F ex) el v (by show fx σ.live _ (p,0)=_;unfold fx;simp[lk])
      exact hK _ _ _ (hs.step (o:=o) (e:=⟨o.dst,([],.one (.own (p,0) (.bin .cat F ex) v)),[],[((p,0),some (.bin .cat F ex,el,v))],[],J⟩) b8 (hm.congr (eh _) rfl) rfl
       (by simp[SV.lt,SC.lt,E.lt,x1,y1]) (by simp)
       (by intro _;simp only[bc,bX,if_true];refine⟨.inr rfl,by simp[E.lt,x1,y1,Cx.add],?_,N.has,b0.symm⟩;have:=N.rep (by omega);rw[b0]at this;exact this) c3)
     cases h
    cases h
   cases h
  cases h
 cases h
end
section
variable{P:Tap}{C:Cx}{w w0:Tam}{S0:gK}{G:Gh}{σ:St}{a:Act}{o:Tbc}{pc:dM}{s:SV}{is:List Item}{Φ:Taa}{Pre:eN}{n p:Nat}{cs:ni}
def wv{g:Tag}{t:Ty}{e:E}{T:Tba}(h:vD σ g t=some (e,T)):σ.live g=some (e,T,t)/\g.ex=true/\0<t.cells.length:=by
 unfold vD at h;split at h
 .rename_i j k i b;split at h
  .rename_i c;obtain⟨rfl,f,d⟩:=c;obtain⟨rfl,rfl⟩:=iP h;exact⟨b,f,d⟩
  cases h
 cases h
def Cf{g:Tag}{x:E×Tba×Ty}(h:σ.live g=some x):fx σ.live [(g,some x)]=σ.live:=by
 rw[tE,eh];funext y;split
 .rename_i b;rw[b,h]
 rfl
def fg.R6(O:fg w0 S0 C G σ w){g:Tag}{e:E}{T:Tba}{t:Ty}(Q:σ.live g=some (e,T,t)){b k I:Nat}(r:G.τ g=.slice (some ⟨b,0,none⟩) k I):
  ∃(cur:Tbd Tan) (l:Taf),w.heap[b]?=some (.cells cur T (0,0))/\den C.ρ e=.list l/\l.length=k/\(∀d∈l,Has t d)/\k*t.cells.length<=cur.size/\nh t k/\
   ∀(i:Nat) d (j:Nat) c,l[i]?=some d->d.cells[j]?=some c->∃v,cur[i*t.cells.length+j]?=some v/\cg w G.S v c:=by
 have u:=O.own g e T t Q;obtain⟨L,l,K,⟨M,U⟩,W,N⟩:=u.own;obtain⟨V,h,B,m⟩:=bO.1 u.has;rw[K]at h;injection h with h;subst h;rcases U with⟨hv,_⟩|⟨b',He,cur,hv,_,af5,Mr,Yl,GW,uj⟩
 .rw[r]at hv;cases hv
 rw[r]at hv;injection hv with f z y;injection f with f;injection f with f;subst f;subst z;subst y;refine⟨cur,l,af5,K,rfl,m,by rw[GW];exact aw _ Mr,B,fun i d j c H J=>?_⟩;have F:i<l.length:=(aO.1 H).1;have x:=(cB (m d (bQ H))).1;have R:j<t.cells.length:=by rw[<-x];exact(aO.1 J).1
 have A:i*t.cells.length+j<l.length*t.cells.length:=by have:(i+1)*t.cells.length<=l.length*t.cells.length:=aw _ F;rw[cn]at this;omega
 obtain⟨v,q⟩:∃v,L[i*t.cells.length+j]?=some v:=⟨_,aS (by omega)⟩;refine⟨v,?_,N i d j _ c H J q⟩;rw[<-uj,aq,if_pos A]at q;simpa using q
def fg.Wi(H:fg w0 S0 C G σ w){g:Tag}{e i:E}{T:Tba}{t:Ty}(J:σ.live g=some (e,T,t)){b k y:Nat}(r:G.τ g=.slice (some ⟨b,0,none⟩) k y)(hi:(den C.ρ i).q.toNat<k):
  ∃(d:D) (uu:Taj),(den C.ρ e).A[(den C.ρ i).q.toNat]?=some d/\den C.ρ (.bin .idx e i)=d/\Has t d/\∀(j:Nat) c,d.cells[j]?=some c->w.cell? ⟨b,(den C.ρ i).q.toNat*t.cells.length+j,none⟩=some (uu j)/\cg w G.S (uu j) c:=by
 obtain⟨h,l,m,A,I,q,_,_,F⟩:=H.R6 J r;have f:l[(den C.ρ i).q.toNat]?=some (l[(den C.ρ i).q.toNat]'(by omega)):=aS _;refine⟨_,fun j=>h.toList.getD ((den C.ρ i).q.toNat*t.cells.length+j) undef,by rw[A];exact f,?_,q _ (bQ f),fun j c K=>?_⟩
 .simp only[den,B.den,A,D.A];exact gx f
 obtain⟨v,z,u⟩:=F _ _ j c f K;have x:h.toList[(den C.ρ i).q.toNat*t.cells.length+j]?=some v:=by simpa using z
 have L:h.toList.getD ((den C.ρ i).q.toNat*t.cells.length+j) undef=v:=by simp[List.getD,x]
 simp only[L];exact⟨by rw[cell_of_row w b _ h T (0,0) m];exact z,u⟩
def NX{ops:Tad}{e:jh}(k:gQ n w0 S0 C G σ a w)(r:o.guard=none){v:Tan}(c:(execOp a.eval o).run P w=.ok (.value v) w)(j:e.hp=[])(h:fx σ.live e.live=σ.live)(t:e.dst=o.dst)(f:e.tW.1=[])(i:e.tW.2.lt C.N=true)(q:wR C w G e.tW.2 v)(g:∀d,o.dst=some d->d<n):fY P n w0 S0 C (e.app σ) p ops a w o:=by
 intro K Q u;have l:Region.wanted o (yielded ops a.tmps)=true:=by unfold Region.wanted;rw[r]
 rw[l,if_pos rfl];unfold Oper.wp;rw[c];have b:=dS.pH C w G p;refine u _ _ _ (k.step (o:=o) b ((k.m.pH p).congr (by show fx σ.hp e.hp=_;rw[j,eh]) h) t i (by rw[f];simp) (fun _=>?_) g);rw[f];simp only[bc,bX,if_true];exact q.later b
def D5{ops:Tad}{e:jh}(B:gQ n w0 S0 C G σ a w)(Z:o.guard=none)(h:Qc P σ o=some e)(H:e.tW.2.lt C.N=true)(y:∀d,o.dst=some d->d<n):
  fY P n w0 S0 C (e.app σ) p ops a w o:=by
 unfold Qc at h;split at h
 .rename_i z q X;split at h
  .rename_i x t j J;split at h
   .rename_i el g u W S;split at h
    .rename_i ee T F;injection h with h;subst h;obtain⟨L,a0,K⟩:=wv F;obtain⟨hM,V,A,k,a1,r⟩:=df B.t (pc:=[]) rfl S;have f:=B.m.own _ _ _ _ L;obtain⟨l,I,i,_⟩:=bO.1 f.has
     have Y:k=l.length:=by
      obtain⟨xs,l',b,⟨_,M⟩,_⟩:=f.own;rw[I]at b;injection b with b;subst b;rw[<-V,r]at M;rcases M with⟨P5,hn⟩|⟨b',He,cur,P5,_⟩
      .injection P5 with R Q O;omega
      injection P5 with R Q O
     have c:z=#[x]:=by apply dI;simpa using j
     refine NX (v:=.int i64 l.length) B Z ?_ rfl (Cf L) rfl rfl H ?_ y
     .unfold execOp;simp only[X,resolve,invoke,builtin,c];simp[Builtin.len_,J,r,run_underlying W,goInt,Y]
     refine⟨by simpa [E.lt]using f.lt,?_,?_⟩
     .simp only[den,U.den,I,D.A];exact .int _ _
     simp only[den,U.den,I,D.A];have i:=i.1;refine dt.2 ⟨_,rfl,?_,?_⟩
     .show i64.min<=_;simp[IntKind.min,IntKind.signed,IntKind.bits];try omega
     show _<=i64.max;simp[IntKind.max,IntKind.signed,IntKind.bits];simp only[maxLen]at i;omega
    cases h
   cases h
  cases h
 cases h
def Bo{ops:Tad}{e:jh}(y:gQ n w0 S0 C G σ a w)(hg:o.guard=none)(h:C8 P σ o=some e)(K:∀Y∈e.items,fc C Φ Pre Y)(J:e.tW.2.lt C.N=true)(q:∀d,o.dst=some d->d<n):
  fY P n w0 S0 C (e.app σ) p ops a w o:=by
 unfold C8 at h;split at h
 .rename_i t x i ho;split at h
  .rename_i el g u M k hu Z hi;split at h
   .rename_i ee T I;split at h
    .rename_i F;injection h with h;subst h;obtain⟨Q,a2,O⟩:=wv I;obtain⟨hM,hv,A,kk,a3,a0⟩:=df y.t (pc:=[]) rfl Z;obtain⟨X,W,V⟩:=dV y.t (pc:=[]) rfl hi;obtain⟨m,j,_⟩:=dt.1 V;have f:=y.m.own _ _ _ _ Q;obtain⟨l,R,a1,_⟩:=bO.1 f.has;have H:fc C Φ Pre (.kx [] (.bin .and (.bin .le (.aZ k 0) M) (.bin .lt M (.un .len ee)))):=K _ (by simp);have S:=H.2 rfl;simp only[den,B.den,U.den,R,j,D.q,D.W,D.A,aT,bk]at S;obtain⟨r,L⟩:=S;obtain⟨xs,l',c,⟨_,hh⟩,_⟩:=f.own;rw[R]at c;injection c with c;subst c;rcases hh with⟨_,hn⟩|⟨b,He,cur,P5,_⟩
     .omega
     have E:a.eval i=.int k m:=(j▸W).cQ;have z:a.eval x=.slice (some ⟨b,0,none⟩) l.length He:=by rw[hv,P5]
     refine NX (v:=.pointer (some ⟨b,m.toNat*u.cells.length,none⟩)) y hg ?_ rfl (Cf Q) rfl rfl J ?_ q
     .have h1:=hC (P:=P) (w:=w) F;unfold execOp;simp only[ho,z,E,Instr.indexAt,asIntOf];simp[run_underlying hu,r,L,h1,fT]
     refine⟨hM,X,b,He,l.length,P5,?_,?_,?_⟩
     .rw[j];exact r
     .rw[j];simp only[D.q];omega
     rw[j];simp only[D.q];rw[dO]
    cases h
   cases h
  cases h
 cases h
def rY{N:Nat}:∀(l:List E),(E.V l).lt N=true↔ ∀e∈l,e.lt N=true
 |[]=>by simp[E.V,E.lt]
 |e::l=>by simp[E.V,E.lt,rY l]
def CJ:∀{d:Ty} {e l:Taf},dx d e->dx (.V d.A) l->dx d l
 |.nil,_,l,_,h=>h
 |.cons a b,e,l,h0,h=>by obtain⟨_,r0,_,_,c⟩:=aJ.1 h0;obtain⟨x,r,rfl,f,g⟩:=aJ.1 h;exact aJ.2 ⟨x,r,rfl,f,CJ c g⟩
 |.int _,_,_,h,_| .bool,_,_,h,_| .str,_,_,h,_| .list _,_,_,h,_| .agg _,_,_,h,_| .ff _,_,_,h,_| .box _,_,_,h,_| .ptr _,_,_,h,_| .fn _ _,_,_,h,_=>h.elim
def Ez{u:Ty}{d:D}(b:u.scalar=true)(h:Has u d):u.cells=[u]/\d.cells=[d]:=by
 have c:u.cells=[u]:=by cases u<;>first|rfl|cases b
 refine⟨c,?_⟩;cases d<;>first|rfl|(rename_i l;exfalso;cases u<;>simp[Ty.scalar]at b<;>simp[dt,dg,my,bO,ik,kJ,lz]at h)
def K7{u:Ty}{el x:E}{off:Nat}{es:List E}{ts:Tal}(h:Hm u el off es=some x)(T:el.lt C.N=true)(S:(E.V es).lt C.N=true)(Z:Has u (den C.ρ el))(Q:off+es.length<=u.cells.length)(k:ts=(u.cells.drop off).take es.length)(Y:dx (.V ts) (es.map (den C.ρ))):
  x.lt C.N=true/\Has u (den C.ρ x)/\∀(j:Nat) c,(den C.ρ x).cells[j]?=some c->if off<=j/\j<off+es.length then(es[j-off]?).map (den C.ρ)=some c else(den C.ρ el).cells[j]?=some c:=by
 have r:=(rY es).1 S;unfold Hm at h;split at h
 .rename_i L;injection h with h;subst h;obtain⟨l0,H,l⟩:=dU.1 Z;have m:=fH l
  have F:((jx el 0 L.A).map (·.1)).map (den C.ρ)=l0:=by
   apply dD;intro i;simp only[ab,mi,Option.map_map];cases I:(L.A)[i]? with
   |none=>
    have:l0.length<=i:=by rw[m];exact eO.1 I
    simp[cC this]
   |some t=>
    obtain⟨y,M,_⟩:=cJ l i t I;simp only[aV,Function.comp,den,U.den,H,D.A,av,gx M,M]
  have X:off+es.length<=l0.length:=by rw[m];exact Q
  have v:den C.ρ (.un .agg (.V (((jx el 0 L.A).map (·.1)).take off++es++((jx el 0 L.A).map (·.1)).drop (off+es.length))))=.agg (l0.take off++es.map (den C.ρ)++l0.drop (off+es.length)):=by simp only[den,gg,U.den,D.A,ck,List.map_take,List.map_drop,F]
  have q:∀(j:Nat) c,(l0.take off++es.map (den C.ρ)++l0.drop (off+es.length))[j]?=some c->if off<=j/\j<off+es.length then(es[j-off]?).map (den C.ρ)=some c else l0[j]?=some c:=by
   intro j c b;have K:(l0.take off).length=off:=by rw[aA];omega
   split
   .rename_i O;rw[an (by simp[K];omega),aL (by omega),K]at b;simpa using b
   rename_i O;by_cases R:j<off
   .rw[an (by simp[K];omega),an (by omega),aq,if_pos R]at b;exact b
   rw[aL (by simp[K];omega)]at b;simp only[ai,K,ao,aD]at b;rw[show off+es.length+(j-(off+es.length))=j by omega]at b;exact b
  refine⟨?_,?_,?_⟩
  .simp only[E.lt];rw[rY]
   have J:∀e∈(jx el 0 L.A).map (·.1),e.lt C.N=true:=by intro e g;obtain⟨i,I⟩:=aE g;simp only[ab,mi,Option.map_map,dn]at I;obtain⟨_,_,rfl⟩:=I;simpa [E.lt]using T
   intro e g;simp only[aM]at g;rcases g with(g|g)|g
   .exact J e (cw g)
   .exact r e g
   exact J e (cz g)
  .rw[v];refine dU.2 ⟨_,rfl,CJ l (jk ?_ fun j t y b M=>?_)⟩
   .simp only[ai,aA,ao,ba];omega
   have:=q j y M;split at this
   .rename_i O
    have ht:ts[j-off]?=some t:=by rw[k,aq,if_pos (by omega),aD,show off+(j-off)=j by omega];exact b
    obtain⟨z,d,f⟩:=cJ Y (j-off) t (by rw[Ty.dm];exact ht);simp only[ab]at d;rw[this]at d;injection d with d;subst d;exact f
   obtain⟨z,d,f⟩:=cJ l j t b;rw[this]at d;injection d with d;subst d;exact f
  rw[v];intro j c b;have:=q j c b;rw[H];exact this
 .rename_i W _;split at h
  .rename_i O;obtain⟨rfl,B⟩:=O;injection h with h;subst h
   have A:Has u (den C.ρ W):=by
    have V:u.cells=[u]:=by cases u<;>first|rfl|cases B
    rw[V]at k;simp at k;subst k;obtain⟨z,d,f⟩:=cJ Y 0 u (by simp[Ty.V,Ty.A]);simp at d;subst d;exact f
   refine⟨r W (by simp),A,fun j c b=>?_⟩;rw[(Ez B A).2]at b;cases j with
   |zero=>simp at b⊢;exact b
   |succ j=>simp at b
  cases h
 cases h
def Bn{ops:Tad}{e:jh}(U:gQ n w0 S0 C G σ a w)(hg:o.guard=none)(h:C7 P σ o=some e):fY P n w0 S0 C (e.app σ) p ops a w o:=by
 unfold C7 at h;split at h
 .rename_i t x y ho;split at h
  .rename_i g i u off es ts sz hx hy d7;split at h
   .rename_i el T e2;split at h
    .rename_i d0;obtain⟨hn,e4,d6,d8,hd⟩:=d0;simp only[dn]at h;obtain⟨xe,d3,rfl⟩:=h;obtain⟨hl,e8,f2⟩:=wv e2;obtain⟨hM,a1,b,g0,k,a6,f6,e6,hv⟩:=df U.t (pc:=[]) rfl hx;obtain⟨f,l,a4,a3,c1,a5,f3,e3,hr⟩:=U.m.R6 hl a6;obtain⟨d,_,a8,c9,c7,_⟩:=U.m.Wi (i:=i) hl a6 e6;rw[a3]at a8;simp only[D.A]at a8;generalize hI:(den C.ρ i).q.toNat=I at*;have f5:=(cB c7).1
     obtain⟨r,d5,d9⟩:∃r:Tac,(a.eval y).cells=r.toArray/\(E.V es).lt C.N=true/\es.length=r.length/\ts.length=r.length/\(∀(i:Nat) v e,r[i]?=some v->es[i]?=some e->cg w G.S v (den C.ρ e))/\dx (.V ts) (es.map (den C.ρ))/\∀u∈r,u.oneCell'=true:=by
      cases U2:gp P σ [] y t with
      |none=>simp[U2]at hy
      |some sv=>
       simp only[U2,cq]at hy;cases hac:mA sv with
       |none=>simp[hac]at hy
       |some csl=>
        simp only[hac,cq]at hy
        have a0:csl.all SC.scalar=true:=by
         rw[bY];intro c Z;obtain⟨j,J⟩:=aE Z
         have:∀{l:List SC} {es:List E} {ts:Tal} {j:Nat} {c:SC},gZ l=some (es,ts)->ts.all Ty.scalar=true->l[j]?=some c->c.scalar=true:=by
          intro l
          induction l with
          |nil=>intro es ts j c _ _ J;simp at J
          |cons c0 l ih=>
           intro es ts j c h U J;simp only[gZ]at h;split at h
           .rename_i e0 t0 f9 f4 V h2;obtain⟨rfl,rfl⟩:=iP h;simp only[List.all_cons,aT]at U;cases j with
            |zero=>
             simp at J;subst J
             cases c0<;>simp only[asData]at V<;>first
              |rfl
              |(obtain⟨_,rfl⟩:=iP V;exact U.1)
            |succ j=>exact ih h2 U.2 (by simpa using J)
           cases h
         exact this hy d8 J
        obtain⟨r,V,h2⟩:=qU hac (df U.t (pc:=[]) rfl U2) a0;obtain⟨m1,m2,m3,m4,m5⟩:=mj hy h2;refine⟨r,V,m1,m2,m3,m4,m5,fun v hv=>?_⟩;obtain⟨j,J⟩:=aE hv;have c3:j<r.length:=(aO.1 J).1;have d1:csl[j]?=some (csl[j]'(by rw[<-h2.1];exact c3)):=aS _;exact(h2.2 j _ v d1 J).iE (bY.1 a0 _ (bQ d1))
     obtain⟨b0,c6,f1,b7,e7,b8⟩:=d9;have b9:(E.bin .idx el i).lt C.N=true:=by simp[E.lt,(U.m.own _ _ _ _ hl).lt,a1]
     obtain⟨b2,b3,b4⟩:=K7 (C:=C) d3 b9 b0 (by rw[c9];exact c7) (by rw[hn];exact e4) (by rw[hn];exact d6) e7;rw[c9]at b4;generalize L:den C.ρ xe=d' at*;have f8:I<l.length:=by omega
     have f0:=(cB b3).1;let l':=l.take I++d'::(l.drop I).drop 1;have M:l'.length=l.length:=by simp only[l',ai,aA,bg,ba];omega
     have a2:den C.ρ (vB el i xe)=.list l':=by
      have:den C.ρ (vB el i xe)=.list (l.take (den C.ρ i).q.toNat++d'::(l.drop (den C.ρ i).q.toNat).drop 1):=by simp only[vB,den,B.den,a3,D.A,L];rfl
      rw[this,hI]
     have O:∀(q:Nat) R,l'[q]?=some R->(q=I/\R=d')\/(q≠I/\l[q]?=some R):=by
      intro q R H;have V:(l.take I).length=I:=by rw[aA];omega
      by_cases e1:q<I
      .simp only[l']at H;rw[an (by omega),aq,if_pos e1]at H;exact .inr ⟨by omega,H⟩
      simp only[l']at H;rw[aL (by omega),V]at H;by_cases a7:q=I
      .rw[a7,Nat.sub_self]at H;simp at H;exact .inl ⟨a7,H.symm⟩
      rw[show q-I=(q-I-1)+1 by omega,dw,aD,aD]at H;rw[show I+(1+(q-I-1))=q by omega]at H;exact .inr ⟨a7,H⟩
     have d2:(I+1)*u.cells.length<=k*u.cells.length:=aw _ (by omega);have f7:(I+1)*u.cells.length=I*u.cells.length+u.cells.length:=by rw[cn,Nat.one_mul]
     have c4:I*u.cells.length+off+r.length<=f.size:=by omega
     have b5:=run_storeCells_at P b (I*u.cells.length+off) T r 0 f w a4 (by simpa using c4) b8;simp only[dO]at b5
     have b6:(execOp a.eval o).run P w=.ok .skip (w.setRow b (f.toList.take (I*u.cells.length+off)++r++f.toList.drop (I*u.cells.length+off+r.length)).toArray):=by have V:=hC (P:=P) (w:=w) d7;unfold execOp;simp only[ho,hv,Instr.storeAt,Instr.sureAddr];simp[storeVar,V,d5,b5,<-c6,hn]
     intro K Q hK;have hw:Region.wanted o (yielded ops a.tmps)=true:=by unfold Region.wanted;rw[hg]
     rw[hw,if_pos rfl];unfold Oper.wp;rw[b6]
     obtain⟨c2,hm⟩:=U.m.aeW hl e8 (e':=vB el i xe) (live':=fx σ.live [(g,some (vB el i xe,T,u))]) (l':=l') (row:=(f.toList.take (I*u.cells.length+off)++r++f.toList.drop (I*u.cells.length+off+r.length)).toArray)
      (by
       intro g' x' A;rw[tE,eh]at A;have A:(if g'=g then some (vB el i xe,T,u) else σ.live g')=some x':=A;by_cases he:g'=g
       .rw[if_pos he]at A;injection A with A;exact .inr ⟨he,A.symm⟩
       rw[if_neg he]at A;exact .inl ⟨he,A⟩) a6 a4 (by simp;omega)
      (by simp[vB,E.lt,(U.m.own _ _ _ _ hl).lt,a1,b2]) a2 (by rw[M,c1])
      (by
       rw[a2];refine bO.2 ⟨l',rfl,by rw[M,c1];exact e3,fun z hz=>?_⟩;obtain⟨q,H⟩:=aE hz;rcases O q z H with⟨_,rfl⟩|⟨_,hq'⟩
       .exact b3
       exact a5 z (bQ hq'))
      (by
       intro q R j v c H J F
       have W:(f.toList.take (I*u.cells.length+off)).length=I*u.cells.length+off:=by
        have e9:f.toList.length=f.size:=by simp
        rw[aA,e9];omega
       have X:∀z,(z<I*u.cells.length+off\/I*u.cells.length+off+r.length<=z)->(f.toList.take (I*u.cells.length+off)++r++f.toList.drop (I*u.cells.length+off+r.length)).toArray[z]?=f[z]? :=by
        intro z hz;rw[dr];rcases hz with hz|hz
        .rw[an (by rw[ai,W];omega),an (by omega),aq,if_pos hz];simp
        rw[aL (by rw[ai,W];omega),aD,ai,W];rw[show I*u.cells.length+off+r.length+(z-(I*u.cells.length+off+r.length))=z by omega];simp
       have b1:∀(q:Nat) R,l[q]?=some R->R.cells[j]?=some c->(q*u.cells.length+j<I*u.cells.length+off\/I*u.cells.length+off+r.length<=q*u.cells.length+j)->(f.toList.take (I*u.cells.length+off)++r++f.toList.drop (I*u.cells.length+off+r.length)).toArray[q*u.cells.length+j]?=some v->cg w G.S v c:=by intro q R H J hz F;rw[X _ hz]at F;obtain⟨v0,Y,d4⟩:=hr q R j c H J;rw[F]at Y;injection Y with Y;subst Y;exact d4
       rcases O q R H with⟨rfl,rfl⟩|⟨tV,hq'⟩
       .have Z:=b4 j c J;split at Z
        .rename_i e5;rw[dr,an (by rw[ai,W];omega),aL (by omega),W]at F;rw[show q*u.cells.length+j-(q*u.cells.length+off)=j-off by omega]at F;cases KJ:es[j-off]? with
         |none=>rw[KJ]at Z;cases Z
         |some ee=>
          rw[KJ]at Z;simp only[aV,aa]at Z;rw[<-Z];exact b7 _ v ee F KJ
        rename_i e5;exact b1 q d a8 Z (by omega) F
       have c3:j<u.cells.length:=by rw[<-(cB (a5 R (bQ hq'))).1];exact(aO.1 J).1
       refine b1 q R hq' J ?_ F;rcases Nat.lt_or_gt_of_ne tV with V|V
       .have:(q+1)*u.cells.length<=I*u.cells.length:=aw _ V;rw[cn]at this;omega
       have:(I+1)*u.cells.length<=q*u.cells.length:=aw _ V;omega)
     have a9:=c2.trans (dS.pH C _ G p)
     exact hK _ _ _ (U.step (o:=o) (e:=⟨none,([],.agg []),[],[(g,some (vB el i xe,T,u))],[],[]⟩) a9 ((hm.pH p).congr (eh _) rfl) hd.symm rfl (by simp)
      (v:=undef) (by rintro⟨d,L⟩;rw[hd]at L;cases L) (by intro d L;rw[hd]at L;cases L))
    cases h
   cases h
  cases h
 cases h
end
end Go.dF
