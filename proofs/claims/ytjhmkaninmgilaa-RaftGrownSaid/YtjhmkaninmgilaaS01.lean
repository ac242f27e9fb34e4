/- Part 1 of the proof of RaftGrown; no condition. -/
import Derived.Test.YtjhmkaninmgilaaS00
set_option linter.defProp false
set_option linter.unusedVariables false
set_option linter.unusedSimpArgs false
set_option maxHeartbeats 4000000
open Go.IntKind (i64)
namespace Go.dG
open Go Go.RowKit
def lk{a β:Type}[DecidableEq a]:List (a×β)->a->Tap β
 |[],_=>none
 |(k,v)::r,x=>if x=k then some v else lk r x
structure iZ where
 dst:Tal
 tN:dJ×SV
 hp:List (Nat×Tap (Bool×List SC))
 live:List (Tag×Tap (E×Tbb×Ty))
 rd:Tai
 items:List Item
def fj{a β:Type}[DecidableEq a](h:a->β)(l:List (a×β)):a->β:=fun x=>match lk l x with
 |some v=>v
 |none=>h x
def iZ.app(e:iZ)(σ:St):St:=
 ⟨match e.dst with|some d=>fy σ.tm d (some e.tN)|none=>σ.tm,fj σ.hp e.hp,fj σ.live e.live⟩
def guardOf(ops:Tae)(σ:St)(o:Tbd):Tap dJ:=
 match o.guard with
 |none=>some []
 |some (j,want)=>
  match (ops[j]?).bind (·.dst) with
  |some t=>match σ.tm t with
   |some (c,.one (.gz e .bool))=>some ((e,want)::c)
   |_=>none
  |none=>none
def DG(P:Tba)(σ:St)(pc:dJ)(o:Tbd):Tap (Pl×Tai):=
 match o.op with
 |.lookup T m x false=>
  match fT P σ pc m T,fk P σ pc x 0 with
  |some (.one (.Dt id)),some (ek,kt)=>
   match σ.hp id with
   |some (_,cs)=>match mapOf cs with
    |some (e,kt',T')=>if kt'=kt/\T'=T then some ((.one (.gz (.bin .has e ek) .bool),[]),[id]) else none
    |none=>none
   |none=>none
  |_,_=>none
 |_=>none
def qt(P:Tba)(σ:St)(pc:dJ)(o:Tbd):Tap (Pl×Tai):=
 match o.op with
 |.load .. =>DH P σ pc o
 |.move _| .assign _=>(Ac P σ pc o).map (·,[])
 |.pick .. =>(DF P σ pc o).map (·,[])
 |.binOp .. =>(DI P σ pc o).map (·,[])
 |.unOp .. | .convert .. =>(Mm P σ pc o).map (·,[])
 |.extract .. =>(tC P σ pc o).map (·,[])
 |.fieldAddr .. =>(oX P σ pc o).map (·,[])
 |.field .. =>(zp P σ pc o).map (·,[])
 |.indexAddr .. =>(oW P σ pc o).map (·,[])
 |.nilCheck _=>(Jm P σ pc o).map (·,[])
 |.slice _ _ _ _ none=>(zn P σ pc o).map (·,[])
 |.slice .. =>(vS P σ pc o).map (·,[])
 |.build .. =>(zq P σ pc o).map (·,[])
 |.lookup .. =>DG P σ pc o
 |.call {callee:=.builtin .len,.. }| .call {callee:=.builtin .min,.. }| .call {callee:=.builtin .max,.. }=>(Cj P σ pc o).map (·,[])
 |_=>none
def zS(P:Tba)(σ:St)(pc:dJ)(o:Tbd):Tap (List SC):=
 match o.op with
 |.alloc t=>
  match flat P Fo t,(P.info? t).bind (·.zero) with
  |some ts,some z=>lW ts z.cells.toList
  |none,some z=>(match z.cells.toList with| [.map none]=>some [.G9] |_=>none)
  |_,_=>none
 |.box t x=>(fT P σ pc x t).bind mc
 |_=>none
def vF(P:Tba)(σ:St)(pc:dJ)(o:Tbd):Tap (Nat×List SC):=
 match o.op with
 |.store t x y=>
  match fT P σ pc x t,(fT P σ pc y t).bind mc,ik P t with
  |some (.one (.qa id off)),some cs,some n=>
   match σ.hp id with
   |some (false,Qe)=>if mapOf Qe=none/\cs.length=n/\off+cs.length<=Qe.length then some (id,Qe.take off++cs++Qe.drop (off+cs.length)) else none
   |_=>none
  |_,_,_=>none
 |_=>none
def rB(P:Tba)(σ:St)(pc:dJ):List Tbc->Tap (List (E×Ty)×List (Nat×List SC))
 |[]=>some ([],[])
 |x::r=>
  match fT P σ pc x 0,rB P σ pc r with
  |some (.one (.qa id 0)),some (es,fz)=>
   match σ.hp id with
   |some (_,cs)=>match gM cs with
    |some (ds,ts)=>some ((.un .qg (.Y ds),.box (.Y ts))::es,(id,cs)::fz)
    |none=>none
   |none=>none
  |some (.one (.gz e (.box fs))),some (es,fz)=>some ((e,.box fs)::es,fz)
  |_,_=>none
def Mn(P:Tba)(σ:St)(pc:dJ)(o:Tbd):Tap (E×Ty×List (Nat×List SC)):=
 match o.op with
 |.makeFunc (.func f) first captured=>
  if first.toList.isEmpty then
   match rB P σ pc captured.toList with
   |some (es,fz)=>some (.un (.fnc f) (.Y (es.map (·.1))),.fn f (.Y (es.map (·.2))),fz)
   |none=>none
  else none
 |_=>none
def ye(P:Tba)(σ:St)(pc:dJ):List Tbc->List Tbb->Tap (List (E×Ty))
 |[],[]=>some []
 |x::r,t::ts=>match fk P σ pc x t,ye P σ pc r ts with
  |some e,some es=>some (e::es)
  |_,_=>none
 |_,_=>none
def nJ(own:Bool)(p:Nat)(e:E):bC->SC
 |(t,none)=>.gz e t
 |(t,some (j,_))=>if own then(if BN j then .xo (p,j) t else .own (p,j) e t) else .gz e (.list t)
def kY(own:Bool)(p:Nat)(e:E):Nat->List bC->List SC
 |_,[]=>[]
 |j,c::r=>nJ own p (.un (.cell j) e) c::kY own p e (j+1) r
def Aq(own:Bool)(p:Nat)(e:E)(c:Bool×List bC):Bool×List SC:=
 (c.1,if c.1 then kY own p e 0 c.2 else c.2.map (nJ own p e))
def mS(own:Bool)(p:Nat)(e:E):Nat->List (Bool×List bC)->List (Bool×List SC)
 |_,[]=>[]
 |j,c::r=>Aq own p (.un (.cell j) e) c::mS own p e (j+1) r
def uz(own:Bool)(p:Nat)(e:E):List (Bool×List bC)->SV
 | [c]=>match Aq own p e c with
  |(true,l)=>.agg l
  |(false,l)=>.one (l.headD (.od .nil))
 |cs=>.fa (mS own p e 0 cs)
def nu(own:Bool)(p:Nat)(a:List (Bool×List bC)):SV:=uz own p (.var p) a
def kb(p:Nat)(e:E):bC->List (Tag×Tap (E×Tbb×Ty))
 |(_,none)=>[]
 |(t,some (j,T))=>[((p,j),some (e,T,t))]
def lP(p:Nat)(e:E):Nat->List bC->List (Tag×Tap (E×Tbb×Ty))
 |_,[]=>[]
 |j,c::r=>kb p (.un (.cell j) e) c++lP p e (j+1) r
def rX(p:Nat)(e:E)(c:Bool×List bC):List (Tag×Tap (E×Tbb×Ty)):=
 if c.1 then lP p e 0 c.2 else c.2.flatMap (kb p e)
def nj(p:Nat)(e:E):Nat->List (Bool×List bC)->List (Tag×Tap (E×Tbb×Ty))
 |_,[]=>[]
 |j,c::r=>rX p (.un (.cell j) e) c++nj p e (j+1) r
def nK(p:Nat)(e:E):List (Bool×List bC)->List (Tag×Tap (E×Tbb×Ty))
 | [c]=>rX p e c
 |cs=>nj p e 0 cs
def gC(p:Nat)(a:List (Bool×List bC)):List (Tag×Tap (E×Tbb×Ty)):=nK p (.var p) a
def Ks(a:List (Bool×List bC)):Bool:=a.all fun c=>c.2.all fun x=>match x.2 with|some (j,_)=> !BN j|none=>true
def cJ(a:List (Bool×List bC)):Tai:=a.flatMap fun c=>c.2.filterMap fun x=>x.2.map (·.1)
def qm:bC->bC
 |(t,some (j,T))=>(t,some (j+1000,T))
 |c=>c
def vw(a:List (Bool×List bC)):List (Bool×List bC):=a.map fun c=>(c.1,c.2.map qm)
def zZ(s:dI):dI:={s with res:=vw s.res}
def Ty.bare:Ty->Bool
 |.int _| .bool| .str=>true
 |_=>false
def bC.bare:bC->Bool
 |(t,none)=>t.bare
 |(t,some _)=>t.cells.all Ty.bare
def zy(a:List (Bool×List bC)):Bool:=a.all fun c=>c.2.all bC.bare
def adK(cs:mJ):Tal->Bool
 |some d=>cs.ex.contains d
 |none=>false
def Cg(cs:mJ)(dst:Tal)(k:Nat):Tap dI:=
 match lk cs.l k with
 |some s=>if adK cs dst=true/\s.ob=none/\zy s.res=true then some (zZ s) else some s
 |none=>none
def xc(P:Tba)(cs:mJ)(σ:St)(pc:dJ)(o:Tbd):Tap (Nat×E×dI):=
 match o.op with
 |.call {callee:=.value f,args,argTypes}=>
  match fT P σ pc f 0,ye P σ pc args.toList argTypes.toList with
  |some (.one (.gz fe (.fn k fs))),some es=>
   match Cg cs o.dst k with
   |some sig=>
    if sig.ob.isNone=true/\es.map (·.2)++fs.V=sig.params/\(cJ sig.res).Nodup/\(sig.res.all fun c=>c.1||c.2.length==1)=true/\(pc.isEmpty||Ks sig.res)=true then
     some (k,.Y (es.map (·.1)++(jq fe 0 fs.V).map (·.1)),sig)
    else none
   |none=>none
  |_,_=>none
 |_=>none
def kD:List (Tap Tag)->Bool
 |[]=>true
 |none::r=>kD r
 |some g::r=> !r.contains (some g)&&kD r
abbrev kM:=List (Nat×Tap Tag)
def ju(σ:St):bC->SC->Tap (E×kM)
 |(t,none),c=>match asData c with
  |some (e,t')=>if t'=t then some (e,[]) else none
  |none=>match c with
   |.qa _ 0=>if t=.box .nil then some (.un .qg .nil,[]) else none
   |_=>none
 |(t,some (j,T)),c=>match c with
  |.od t'=>if t'=t/\0<t.cells.length then some (.nil,[(j,none)]) else none
  |.own g _ t'=>match σ.live g with
   |some (e,T',t'')=>if t'=t/\t''=t/\T'=T/\0<t.cells.length/\g.ex=false/\BN j=false then some (e,[(j,some g)]) else none
   |none=>none
  |.xo g t'=>match σ.live g with
   |some (e,T',t'')=>if t'=t/\t''=t/\T'=T/\0<t.cells.length/\g.ex=true/\BN j=true then some (e,[(j,some g)]) else none
   |none=>none
  |_=>none
def gg(σ:St):List bC->List SC->Tap (List E×kM)
 |[],[]=>some ([],[])
 |r::rs,c::cs=>match ju σ r c,gg σ rs cs with
  |some (e,l),some (es,ls)=>some (e::es,l++ls)
  |_,_=>none
 |_,_=>none
def kq{σ:St}{a:List bC}{cs:List SC}{x:List E×kM}(h:gg σ a cs=some x):mapOf cs=none:=by
 unfold mapOf;split
 .cases a with
  |nil=>simp[gg]at h
  |cons r rs=>
   obtain⟨t,o⟩:=r;cases o<;>simp[gg,ju,asData]at h
 rfl
def po(l:kM):Bool:=kD (l.map (·.2))&&decide ((l.map (·.1)).Nodup)
def E3:bC->Ty
 |(t,none)=>t
 |(t,some _)=>.list t
def Fg(a:List bC):Tai:=a.filterMap fun x=>x.2.map (·.1)
def Ob.jz(ob:Ob):Tai:=ob.cC.flatMap Fg
def kr(a:dI)(ob:Ob):Tai:=cJ a.res++ob.outs.flatMap Fg
def kO(P:Tba)(σ:St)(pc:dJ):List Bool->List Tbc->List Tbb->Tap (List (E×Ty)×Tai)
 |[],[],[]=>some ([],[])
 |false::sh,x::r,t::ts=>match fk P σ pc x t,kO P σ pc sh r ts with
  |some e,some (es,ids)=>some (e::es,ids)
  |_,_=>none
 |true::sh,x::r,t::ts=>match fT P σ pc x t,kO P σ pc sh r ts with
  |some (.one (.qa id 0)),some (es,ids)=>some (es,id::ids)
  |_,_=>none
 |_,_,_=>none
def tT(σ:St):List (List bC)->Tai->Tap (List (List E)×kM)
 |[],[]=>some ([],[])
 |rc::r,id::ids=>match σ.hp id with
  |some (false,cs)=>match gg σ rc cs,tT σ r ids with
   |some (es,l),some (Zd,ls)=>some (es::Zd,l++ls)
   |_,_=>none
  |_=>none
 |_,_=>none
def gW(l:List Bool):Nat:=(l.filter fun b=>b).length
def I5:bC:=(.box .nil,none)
def HT:List bC->List SC->Tal
 |r::rs,c::cs=>if r=I5 then(match c with
  |.qa id 0=>some id
  |_=>none) else HT rs cs
 |_,_=>none
def nw(σ:St)(ob:Ob)(ids:Tai):Tai:=
 if gW ob.shape<ob.cC.length then
  match ob.cC,ids with
  |rc::_,id::_=>match σ.hp id with
   |some (_,cs)=>ids++(HT rc cs).toList
   |none=>ids
  |_,_=>ids
 else ids
def Co(ob:Ob)(ids:Tai):Tal:=if gW ob.shape<ob.cC.length then ids[ob.cC.length-1]? else none
def Cp(l:Nat):List bC->List SC->Bool
 |r::rs,c::cs=>(decide (r≠I5)||decide (c=.qa l 0))&&Cp l rs cs
 |_,_=>true
def yS(σ:St):List (List bC)->Tai->Tal->Bool
 |rc::r,id::ids,some l=>(match σ.hp id with
  |some (_,cs)=>Cp l rc cs
  |none=>true)&&yS σ r ids (some l)
 |_,_,_=>true
def um(lk:Tal):List bC->List SC->List SC
 |r::rs,c::cs=>(match lk with
  |some id=>if r=I5 then .qa id 0 else c
  |none=>c)::um lk rs cs
 |_,cs=>cs
def AY(lk:Tal):∀(a:List bC) (cs:List SC),(um lk a cs).length=cs.length
 |[],cs=>by simp[um]
 |_::_,[]=>by simp[um]
 |r::a,c::cs=>by simp[um,AY lk a cs]
def rU{lk:Tal}:∀{a:List bC} {cs:List SC} {i:Nat} {c:SC},(um lk a cs)[i]?=some c->∃b,cs[i]?=some b/\(c=b\/∃id,lk=some id/\a[i]?=some I5/\c=.qa id 0)
 |[],cs,i,c,h=>⟨c,by simpa [um]using h,.inl rfl⟩
 |_::_,[],i,c,h=>by simp[um]at h
 |r::a,c1::cs,0,c,h=>by
  simp only[um,db,aa]at h;refine⟨c1,rfl,?_⟩;split at h
  .rename_i id;split at h
   .rename_i d;subst d;exact .inr ⟨id,rfl,rfl,h.symm⟩
   exact .inl h.symm
  exact .inl h.symm
 |r::a,c1::cs,i+1,c,h=>by simp only[um,df]at h;obtain⟨b,f,e⟩:=rU h;exact⟨b,by simpa using f,by simpa using e⟩
def xB{l:Nat}:∀{a:List bC} {cs:List SC} {i:Nat} {c:SC},Cp l a cs=true->a[i]?=some I5->cs[i]?=some c->c=.qa l 0
 |[],_,i,c,_,h,_=>by simp at h
 |_::_,[],i,c,_,_,h=>by simp at h
 |r::a,c1::cs,0,c,h,h1,h2=>by simp only[db,aa]at h1 h2;subst h1 h2;simp only[Cp,aP,bI,bg]at h;exact h.1.resolve_left (fun b=>b rfl)
 |r::a,c1::cs,i+1,c,h,h1,h2=>by simp only[Cp,aP]at h;exact xB h.2 (by simpa using h1) (by simpa using h2)
def AR{σ:St}{l:Nat}:∀{rcs:List (List bC)} {ids:Tai} {o:Nat} {a:List bC} {id:Nat} {ro:Bool} {cs:List SC},yS σ rcs ids (some l)=true->rcs[o]?=some a->ids[o]?=some id->σ.hp id=some (ro,cs)->Cp l a cs=true
 |[],_,o,a,id,ro,cs,_,h,_,_=>by simp at h
 |_::_,[],o,a,id,ro,cs,_,_,h,_=>by simp at h
 |r::rs,i::is,0,a,id,ro,cs,h,h1,h2,h3=>by simp only[db,aa]at h1 h2;subst h1 h2;simp only[yS,h3,aP]at h;exact h.1
 |r::rs,i::is,o+1,a,id,ro,cs,h,h1,h2,h3=>by simp only[yS,aP]at h;exact AR h.2 (by simpa using h1) (by simpa using h2) h3
def Qf(lk:Tal)(p:Nat):Nat->Tai->List (List bC)->List (Nat×Tap (Bool×List SC))
 |k,id::ids,rc::r=>(id,some (false,um lk rc (kY true p (.un (.cell k) (.var p)) 0 rc)))::Qf lk p (k+1) ids r
 |_,_,_=>[]
def xY(p:Nat):Nat->List (List bC)->List (Tag×Tap (E×Tbb×Ty))
 |k,rc::r=>lP p (.un (.cell k) (.var p)) 0 rc++xY p (k+1) r
 |_,[]=>[]
def kR(ob:Ob)(ids:Tai)(p:Nat):Tai:=if ob.mv then ids.take (ob.cC.length-1)++[p] else ids++if ob.new then [p] else []
def Ci(ob:Ob)(ids:Tai)(p:Nat):Tal:=if ob.mv then some p else Co ob ids
def aaC:bC->Bool
 |(t,none)=>t.scalar
 |_=>true
structure oD where
 k:Nat
 args:E
 sig:dI
 ob:Ob
 ids:Tai
 own:kM
def iG(P:Tba)(cs:mJ)(σ:St)(pc:dJ)(o:Tbd):Tap oD:=
 match o.op with
 |.call {callee:=.value f,args,argTypes}=>
  match fT P σ [] f 0 with
  |some (.one (.gz _ (.fn k .nil)))=>
   match lk cs.l k with
   |some sig=>
    match sig.ob with
    |some ob=>
     match kO P σ pc ob.shape args.toList argTypes.toList with
     |some (es,ids)=>
      match tT σ ob.cC (nw σ ob ids) with
      |some (Zd,l)=>
       if es.map (·.2)++ob.cC.flatten.map E3=sig.params/\(nw σ ob ids).Nodup/\po l=true/\(kr sig ob).Nodup/\(sig.res.all fun c=>c.1||c.2.length==1)=true/\
         ob.outs.length=(nw σ ob ids).length+ob.new.toNat/\(ob.outs.all fun a=>a.all aaC)=true/\(nw σ ob ids).length=ob.cC.length/\yS σ ob.cC (nw σ ob ids) (Co ob (nw σ ob ids))=true/\(ob.mv=true->gW ob.shape<ob.cC.length) then
        some ⟨k,.Y (es.map (·.1)++Zd.flatten),sig,ob,nw σ ob ids,l⟩
       else none
      |none=>none
     |none=>none
    |none=>none
   |none=>none
  |_=>none
 |_=>none
def oD.Dq(x:oD)(p:Nat)(dst:Tal):iZ:=
 ⟨dst,([],if x.ob.new then .one (.qa p 0) else uz true p (.un (.cell 0) (.var p)) x.sig.res),Qf (Ci x.ob x.ids p) p 1 (kR x.ob x.ids p) x.ob.outs++(if x.ob.mv then [(x.ids.getD (x.ob.cC.length-1) 0,none)] else []),
  (x.own.filterMap fun y=>y.2.map fun g=>(g,none))++(if x.ob.new then [] else nK p (.un (.cell 0) (.var p)) x.sig.res)++xY p 1 x.ob.outs,x.ids,[.call p x.k x.args []]⟩
def tU(σ:St):List SC->Tap (List E×Tam×Tai)
 |[]=>some ([],[],[])
 |c::r=>match tU σ r with
  |some (es,ts,ids)=>match asData c with
   |some (e,t)=>some (e::es,t::ts,ids)
   |none=>match c with
    |.qa id 0=>match σ.hp id with
     |some (_,cs)=>match gM cs with
      |some (ds,us)=>some (.un .qg (.Y ds)::es,.box (.Y us)::ts,id::ids)
      |none=>none
     |none=>none
    |_=>none
  |none=>none
def KC(P:Tba)(σ:St)(pc:dJ)(x:Tbc)(t:Tbb):Tap (E×Ty×Tai):=
 match fk P σ pc x t with
 |some (e,ty)=>some (e,ty,[])
 |none=>match fT P σ pc x t with
  |some (.one (.qa id 0))=>match σ.hp id with
   |some (_,cs)=>match tU σ cs with
    |some (es,ts,ids)=>some (.un .qg (.Y es),.box (.Y ts),id::ids)
    |none=>none
   |none=>none
  |_=>none
def yd(P:Tba)(σ:St)(pc:dJ):List Tbc->List Tbb->Tap (List (E×Ty)×Tai)
 |[],[]=>some ([],[])
 |x::r,t::ts=>match KC P σ pc x t,yd P σ pc r ts with
  |some (e,ty,i),some (es,ids)=>some ((e,ty)::es,i++ids)
  |_,_=>none
 |_,_=>none
def oJ(P:Tba)(cs:mJ)(σ:St)(pc:dJ)(o:Tbd):Tap (Nat×E×dI×Tai):=
 match o.op with
 |.call {callee:=.value f,args,argTypes}=>
  match fT P σ [] f 0,yd P σ pc args.toList argTypes.toList with
  |some (.one (.gz _ (.fn k .nil))),some (es,ids)=>
   match lk cs.l k with
   |some sig=>
    if sig.ob.isNone=true/\es.map (·.2)=sig.params/\(cJ sig.res).Nodup/\(sig.res.all fun c=>c.1||c.2.length==1)=true/\zy sig.res=true/\(pc.isEmpty||Ks sig.res)=true then
     some (k,.Y (es.map (·.1)),sig,ids)
    else none
   |none=>none
  |_,_=>none
 |_=>none
def rR(P:Tba)(σ:St)(pc:dJ)(o:Tbd):Tap (Tap Tag×E×E×Tbb×Ty×Nat):=
 match o.op with
 |.call {callee:=.builtin .append,args,argTypes}=>
  match args.toList,argTypes.toList with
  | [s,x],[t,t']=>
   match P.underlying t,fT P σ pc s t,fk P σ pc x t with
   |some (.slice el),some sv,some (e2,.list u)=>
    match P.info? el,YQ P el with
    |some ie,some u'=>
     if t=t'/\u=u'/\u.cells.length=ie.size/\0<ie.size/\(u.cells.all Ty.scalar)=true/\((ie.zero.map fun z=>z.cells.size)=some ie.size)/\ie.bytes=u.bytes then
      match sv with
      |.one (.od v)=>if v=u then some (none,.nil,e2,el,u,ie.bytes) else none
      |.one (.own g _ v)=>match σ.live g with
       |some (e1,T,v')=>if v=u/\v'=u/\T=el/\g.ex=false then some (some g,e1,e2,el,u,ie.bytes) else none
       |none=>none
      |_=>none
     else none
    |_,_=>none
   |_,_,_=>none
  |_,_=>none
 |_=>none
def nf(P:Tba)(σ:St)(o:Tbd):Tap (E×E×Tbb×Ty×Nat):=
 match o.op with
 |.call {callee:=.builtin .append,args,argTypes}=>
  match args.toList,argTypes.toList with
  | [s,x],[t,t']=>
   match P.underlying t,fT P σ [] s t,fk P σ [] x t with
   |some (.slice el),some (.one (.clip e1 v)),some (e2,.list u)=>
    match P.info? el,YQ P el with
    |some ie,some u'=>
     if t=t'/\u=u'/\u.cells.length=ie.size/\0<ie.size/\(u.cells.all Ty.scalar)=true/\((ie.zero.map fun z=>z.cells.size)=some ie.size)/\ie.bytes=u.bytes/\v=u then some (e1,e2,el,u,ie.bytes) else none
    |_,_=>none
   |_,_,_=>none
  |_,_=>none
 |_=>none
def SC.aaS:SC->Bool
 |.xo .. =>true
 |_=>false
def SV.ady:SV->Bool
 |.one c=>c.aaS
 |.agg l=>l.any SC.aaS
 |.fa _=>false
def vn(σ:St)(g:Tag)(t:Ty):Tap (E×Tbb):=
 match σ.live g with
 |some (e,T,t')=>if t'=t/\g.ex=true/\0<t.cells.length then some (e,T) else none
 |none=>none
def Hm(u:Ty)(el:E)(off:Nat)(es:List E):Tap E:=
 match u,es with
 |.agg fs,es=>some (.un .agg (.Y (((jq el 0 fs.V).map (·.1)).take off++es++((jq el 0 fs.V).map (·.1)).drop (off+es.length))))
 |u,[x]=>if off=0/\u.scalar=true then some x else none
 |_,_=>none
def vj(e i x:E):E:=.bin .cat (.bin .take e i) (.cons x (.bin .drop (.bin .drop e i) (.aU i64 1)))
def Dy(P:Tba)(σ:St)(o:Tbd):Tap iZ:=
 match o.op with
 |.store t x y=>
  match fT P σ [] x t,((fT P σ [] y t).bind mc).bind gM,ik P t with
  |some (.one (.wQ g i u off)),some (es,ts),some n=>match vn σ g u with
   |some (e,T)=>
    if es.length=n/\off+n<=u.cells.length/\ts=(u.cells.drop off).take n/\(ts.all Ty.scalar)=true/\o.dst=none then
     (Hm u (.bin .idx e i) off es).map fun x=>⟨none,([],.agg []),[],[(g,some (vj e i x,T,u))],[],[]⟩
    else none
   |none=>none
  |_,_,_=>none
 |_=>none
def Qp(P:Tba)(σ:St)(o:Tbd):Tap iZ:=
 match o.op with
 |.call {callee:=.builtin .len,args,argTypes}=>
  match args.toList,argTypes[0]? with
  | [x],some t=>match P.underlying t,fT P σ [] x t with
   |some (.slice _),some (.one (.xo g u))=>match vn σ g u with
    |some (e,T)=>some ⟨o.dst,([],.one (.gz (.un .len e) (.int i64))),[],[(g,some (e,T,u))],[],[]⟩
    |none=>none
   |_,_=>none
  |_,_=>none
 |_=>none
def Dz(P:Tba)(σ:St)(o:Tbd):Tap iZ:=
 match o.op with
 |.indexAddr t x i=>
  match P.underlying t,fT P σ [] x t,fk P σ [] i t with
  |some (.slice el),some (.one (.xo g u)),some (ie,.int k)=>match vn σ g u with
   |some (e,T)=>
    if ik P el=some u.cells.length then
     some ⟨o.dst,([],.one (.wQ g ie u 0)),[],[(g,some (e,T,u))],[],[.jY [] (.bin .and (.bin .le (.aU k 0) ie) (.bin .lt ie (.un .len e)))]⟩
    else none
   |none=>none
  |_,_,_=>none
 |_=>none
def Qo(P:Tba)(σ:St)(p:Nat)(o:Tbd):Tap iZ:=
 match xb P σ o with
 |some (e,T,t,_)=>some ⟨o.dst,([],.one (.xo (p,1000) t)),[],[((p,1000),some (e,T,t))],[],[]⟩
 |none=>none
def qw(σ:St):SC->Tap ((E×Ty)×List (Tag×Tap (E×Tbb×Ty)))
 |.xo g t=>match vn σ g t with
  |some (e,T)=>some ((e,.list t),[(g,some (e,T,t))])
  |none=>none
 |c=>(asData c).map fun x=>(x,[])
def mz(σ:St):List SC->Tap ((List E×Tam)×List (Tag×Tap (E×Tbb×Ty)))
 |[]=>some (([],[]),[])
 |c::r=>match qw σ c,mz σ r with
  |some ((e,t),l),some ((es,ts),ls)=>some ((e::es,t::ts),l++ls)
  |_,_=>none
def pU(σ:St):SV->Tap ((E×Ty)×List (Tag×Tap (E×Tbb×Ty)))
 |.one c=>qw σ c
 |.agg l=>match mz σ l with
  |some ((es,ts),ls)=>some ((.un .agg (.Y es),.agg (.Y ts)),ls)
  |none=>none
 |.fa _=>none
def yc(P:Tba)(σ:St)(pc:dJ):List Tbc->List Tbb->Tap (List (E×Ty)×List (Tag×Tap (E×Tbb×Ty)))
 |[],[]=>some ([],[])
 |x::r,t::ts=>match (fT P σ pc x t).bind (pU σ),yc P σ pc r ts with
  |some (e,l),some (es,ls)=>some (e::es,l++ls)
  |_,_=>none
 |_,_=>none
def Jc(P:Tba)(cs:mJ)(σ:St)(p:Nat)(o:Tbd):Tap iZ:=
 match o.op with
 |.call {callee:=.value f,args,argTypes}=>
  match fT P σ [] f 0,yc P σ [] args.toList argTypes.toList with
  |some (.one (.gz _ (.fn k .nil))),some (es,l)=>
   match lk cs.l k with
   |some sig=>
    if sig.ob.isNone=true/\es.map (·.2)=sig.params/\(cJ sig.res).Nodup/\(sig.res.all fun c=>c.1||c.2.length==1)=true/\(sig.res.all fun c=>c.2.all bC.bare)=true then
     some ⟨o.dst,([],nu true p sig.res),[],l++gC p sig.res,[],[.call p k (.Y (es.map (·.1))) []]⟩
    else none
   |none=>none
  |_,_=>none
 |_=>none
def Cv(P:Tba)(σ:St)(x:Tbc×Tbb):Bool:=match fT P σ [] x.1 x.2 with|some s=>s.ady|none=>false
def Jb(P:Tba)(cs:mJ)(σ:St)(o:Tbd):Nat:=
 match o.op with
 |.store t x _=>match fT P σ [] x t with|some (.one (.wQ ..))=>2|_=>0
 |.indexAddr t x _=>match fT P σ [] x t with|some (.one (.xo ..))=>4|_=>0
 |.call {callee:=.builtin .len,args,argTypes}=>match args.toList,argTypes.toList with
  | [x],[t]=>match fT P σ [] x t with|some (.one (.xo ..))=>3|_=>0
  |_,_=>0
 |.buildSlice .. =>match o.dst with|some d=>if cs.ex.contains d then 6 else 0|none=>0
 |.makeSlice .. =>match o.dst with|some d=>if cs.ex.contains d then 6 else 0|none=>0
 |.call {callee:=.value _,args,argTypes}=>if(args.toList.zip argTypes.toList).any (Cv P σ) then 7 else 0
 |_=>0
def My(P:Tba)(cs:mJ)(σ:St)(p:Nat)(o:Tbd):Nat->Tap iZ
 |2=>Dy P σ o
 |3=>Qp P σ o
 |4=>Dz P σ o
 |6=>Qo P σ p o
 |_=>Jc P cs σ p o
def Hs:Op->Nat
 |.alloc _| .box .. =>1
 |.store .. =>2
 |.makeFunc .. =>3
 |.call {callee:=.value _,.. }=>4
 |.call {callee:=.builtin .append,.. }=>5
 |.buildSlice .. =>6
 |.makeMap .. =>7
 |.mapUpdate .. =>8
 |_=>0
def rH(P:Tba)(cs:mJ)(ops:Tae)(σ:St)(p:Nat)(o:Tbd):Tap iZ:=
 match guardOf ops σ o with
 |none=>none
 |some pc=>
  match Hs o.op with
  |1=>match zS P σ pc o with
   |some l=>if pc=[]/\l.all SC.scalar=true then some ⟨o.dst,(pc,.one (.qa p 0)),[(p,some (false,l))],[],[],[]⟩ else none
   |none=>none
  |2=>match vF P σ pc o with
   |some (id,l)=>if pc=[]/\l.all SC.scalar=true/\o.dst=none then some ⟨none,([],.agg []),[(id,some (false,l))],[],[id],[]⟩ else none
   |none=>none
  |3=>match Mn P σ pc o with
   |some (e,t,fz)=>some ⟨o.dst,(pc,.one (.gz e t)),fz.map fun x=>(x.1,some (true,x.2)),[],fz.map (·.1),[]⟩
   |none=>none
  |4=>match xc P cs σ pc o with
   |some (k,e,sig)=>some ⟨o.dst,(pc,nu pc.isEmpty p sig.res),[],if pc.isEmpty then gC p sig.res else [],[],[.call p k e pc]⟩
   |none=>match iG P cs σ [] o with
    |some x=>if pc=[] then some (x.Dq p o.dst) else none
    |none=>match oJ P cs σ pc o with
     |some (k,e,sig,rd)=>if cs.fr=0 then some ⟨o.dst,(pc,nu pc.isEmpty p sig.res),[],if pc.isEmpty then gC p sig.res else [],rd,[.call p k e pc]⟩ else none
     |none=>none
  |5=>match nf P σ o with
   |some (e1,e2,T,t,b)=>
    if pc=[] then some ⟨o.dst,([],.one (.own (p,0) (.bin .cat e1 e2) t)),[],[((p,0),some (.bin .cat e1 e2,T,t))],[],[.room [] (.bin .cat e1 e2) b,.jY [] (.bin .lt (.aU i64 0) (.un .len e2))]⟩ else none
   |none=>match rR P σ pc o with
    |some (g,e1,e2,T,t,b)=>
     if pc=[] then
      some ⟨o.dst,(pc,.one (.own (p,0) (.bin .cat e1 e2) t)),[],(match g with|some g=>[(g,none)] |none=>[])++[((p,0),some (.bin .cat e1 e2,T,t))],[],[.room pc (.bin .cat e1 e2) b]⟩
     else none
    |none=>none
  |6=>match qQ P σ pc o with
   |some (e,T,t,_)=>
    if pc.isEmpty then some ⟨o.dst,(pc,.one (.own (p,0) e t)),[],[((p,0),some (e,T,t))],[],[]⟩
    else some ⟨o.dst,(pc,.one (.gz e (.list t))),[],[],[],[]⟩
   |none=>none
  |_=>match qt P σ pc o with
   |some ((s,is),rd)=>some ⟨o.dst,(pc,s),[],[],rd,is⟩
   |none=>none
def Cu(P:Tba)(cs:mJ)(ops:Tae)(σ:St)(p:Nat)(o:Tbd):Tap iZ:=
 match o.guard,Jb P cs σ o with
 |none,k+1=>My P cs σ p o (k+1)
 |_,_=>rH P cs ops σ p o
def Ee:SC->Bool
 |.gz _ t=>t.bare
 |.od _=>true
 |.own .. =>true
 |_=>false
def AX:SV->Bool
 |.one (.own ..)=>true
 |.one (.od _)=>true
 |.one (.gz _ (.list u))=>u.cells.all Ty.bare
 |.one (.clip _ u)=>u.cells.all Ty.bare
 |_=>false
def qk(P:Tba)(σ:St)(pc:dJ)(o:Tbd):Tap (List SC):=
 match o.op with
 |.buildSlice t len parts=>
  match P.underlying t with
  |some (.slice el)=>
   match P.info? el,flat P Fo el,ma P σ pc (fun _=>el) parts.toList with
   |some ie,some ts,some ps=>
    match ie.zero.bind fun z=>lW ts z.cells.toList with
    |some zs=>uD (fun i=>some (i*ie.size,ie.size)) ((List.range (len*ie.size)).map fun j=>zs.getD (j % zs.length) (.od .nil)) ps
    |none=>none
   |_,_,_=>none
  |_=>none
 |_=>none
def Sz(j:Nat):Bool:=decide (500<=j)&&decide (j<1000)
def bC.fr:bC->Bool
 |(t,none)=>t.bare
 |(t,some (j,_))=>t.cells.all Ty.bare||Sz j
def T5(a:List (Bool×List bC)):Bool:=a.all fun c=>c.2.all bC.fr
def Mp(a:List (Bool×List bC)):Bool:=(cJ a).all fun j=> !Sz j
def vd(P:Tba)(cs:mJ)(σ:St)(pc:dJ)(o:Tbd):Bool:=
 match o.op with
 |.call {callee:=.value f,.. }=>match fT P σ pc f 0 with
  |some (.one (.gz _ (.fn k _)))=>match Cg cs o.dst k with
   |some sig=>T5 sig.res&&sig.ob.isNone&&Ks sig.res
   |none=>false
  |_=>false
 |.call {callee:=.builtin .append,args,argTypes}=>match args.toList,argTypes.toList with
  | [s,x],[_,t']=>match fT P σ pc s t',fT P σ pc x t' with
   |some (.one (.clip _ u)),_=>u.cells.all Ty.bare
   |_,some sv=>AX sv
   |_,_=>false
  |_,_=>false
 |.buildSlice .. =>match qk P σ pc o with
  |some cs=>cs.all Ee
  |none=>false
 |_=>true
def xg(P:Tba)(cs:mJ)(ops:Tae)(σ:St)(p:Nat)(o:Tbd):Tap iZ:=
 match cs.fr with
 |0=>Cu P cs ops σ p o
 |1=>match guardOf ops σ o with
  |some pc=>if vd P cs σ pc o then rH P cs ops σ p o else none
  |none=>none
 |_=>if Hs o.op<3 then rH P cs ops σ p o else none
structure uq(ex:Bool)(w:Tan)(base:Nat)(S:bG)(T:Tbb)(t:Ty)(v:Tao)(d:D):Prop where
 has:Has (.list t) d
 sz:0<t.cells.length
 own:∃xs l,d=.list l/\w.ownsRow base T t.cells.length v l.length xs/\(∀b,v.ownBlock=some b->∀o,S b o↔ex=false/\o<xs.length)/\
  ∀(i:Nat) d (j:Nat) v c,l[i]?=some d->d.cells[j]?=some c->xs[i*t.cells.length+j]?=some v->bV w S v c
def jE(w:Tan)(base:Nat)(S:bG)(τ:Tak):bC->Tao->D->Prop
 |(t,none),v,d=>bV w S v d/\Has t d
 |(t,some (j,T)),v,d=>v=τ j/\uq (BN j) w base S T t (τ j) d
def fY(w:Tan)(base:Nat)(S:bG)(τ:Tak)(c:Bool×List bC)(v:Tao)(d:D):Prop:=
 if c.1 then∃(a:Tad) (b:Tah),v=.agg a.toArray/\d=.agg b/\a.length=c.2.length/\b.length=c.2.length/\
  ∀(i:Nat) x u y,c.2[i]?=some x->a[i]?=some u->b[i]?=some y->jE w base S τ x u y
 else∃x,c.2=[x]/\jE w base S τ x v d
def gZ(w:Tan)(base:Nat)(S:bG)(τ:Tak)(a:List (Bool×List bC))(v:Tao)(d:D):Prop:=
 (∃c,a=[c]/\fY w base S τ c v d)\/
 (a.length≠1/\∃(b:Tad) (e:Tah),v=.tuple b.toArray/\d=.fa e/\b.length=a.length/\e.length=a.length/\
  ∀(i:Nat) x u y,a[i]?=some x->b[i]?=some u->e[i]?=some y->fY w base S τ x u y)
def Cy(w:Tan)(S:bG)(τ:Tak)(c:List bC)(b:Nat)(cells:Tah):Prop:=
 ∃(a:Tad) (T:Tbb),w.heap[b]?=some (.cells a.toArray T (0,0))/\a.length=c.length/\cells.length=c.length/\
  (∀(i:Nat) r v d,c[i]?=some r->a[i]?=some v->cells[i]?=some d->jE w 0 S τ r v d)/\∀o,¬S b o
def rC(w:Tan)(S:bG)(β:Nat->Nat):List Bool->Nat->Tad->Tah->Prop
 |[],_,[],[]=>True
 |true::sh,o,v::vs,ds=>v=.pointer (some ⟨β o,0,none⟩)/\rC w S β sh (o+1) vs ds
 |false::sh,o,v::vs,d::ds=>bV w S v d/\rC w S β sh o vs ds
 |_,_,_,_=>False
def ug(ob:Ob)(β:Nat->Nat)(τ:Tak)(b:Nat):Prop:=(∃o,o<ob.cC.length/\b=β o)\/∃j,j∈ob.jz/\(τ j).ownBlock=some b
structure Cz(w:Tan)(S:bG)(ob:Ob)(β:Nat->Nat)(τ:Tak)(vs:Tad)(dd:Tah)(oo:List (Tah)):Prop where
 lt:∀b o,S b o->b<w.heap.size
 args:rC w S β ob.shape 0 vs dd
 len:oo.length=ob.cC.length
 cC:∀(o:Nat) rc cells,ob.cC[o]?=some rc->oo[o]?=some cells->Cy w S τ rc (β o) cells
 inj:∀i j,i<ob.cC.length->j<ob.cC.length->β i=β j->i=j
 own:∀j k b,j∈ob.jz->k∈ob.jz->(τ j).ownBlock=some b->(τ k).ownBlock=some b->j=k
 eO:∀j o b,j∈ob.jz->o<ob.cC.length->(τ j).ownBlock=some b->b≠β o
 link:gW ob.shape<ob.cC.length->∀(o c:Nat) rc,ob.cC[o]?=some rc->rc[c]?=some I5->w.cell? ⟨β o,c,none⟩=some (.pointer (some ⟨β (ob.cC.length-1),0,none⟩))
def jU(ob:Ob)(β:Nat->Nat)(βn:Nat)(o:Nat):Nat:=if o<ob.cC.length/\¬(ob.mv=true/\o=ob.cC.length-1) then β o else βn
structure O4(w:Tan)(S:bG)(sig:dI)(ob:Ob)(β:Nat->Nat)(τ:Tak)(v:Tao)(d:D)(w':Tan)(S':bG)(τ':Tak)(βn:Nat):Prop where
 below:fZ (ug ob β τ) w w'
 jx:∀b o,S b o->S' b o
 lt:∀b o,S' b o->b<w'.heap.size
 new:∀b o,S' b o->S b o\/w.heap.size<=b\/ug ob β τ b
 keep:∀b o,S b o->w'.cell? ⟨b,o,none⟩=w.cell? ⟨b,o,none⟩
 res:∃(d0:D) (outs:List (Tah)),d=.fa (d0::outs.map .agg)/\outs.length=ob.outs.length/\
  (if ob.new then v=.pointer (some ⟨βn,0,none⟩)/\w.heap.size<=βn else gZ w' 0 S' τ' sig.res v d0)/\
  ∀(o:Nat) rc cells,ob.outs[o]?=some rc->outs[o]?=some cells->Cy w' S' τ' rc (jU ob β βn o) cells
 fS:∀j b,j∈kr sig ob->(τ' j).ownBlock=some b->w.heap.size<=b\/ug ob β τ b
 own:∀j k b,j∈kr sig ob->k∈kr sig ob->(τ' j).ownBlock=some b->(τ' k).ownBlock=some b->j=k
 eO:∀j o b,j∈kr sig ob->o<ob.outs.length->(τ' j).ownBlock=some b->b≠jU ob β βn o
 link:gW ob.shape<ob.cC.length->∀(o c:Nat) rc,ob.outs[o]?=some rc->rc[c]?=some I5->w'.cell? ⟨jU ob β βn o,c,none⟩=some (.pointer (some ⟨jU ob β βn (ob.cC.length-1),0,none⟩))
 mvd:ob.mv=true->βn=β (ob.cC.length-1)\/w.heap.size<=βn
structure U9(w:Tan)(T:Tbb)(v:Tao)(unit:Bool)(ys:List Int)(u v':Tao)(w':Tan):Prop where
 res:if unit then v'=v else u=v'
 own:w'.ownsRow 0 T 1 v' ys.length (ys.map (Value.int i64))
 E1:v'.ownBlock=v.ownBlock
 below:fZ (fun b=>v.ownBlock=some b) w w'
structure bn(P:Tba)(f:Nat)(sig:dI)(Pre:Tah->Prop)(Φ:Tah->D):Prop where
 enter:∀(args:Tbe Tao) (w:Tan),(callFunc f args).run P w=.ok (.enter f args) w
 calls:sig.ob=none->∀(w:Tan) (S:bG) (vs:Tad) (ds:Tah),(∀b o,S b o->b<w.heap.size)->vs.length=ds.length->(∀(i:Nat) v d,vs[i]?=some v->ds[i]?=some d->bV w S v d)->
  dr (.Y sig.params) ds->Pre ds->
  Calls P f vs.toArray w fun e w'=>∃v S' τ,e=.returned v/\Below w.heap.size w w'/\(∀b o,S b o->S' b o)/\(∀b o,S' b o->b<w'.heap.size)/\(∀b o,S' b o->S b o\/w.heap.size<=b)/\
   gZ w' 0 S' τ sig.res v (Φ ds)/\(∀j b,j∈cJ sig.res->(τ j).ownBlock=some b->w.heap.size<=b)/\(∀j k b,j∈cJ sig.res->k∈cJ sig.res->(τ j).ownBlock=some b->(τ k).ownBlock=some b->j=k)/\
   ∀j,j∈cJ sig.res->Sz j=true->zi (fun b=>w.heap.size<=b) w' S' (τ j)
 Ad:∀ob,sig.ob=some ob->ob.wU=false->∀(w:Tan) (S:bG) (β:Nat->Nat) (τ:Tak) (vs:Tad) (dd:Tah) (oo:List (Tah)),Cz w S ob β τ vs dd oo->
  dr (.Y sig.params) (dd++oo.flatten)->Pre (dd++oo.flatten)->
  Calls P f vs.toArray w fun e w'=>∃v S' τ' βn,e=.returned v/\O4 w S sig ob β τ v (Φ (dd++oo.flatten)) w' S' τ' βn
 Hq:∀ob,sig.ob=some ob->ob.wU=true->∀(w:Tan) (T:Tbb) (v:Tao) (zs:List Int),w.ownsRow 0 T 1 v zs.length (zs.map (Value.int i64))->Has (.list (.int i64)) (.list (zs.map (D.int i64)))->Pre [.list (zs.map (D.int i64))]->
  Calls P f #[v] w fun e w'=>∃(u v':Tao) (ys:List Int),e=.returned u/\Φ [.list (zs.map (D.int i64))]=.list (ys.map (D.int i64))/\Has (.list (.int i64)) (.list (ys.map (D.int i64)))/\U9 w T v sig.res.isEmpty ys u v' w'
structure adX(P:Tba)(f:Nat)(sg:Ay)(Pre:Tah->Prop)(Φ:Tah->D):Prop where
 enter:∀(args:Tbe Tao) (w:Tan),(callFunc f args).run P w=.ok (.enter f args) w
 calls:∀(w:Tan) (S:bG) (vs:Tad) (ds:Tah) (vo:Tao) (lo:D) (bm:Nat) (lm:D),(∀b o,S b o->b<w.heap.size)->vs.length=ds.length->(∀(i:Nat) v d,vs[i]?=some v->ds[i]?=some d->bV w S v d)->
  dr (.Y sg.ps) ds->uq true w 0 S sg.T sg.t vo lo->Has (.list sg.kt) lm->vA P w bm sg.TM sg.kt lm.V->(∀o,¬S bm o)->Pre (ds++[lo,lm])->
  Calls P f (vs++[vo,.map (some bm)]).toArray w fun e w'=>∃v S',e=.returned v/\fZ (fun b=>vo.ownBlock=some b\/b=bm) w w'/\(∀b o,S b o->S' b o)/\(∀b o,S' b o->b<w'.heap.size)/\
   (∀b o,S' b o->S b o\/w.heap.size<=b\/vo.ownBlock=some b\/b=bm)/\(∀b o,S b o->w'.cell? ⟨b,o,none⟩=w.cell? ⟨b,o,none⟩)/\uq true w' 0 S' sg.T sg.t v (Φ (ds++[lo,lm]))/\
   ∀b,v.ownBlock=some b->w.heap.size<=b\/vo.ownBlock=some b\/b=bm
structure QB(P:Tba)(f:Nat)(sF:dI)(Pre:Tah->Prop)(Φ:Tah->D):Prop where
 new:bn P f sF (fun ds=>Pre ds/\((Φ ds).V.getD 0 .top).iL=false) Φ
 nil:∀ob,sF.ob=some ob->∀(w:Tan) (S:bG) (β:Nat->Nat) (τ:Tak) (vs:Tad) (dd:Tah) (oo:List (Tah)),Cz w S ob β τ vs dd oo->dr (.Y sF.params) (dd++oo.flatten)->Pre (dd++oo.flatten)->
  ((Φ (dd++oo.flatten)).V.getD 0 .top).iL=true->Calls P f vs.toArray w fun e w'=>e=.returned (.pointer none)/\Below w.heap.size w w'
structure Hf(P:Tba)(cs:mJ)(S0:gw)(Φ:Tab)(Pre:Taa):Prop where
 fr:S0.fr->cs.fr=1
 wz:S0.wz->cs.fr=2
 prog:S0.prog=P
 keys:∀T kt,lk cs.mp T=some kt->Va P T kt
 eat:∀k sg,lk cs.et k=some sg->sg.nn=none->adX P k sg (Pre k) (Φ k)
 nn:∀k sg sF t,lk cs.et k=some sg->sg.nn=some (sF,t)->QB P k sF (Pre k) (Φ k)
def FG{w w':Tan}{S S':bG}{t:Ty}{v:Tao}{d:D}(b:t.bare=true)(a:Has t d)(h:bV w S v d):bV w' S' v d:=by
 cases t<;>simp[Ty.bare]at b
 .obtain⟨n,rfl,_⟩:=dm.1 a;rw[h.dj];exact .int _ _
 .obtain⟨n,rfl⟩:=dg.1 a;rw[h.gV];exact .bool _
 obtain⟨n,rfl⟩:=mP.1 a;rw[h.Ec];exact .str _
def RO(j:Nat):BN (j+1000)=true:=by unfold BN;exact decide_eq_true (by omega)
def mY(b:List (Bool×List bC)):cJ (vw b)=(cJ b).map (· +1000):=by
 induction b with
 |nil=>rfl
 |cons c r ih=>
  have d:∀l:List bC,(l.map qm).filterMap (fun x=>x.2.map (·.1))=(l.filterMap (fun x=>x.2.map (·.1))).map (· +1000):=by
   intro l
   induction l with
   |nil=>rfl
   |cons a l Qg=>
    obtain⟨t,o⟩:=a;cases o with
    |none=>simpa [qm]using Qg
    |some y=>simp only[ct,qm,List.filterMap_cons,aS,Qg]
  have f:cJ (vw (c::r))=(c.2.map qm).filterMap (fun x=>x.2.map (·.1))++cJ (vw r):=rfl;have e:cJ (c::r)=c.2.filterMap (fun x=>x.2.map (·.1))++cJ r:=rfl;rw[f,e,ih,d,bX]
def De{w w0:Tan}{S S':bG}{τ:Tak}{c:bC}{v:Tao}{d:D}(G:c.bare=true)(M:∀b o,S b o->b<w0.heap.size)(f:∀T j,c.2=some (j,T)->∀b,(τ j).ownBlock=some b->w0.heap.size<=b)(h:jE w 0 S' τ c v d):
  jE w 0 S (fun j=>τ (j-1000)) (qm c) v d:=by
 obtain⟨t,o⟩:=c;cases o with
 |none=>
  obtain⟨B,p⟩:=h;exact⟨FG G p B,p⟩
 |some y=>
  obtain⟨j,T⟩:=y;obtain⟨B,p⟩:=h;have g:t.cells.all Ty.bare=true:=G;rw[bU]at g;refine⟨by rw[B];simp,?_⟩;have Q:(fun j=>τ (j-1000)) (j+1000)=τ j:=by simp
  rw[Q,RO];obtain⟨C,I,H,l,E,e,U,L⟩:=p;refine⟨C,I,H,l,E,e,?_,?_⟩
  .intro b s o;refine⟨fun hs=>?_,fun hs=>Bool.noConfusion hs.1⟩;have A:=M b o hs;have n:=f T j rfl b s;omega
  intro i x k u y A n P;obtain⟨R,a,_,J⟩:=bO.1 C;rw[E]at a;injection a with a;subst a;have r:=J x (bT A);obtain⟨O,N⟩:=cZ r;have F:k<t.cells.length:=by rw[<-O];exact(aD.1 n).1
  have K:t.cells[k]?=some t.cells[k]:=aR F;obtain⟨z,m,q⟩:=N k _ K;rw[n]at m;injection m with m;subst m;exact FG (g _ (aF F)) q (L i x k u y A n P)
def Dd{w w0:Tan}{S S':bG}{τ:Tak}{c:Bool×List bC}{v:Tao}{d:D}(k:(c.2.all bC.bare)=true)(p:∀b o,S b o->b<w0.heap.size)(a:∀x∈c.2,∀T j,x.2=some (j,T)->∀b,(τ j).ownBlock=some b->w0.heap.size<=b)(h:fY w 0 S' τ c v d):
  fY w 0 S (fun j=>τ (j-1000)) (c.1,c.2.map qm) v d:=by
 rw[bU]at k;unfold fY at*;split
 .rename_i g;rw[if_pos g]at h;obtain⟨q,C,l,B,A,z,t⟩:=h;refine⟨q,C,l,B,by simpa using A,by simpa using z,fun i x u y f s r=>?_⟩;simp only[ab,cQ]at f;obtain⟨m,e,rfl⟩:=f;exact De (k _ (bT e)) p (a m (bT e)) (t i m u y e s r)
 rename_i g;rw[if_neg g]at h;obtain⟨x,f,l⟩:=h;refine⟨qm x,by simp[f],?_⟩;have n:x∈c.2:=by rw[f];simp
 exact De (k x n) p (a x n) l
def gZ.agm{w:Tan}{base:Nat}{S:bG}{τ:Tak}{a:List (Bool×List bC)}{v:Tao}{d:D}(h:gZ w base S τ a v d){j:Nat}(m:j∈cJ a):
  ∃(t:Ty) (T:Tbb) (d':D),uq (BN j) w base S T t (τ j) d'/\∃c∈a,(t,some (j,T))∈c.2:=by
 obtain⟨c,k,m⟩:=cU.1 m;obtain⟨⟨t,x⟩,e,f⟩:=bE.1 m;simp only[cQ]at f;obtain⟨⟨p,T⟩,rfl,rfl⟩:=f
 have b:∀v d,fY w base S τ c v d->∃d',uq (BN p) w base S T t (τ p) d':=by
  intro v d h;unfold fY at h;split at h
  .obtain⟨q,z,_,_,u,s,l⟩:=h;obtain⟨i,g⟩:=au e;have n:i<c.2.length:=(aD.1 g).1;exact⟨_,(l i _ _ _ g (aR (by omega)) (aR (by omega))).2⟩
  obtain⟨y,r,l⟩:=h;rw[r]at e;simp only[aG]at e;subst e;exact⟨_,l.2⟩
 rcases h with⟨c',hc',h⟩|⟨_,q,z,_,_,u,s,l⟩
 .rw[hc']at k;simp only[aG]at k;subst k;obtain⟨d',o⟩:=b _ _ h;exact⟨t,T,d',o,c,by rw[hc'];simp,e⟩
 obtain⟨i,g⟩:=au k;have n:i<a.length:=(aD.1 g).1;obtain⟨d',o⟩:=b _ _ (l i _ _ _ g (aR (by omega)) (aR (by omega)));exact⟨t,T,d',o,c,k,e⟩
def pn(a:List (Bool×List bC))(τ:Tak):Tak:=fun j=>if j∈cJ a then τ j else .nilIface
def gZ.aaA{w:Tan}{base:Nat}{S:bG}{τ:Tak}{res:List (Bool×List bC)}{v:Tao}{d:D}(h:gZ w base S τ res v d):gZ w base S (pn res τ) res v d:=by
 have b:∀c∈res,∀v d,fY w base S τ c v d->fY w base S (pn res τ) c v d:=by
  intro c e v d h
  have cell:∀x∈c.2,∀v d,jE w base S τ x v d->jE w base S (pn res τ) x v d:=by
   rintro⟨t,x⟩ a v d h;cases x with
   |none=>exact h
   |some y=>
    obtain⟨j,T⟩:=y;have s:j∈cJ res:=cU.2 ⟨c,e,bE.2 ⟨_,a,rfl⟩⟩;have A:pn res τ j=τ j:=if_pos s;show v=pn res τ j/\uq (BN j) w base S T t (pn res τ j) d;rw[A];exact h
  unfold fY at*;split
  .rename_i l;rw[if_pos l]at h;obtain⟨f,m,r,q,p,o,n⟩:=h;exact⟨f,m,r,q,p,o,fun i x u y a k g=>cell x (bT a) u y (n i x u y a k g)⟩
  rename_i l;rw[if_neg l]at h;obtain⟨x,a,z⟩:=h;exact⟨x,a,cell x (by rw[a];simp) _ _ z⟩
 rcases h with⟨c,e,h⟩|⟨h0,f,m,r,q,p,o,n⟩
 .exact .inl ⟨c,e,b c (by rw[e];simp) _ _ h⟩
 exact .inr ⟨h0,f,m,r,q,p,o,fun i x u y a k g=>b x (bT a) u y (n i x u y a k g)⟩
def Be{w:Tan}{S:bG}{X:Taj}{t:Ty}{v:Tao}{d:D}(b:t.bare=true)(a:Has t d)(h:bV w S v d):mi X v:=by
 cases t<;>simp[Ty.bare]at b
 .obtain⟨n,rfl,_⟩:=dm.1 a;rw[h.dj];trivial
 .obtain⟨n,rfl⟩:=dg.1 a;rw[h.gV];trivial
 obtain⟨n,rfl⟩:=mP.1 a;rw[h.Ec];trivial
def oU{w:Tan}{S:bG}{X:Taj}{t:Ty}{l:Tah}{xs:Tad}(z:(t.cells.all Ty.bare)=true)(a:0<t.cells.length)(f:∀x∈l,Has t x)(b:xs.length=l.length*t.cells.length)(y:∀(i:Nat) d (j:Nat) v c,l[i]?=some d->d.cells[j]?=some c->xs[i*t.cells.length+j]?=some v->bV w S v c):∀u∈xs,mi X u:=by
 intro u s;obtain⟨q,o⟩:=au s;have k:q<xs.length:=(aD.1 o).1;have p:q/t.cells.length<l.length:=by rw[Nat.div_lt_iff_lt_mul a,<-b];exact k
 have m:q % t.cells.length<t.cells.length:=Nat.mod_lt _ a;have r:l[q/t.cells.length]?=some (l[q/t.cells.length]'p):=aR p;have g:t.cells[q % t.cells.length]?=some (t.cells[q % t.cells.length]'m):=aR m;obtain⟨A,n,e⟩:=(cZ (f _ (bT r))).2 _ _ g;have h:q/t.cells.length*t.cells.length+q % t.cells.length=q:=by rw[Nat.mul_comm];exact Nat.div_add_mod _ _
 exact Be (bU.1 z _ (aF m)) e (y _ _ _ u A r n (by rw[h];exact o))
def PN{w w0:Tan}{S0:gw}{S:bG}{T:Tbb}{t:Ty}{v:Tao}{d:D}(F:(t.cells.all Ty.bare)=true)(m:∀b,v.ownBlock=some b->jg w0 S0 b)(h:uq false w 0 S T t v d):zi (jg w0 S0) w S v:=by
 intro a n G I;obtain⟨p,j,y,l,rfl,e,A,C⟩:=h;obtain⟨H,f,_,q⟩:=bO.1 p;injection f with f;subst f;rcases e.2 with⟨hn,_⟩|⟨b,He,r,Qh,_⟩
 .rw[hn];exact .inl rfl
 have c:v.ownBlock=some b:=by rw[Qh];rfl
 rw[Qh];by_cases E:l.length=0
 .exact .inl E
 refine .inr ⟨b,0,rfl,fun i=>i=b,?_,rfl⟩;rintro i rfl;have k:0<y.length:=by rw[e.1];exact Nat.mul_pos (by omega) j
 have x:∃r T,w.heap[i]?=some (.cells r T (0,0)):=by
  rcases e.2 with⟨hn,_⟩|⟨b2,ahp,ahm,hv2,_,YK,_⟩
  .rw[hn]at c;cases c
  rw[hv2]at c;simp only[Value.ownBlock,aa]at c;subst c;exact⟨_,_,YK⟩
 refine⟨m i c,⟨0,(A i c 0).2 ⟨rfl,k⟩⟩,x,fun o u hs B=>?_⟩;have z:=((A i c o).1 hs).2;have s:=e.cells (g:=i) c o y[o] (aR z);rw[fL,aq,B]at s;injection s with s;subst s;exact oU F j q e.1 C _ (aF z)
def gZ.fresh{w w0:Tan}{S0:gw}{S:bG}{τ:Tak}{e:List (Bool×List bC)}{v:Tao}{d:D}(h:gZ w 0 S τ e v d)(s:T5 e=true)(r:Ks e=true)(f:∀j b,j∈cJ e->(τ j).ownBlock=some b->jg w0 S0 b)(g:∀j,j∈cJ e->Sz j=true->zi (jg w0 S0) w S (τ j)):∀j,zi (jg w0 S0) w S (pn e τ j):=by
 intro j;unfold pn;split
 .rename_i k;obtain⟨t,T,u,q,c,p,o⟩:=h.agm k;have m:=bU.1 (bU.1 s c p) _ o;have i:=bU.1 (bU.1 r c p) _ o;have l:BN j=false:=by simpa using i
  rw[l]at q;have a:(t.cells.all Ty.bare||Sz j)=true:=m;rcases (bI _ _).mp a with a|a
  .exact PN a (fun b n=>f j b k n) q
  exact g j k a
 exact zi.nilIface
def sj{C:Cx}{w:Tan}{G:Gh}{N:Taj}{c:SC}{v:Tao}(h:Ee c=true)(d:∀g,zi N w G.S (G.τ g))(b:qO C w G c v):mi (zj N w G.S) v:=by
 cases c with
 |gz e t=>exact Be h b.2.2 b.2.1
 |od t=>simp only[qO]at b;subst b;exact .inl rfl
 |own g e t=>
  obtain⟨_,_,j,n,i⟩:=b;obtain⟨l,m,_⟩:=bO.1 n;rw[m]at j;obtain⟨a,f,k⟩:=j.pQ;exact i▸d g a _ f (by rw[<-i];exact k)
 |_=>cases h
def H7{w:Tan}{S:bG}{N:Taj}{v:Tao}{l:Tah}{A:Tap Addr}{k c:Nat}{news:Tad}(g:mi (zj N w S) v)(h:bV w S v (.list l))(x:∀d∈l,d.cells.length=k)(f:v=.slice A l.length c)(i:news.length=l.length*k)(m:∀n,A=some n->∀(j:Nat) u,news[j]?=some u->w.cell? (n.add j)=some u):∀u∈news,mi (zj N w S) u:=by
 intro u t;obtain⟨q,o⟩:=au t;have e:q<news.length:=(aD.1 o).1;cases h with
 |nil n cap=>rw[i]at e;simp at e
 |list b off cap sz xs _ Vl uf rq hl hS hc hw hr=>
  have a:sz=k:=by
   cases Mg:l with
   |nil=>exact absurd Mg uf
   |cons d r=>rw[<-hw 0 d (by rw[Mg];rfl)];exact x d (by rw[Mg];simp)
  subst a;injection f with z E C;rcases g with g|⟨F,B,s,y⟩
  .exact absurd (an g) uf
  simp only[aa,Addr.mk.injEq]at s;obtain⟨rfl,rfl,_⟩:=s;have p:=m _ z.symm q u o;rw[fL]at p;exact(zj.set N w S b y).2.2.2 _ u (hS q (by omega)) p
def IB{res:List (Bool×List bC)}{c:Bool×List bC}{x:bC}{j:Nat}{T:Tbb}(b:c∈res)(a:x∈c.2)(h:x.2=some (j,T)):j∈cJ res:=
 cU.2 ⟨c,b,bE.2 ⟨x,a,by rw[h];rfl⟩⟩
def bn.afR{P:Tba}{f:Nat}{a:dI}{Pre:Tah->Prop}{Φ:Tah->D}(h:bn P f a Pre Φ)(l:a.ob=none)(B:zy a.res=true):bn P f (zZ a) Pre Φ:=by
 refine⟨h.enter,fun _ w S N V C t q G r=>?_,fun F E=>?_,fun F E=>?_⟩
 .refine(h.calls l w S N V C t q G r).mono ?_;rintro e W ⟨v,S',τ,rfl,yT,E,h2,h3,h4,h5,h6,_⟩;unfold zy at B;rw[bU]at B;refine⟨v,S,fun j=>τ (j-1000),rfl,yT,fun _ _ h=>h,fun b o hs=>ar (C b o hs) yT.size,fun _ _ h=>.inl h,?_,?_,?_,?_⟩
  .have g:∀c∈a.res,∀x∈c.2,∀T j,x.2=some (j,T)->∀b,(τ j).ownBlock=some b->w.heap.size<=b:=
    fun c p x A T j n b M=>h5 j b (IB p A n) M
   rcases h4 with⟨c,p,h4⟩|⟨uf,Qa,ds',h7,h8,h9,h10,h11⟩
   .refine .inl ⟨(c.1,c.2.map qm),by simp[zZ,vw,p],?_⟩;have s:c∈a.res:=by rw[p];simp
    exact Dd (B c s) C (g c s) h4
   refine .inr ⟨by simpa [zZ,vw]using uf,Qa,ds',h7,h8,by simpa [zZ,vw]using h9,by simpa [zZ,vw]using h10,fun i x u y A U R=>?_⟩;simp only[zZ,vw,ab,cQ]at A;obtain⟨c,p,rfl⟩:=A;have s:=bT p;exact Dd (B c s) C (g c s) (h11 i c u y p U R)
  .intro j b n m;have d:j∈(cJ a.res).map (· +1000):=by rw[<-mY];exact n
   obtain⟨k,K,rfl⟩:=bf.1 d;exact h5 k b K (by simpa using m)
  .intro j k b n K m H;have d:j∈(cJ a.res).map (· +1000):=by rw[<-mY];exact n
   have J:k∈(cJ a.res).map (· +1000):=by rw[<-mY];exact K
   obtain⟨Q,L,rfl⟩:=bf.1 d;obtain⟨O,I,rfl⟩:=bf.1 J;rw[h6 Q O b L I (by simpa using m) (by simpa using H)]
  intro j n z;have d:j∈(cJ a.res).map (· +1000):=by rw[<-mY];exact n
  obtain⟨k,_,rfl⟩:=bf.1 d;exfalso;unfold Sz at z;simp only[aP,bg]at z;omega
 .exact absurd E (by show a.ob≠some F;rw[l];simp)
 exact absurd E (by show a.ob≠some F;rw[l];simp)
def Pa{P:Tba}{cs:mJ}{Φ:Tab}{Pre:Taa}{dst:Tal}{k:Nat}{a:dI}(h:Cg cs dst k=some a)(b:∀k a,lk cs.l k=some a->bn P k a (Pre k) (Φ k)):bn P k a (Pre k) (Φ k):=by
 unfold Cg at h;split at h
 .rename_i s hs;split at h
  .rename_i c;injection h with h;subst h;exact(b k s hs).afR c.2.1 c.2.2
  injection h with h;subst h;exact b k _ hs
 cases h
section
variable{P:Tba}{C:Cx}{w w0:Tan}{S0:gw}{G:Gh}{σ:St}{a:Act}{o:Tbd}{pc:dJ}{s:SV}{is:List Item}{Φ:Tab}{Pre:Taa}{n p:Nat}
def K8{q:Tai}(D:eU w0 S0 C G σ w)(l:iD C w G σ.tm a)(d:aV C.ρ pc=true)(H:S0.prog=P)(h:DG P σ pc o=some ((s,is),q)):jC P C w G a o s:=by
 unfold DG at h;split at h
 .rename_i T m x B;split at h
  .rename_i id I K j i;split at h
   .rename_i J M g;split at h
    .rename_i e v N f;split at h
     .rename_i F;obtain⟨rfl,rfl⟩:=F;injection h with h;simp only[ae]at h;obtain⟨⟨rfl,rfl⟩,rfl⟩:=h;obtain⟨_,_,b,_⟩:=D.box _ _ _ g;unfold jD at b;rw[f]at b;obtain⟨y,L,k⟩:=b;obtain⟨u,t,r⟩:=dR l d i;have A:=(cS l d j).2;rw[H]at k;have c:=k.lookup t r;refine⟨.bool ((den C.ρ e).V.any fun z=>z.YF (den C.ρ I)),?_,?_⟩
      .unfold execOp;simp only[B,A];rw[bz,c];rfl
      exact⟨by simp[E.lt,y,u],.bool _,dg.2 ⟨_,rfl⟩⟩
     cases h
    cases h
   cases h
  cases h
 cases h
end
section
variable{α β:Type}[DecidableEq α]
def dY(h:α->β):fj h []=h:=by funext x;rfl
def tp(h:α->β)(k:α)(v:β)(l:List (α×β)):fj h ((k,v)::l)=fun x=>if x=k then v else fj h l x:=by
 funext x;simp only[fj,lk];split<;>rename_i b
 .by_cases c:x=k
  .rw[if_pos c]at b;injection b with b;rw[if_pos c,b]
  rw[if_neg c]at b;rw[if_neg c,b]
 by_cases c:x=k
 .rw[if_pos c]at b;cases b
 rw[if_neg c]at b;rw[if_neg c,b]
def Fx(h:Nat->β)(k:Nat)(v:β):fj h [(k,v)]=fy h k v:=by rw[tp];funext x;simp only[dY,fy]
def iw:∀{l:List (α×β)} {x:α} {v:β},lk l x=some v->(x,v)∈l
 |[],_,_,h=>by cases h
 |(k,u)::r,x,v,h=>by
  simp only[lk]at h;split at h
  .rename_i b;injection h with h;subst h;subst b;simp
  exact ao _ (iw h)
end
section
variable{P:Tba}{C:Cx}{w w0:Tan}{S0:gw}{G:Gh}{σ:St}{a:Act}{o:Tbd}{pc:dJ}{s:SV}{is:List Item}{Φ:Tab}{Pre:Taa}{n p:Nat}
def eU.congr{σ':St}(h:eU w0 S0 C G σ w)(e:σ'.hp=σ.hp)(d:σ'.live=σ.live):eU w0 S0 C G σ' w:=by obtain⟨tm,i,c⟩:=σ;obtain⟨f,g,b⟩:=σ';simp only at e d;subst e;subst d;exact⟨h.below,h.jB,h.keep,h.qc,h.kN,h.dP,h.gL,h.mC,h.box,h.inj,h.own,h.fS,h.jr,h.eO,h.fresh,h.wz⟩
def Ir{f:Tai}(i:eU w0 S0 C G σ w)(d:iD C w G σ.tm a)(c:aV C.ρ pc=true)(k:S0.prog=P)(h:qt P σ pc o=some ((s,is),f))(e:∀j∈is,eR C Φ Pre j):jC P C w G a o s:=by
 unfold qt at h
 have b:∀{x:Tap Pl},x.map (·,([]:Tai))=some ((s,is),f)->x=some (s,is):=by intro x g;simp only[cQ,ae]at g;obtain⟨y,m,l,_⟩:=g;rw[m,l]
 split at h
 .exact K9 i d c h
 .exact CS d c (b h)
 .exact CS d c (b h)
 .exact K7 d c (b h)
 .exact La d c (b h) e
 .exact JR d c (b h)
 .exact JR d c (b h)
 .exact EA d c (b h)
 .exact BH d c (b h)
 .exact Is d c (b h)
 .exact BG d c (b h) e
 .exact Pn d c (b h) e
 .exact Iq d c (b h) e
 .exact Gu d c (b h) e
 .exact It d c (b h)
 .exact K8 i d c k h
 .exact AN d c (b h)
 .exact AN d c (b h)
 .exact AN d c (b h)
 cases h
def Yk:Tao->Tap Bool
 |.bool b=>some b
 |_=>none
def gj{ops:Tae}(A:iD C w G σ.tm a)(h:guardOf ops σ o=some pc):Region.wanted o (yielded ops a.tmps)=aV C.ρ pc/\∀x∈pc,x.1.lt C.N=true:=by
 unfold guardOf at h;unfold Region.wanted;split at h
 .rename_i m;injection h with h;subst h;rw[m];exact⟨rfl,by simp⟩
 rename_i j d m;rw[m];split at h
 .rename_i t B;split at h
  .rename_i c e l;injection h with h;subst h;obtain⟨v,E,D,F,i⟩:=A t c _ l
   have y:yielded ops a.tmps j=Yk v:=by unfold yielded;rw[B];simp only[cg,E];cases v<;>rfl
   refine⟨?_,fun x k=>?_⟩
   .show(yielded ops a.tmps j==some d)=aV C.ρ ((e,d)::c);rw[y];have f:aV C.ρ ((e,d)::c)=(((den C.ρ e).Z==d)&&aV C.ρ c):=rfl;rw[f];by_cases g:aV C.ρ c=true
    .rw[if_pos g]at i;obtain⟨_,u,r⟩:=i;obtain⟨b,q⟩:=dg.1 r;have z:=(q▸u).gV;rw[z,q,g,Bool.and_true];show(some b==some d)=(b==d);cases b<;>cases d<;>rfl
    rw[if_neg g]at i;have:aV C.ρ c=false:=by simpa using g
    rw[this,Bool.and_false,i];rfl
   rcases aH.1 k with rfl|k
   .exact F
   exact D x k
  cases h
 cases h
def fM(P:Tba)(n:Nat)(w0:Tan)(S0:gw)(C:Cx)(σ':St)(p:Nat)(ops:Tae)(a:Act)(w:Tan)(o:Tbd):Prop:=
 ∀(K:Act->Taf) (Q:O3),(∀c b d,gG n w0 S0 (C.add p) d σ' c b->K c b)->
  if Region.wanted o (yielded ops a.tmps) then o.wp P a w K Q else K (a.put o.dst undef) w
def Act.AL(a:Act)(d:Tal)(v:Tao):(a.put d v).tmps.size=a.tmps.size:=by cases d<;>simp[Act.put]
def Act.JP(a:Act)(d:Tal)(v:Tao):(a.put d v).defers=a.defers:=by cases d<;>rfl
def gG.step{e:iZ}{w':Tan}{g:Gh}{v:Tao}(hs:gG n w0 S0 C G σ a w)(b:dO C w G (C.add p) w' g)(l:eU w0 S0 (C.add p) g (e.app σ) w')(j:e.dst=o.dst)(h:e.tN.2.lt C.N=true)(q:∀x∈e.tN.1,x.1.lt C.N=true)(k:(∃d,o.dst=some d)->if aV C.ρ e.tN.1 then wP (C.add p) w' g e.tN.2 v else v=undef)(f:∀d,o.dst=some d->d<n):gG n w0 S0 (C.add p) g (e.app σ) (a.put o.dst v) w':=by
 refine⟨l,?_,by rw[Act.AL];exact hs.sz,by rw[Act.JP];exact hs.defers⟩;cases YL:o.dst with
 |none=>
  have c:(e.app σ).tm=σ.tm:=by unfold iZ.app;rw[j,YL]
  rw[c];exact hs.t.later b
 |some d=>
  have c:(e.app σ).tm=fy σ.tm d (some (e.tN.1,e.tN.2)):=by unfold iZ.app;rw[j,YL]
  rw[c];exact(hs.t.later b).put (some d) v e.tN.1 e.tN.2 q h (k ⟨d,YL⟩) (fun i m=>by rw[hs.sz];exact f i (by rw[YL];exact m))
def B4{ops:Tae}{f:Tai}(hs:gG n w0 S0 C G σ a w)(u:guardOf ops σ o=some pc)(h:qt P σ pc o=some ((s,is),f))(g:s.lt C.N=true)(i:∀q∈is,eR C Φ Pre q)(c:∀d,o.dst=some d->d<n)(x:S0.prog=P):
  fM P n w0 S0 C ((⟨o.dst,(pc,s),[],[],f,is⟩:iZ).app σ) p ops a w o:=by
 intro K Q l;obtain⟨r,k⟩:=gj hs.t u;have j:eU w0 S0 (C.add p) G ((⟨o.dst,(pc,s),[],[],f,is⟩:iZ).app σ) w:=(hs.m.pg p).congr (dY _) (dY _);have b:=dO.pg C w G p;rw[r];cases yN:aV C.ρ pc with
 |true=>
  obtain⟨v,z,y⟩:=Ir hs.m hs.t yN x h i;simp only[if_true];unfold Oper.wp;rw[z];exact l _ _ _ (hs.step (o:=o) (e:=⟨o.dst,(pc,s),[],[],f,is⟩) b j rfl g k (by intro _;simp only[yN,if_true];exact y.later b) c)
 |false=>
  simp only[ai,if_false];exact l _ _ _ (hs.step (o:=o) (e:=⟨o.dst,(pc,s),[],[],f,is⟩) b j rfl g k (by intro _;simp only[yN,ai,if_false]) c)
def KX{l:List SC}(r:iD C w G σ.tm a)(q:aV C.ρ pc=true)(h:zS P σ pc o=some l)(m:l.all SC.scalar=true):
  ∃(vs:Tad) (T:Tbb),(execOp a.eval o).run P w=.ok (.value (.pointer (some ⟨w.heap.size,0,none⟩))) (w.alloc (.cells vs.toArray T))/\jK C w G l vs:=by
 unfold zS at h;split at h
 .rename_i t g;split at h
  .rename_i y z j b;refine⟨z.cells.toList,t,?_,qx h⟩;cases hi:P.info? t with
   |none=>simp[hi]at b
   |some it=>
    simp[hi]at b;unfold execOp;simp only[g,Instr.alloc];simp[zeroValue,typeInfo,hi,b,newVar,newRow]
  .rename_i z j b;split at h
   .rename_i f;injection h with h;subst h;refine⟨z.cells.toList,t,?_,by rw[f];rfl,?_⟩
    .cases hi:P.info? t with
     |none=>simp[hi]at b
     |some it=>
      simp[hi]at b;unfold execOp;simp only[g,Instr.alloc];simp[zeroValue,typeInfo,hi,b,newVar,newRow]
    rw[f];intro i c v e d
    match i,e,d with
    |0,e,d=>
     simp at e d;subst e d;exact .inl rfl
    |k+1,e,d=>simp at e
   cases h
  cases h
 .rename_i t x g;cases hg:fT P σ pc x t with
  |none=>simp[hg]at h
  |some sv=>
   simp only[hg,cg]at h;obtain⟨vs,d,u⟩:=qC h (cS r q hg) m;refine⟨vs,t,?_,u⟩;unfold execOp;simp only[g,Instr.box];simp[newVar,newRow,d]
 cases h
def Gl{ops:Tae}{l:List SC}(hs:gG n w0 S0 C G σ a w)(i:¬C.M p)(k:guardOf ops σ o=some [])(h:zS P σ [] o=some l)(b:l.all SC.scalar=true)(f:∀d,o.dst=some d->d<n):
  fM P n w0 S0 C ((⟨o.dst,([],.one (.qa p 0)),[(p,some (false,l))],[],[],[]⟩:iZ).app σ) p ops a w o:=by
 intro K Q q;obtain⟨g,_⟩:=gj hs.t k;rw[g];simp only[aV,bW,if_true];obtain⟨v,T,u,r⟩:=KX hs.t (pc:=[]) rfl h b;unfold Oper.wp;rw[u];obtain⟨c,j⟩:=hs.m.alloc i r b T
 exact q _ _ _ (hs.step (o:=o) (e:=⟨o.dst,([],.one (.qa p 0)),[(p,some (false,l))],[],[],[]⟩) c (j.congr (Fx _ _ _) (dY _)) rfl rfl (by simp)
  (by intro _;simp only[aV,bW,if_true];exact⟨.inr rfl,by simp[fy]⟩) f)
def B3{ops:Tae}{id:Nat}{l:List SC}(hs:gG n w0 S0 C G σ a w)(hg:guardOf ops σ o=some [])(h:vF P σ [] o=some (id,l))(j:l.all SC.scalar=true)(Y:o.dst=none):
  fM P n w0 S0 C ((⟨none,([],.agg []),[(id,some (false,l))],[],[id],[]⟩:iZ).app σ) p ops a w o:=by
 intro K Q hK;obtain⟨hw,_⟩:=gj hs.t hg;rw[hw];simp only[aV,bW,if_true];unfold vF at h;split at h
 .rename_i t x y ho;split at h
  .rename_i g b O sz hx S V;split at h
   .rename_i z J;split at h
    .rename_i L;obtain⟨E,hl,H⟩:=L;obtain⟨rfl,rfl⟩:=iE h;obtain⟨_,Z,N,_⟩:=hs.m.box _ _ _ J;obtain⟨R,T,X,hr⟩:=N.cells E;have U:=(cS hs.t (pc:=[]) rfl hx).2;cases Vs:fT P σ [] y t with
     |none=>simp[Vs]at S
     |some sv=>
      simp only[Vs,cg]at S
      have k:O.all SC.scalar=true:=by rw[List.all_append,List.all_append]at j;simp only[aP]at j;exact j.1.2
      obtain⟨r,hv,c⟩:=qC S (cS hs.t (pc:=[]) rfl Vs) k;have F:=hr.Oy c H
      have D:∀u∈r,u.oneCell'=true:=by intro u hu;obtain⟨i,hi⟩:=au hu;have W:i<r.length:=(aD.1 hi).1;have M:O[i]?=some (O[i]'(by rw[<-c.1];exact W)):=aR _;exact(c.2 i _ u M hi).iH (bU.1 k _ (bT M))
      have A:=run_storeCells_at P (G.β g) b T r 0 R.toArray w X (by simp[c.1,hr.1];exact H) D;simp only[dL]at A
      have B:(execOp a.eval o).run P w=.ok .skip (w.setRow (G.β g) (R.take b++r++R.drop (b+r.length)).toArray):=by have h1:=hJ (P:=P) (w:=w) V;unfold execOp;simp only[ho,U,Instr.storeAt,Instr.sureAddr];simp[storeVar,h1,hv,c.1,hl,A]
      unfold Oper.wp;rw[B];obtain⟨I,hm⟩:=hs.m.WG J E F j;have q:=I.trans (dO.pg C _ G p)
      exact hK _ _ _ (hs.step (o:=o) (e:=⟨none,([],.agg []),[(g,some (false,z.take b++O++z.drop (b+O.length)))],[],[g],[]⟩) q ((hm.pg p).congr (Fx _ _ _) (dY _)) Y.symm rfl (by simp)
       (v:=undef) (by rintro⟨d,f⟩;rw[Y]at f;cases f) (by intro d f;rw[Y]at f;cases f))
    cases h
   cases h
  cases h
 cases h
end
section
variable{P:Tba}{C:Cx}{w w0:Tan}{S0:gw}{G:Gh}{σ:St}{a:Act}{o:Tbd}{pc:dJ}{s:SV}{is:List Item}{Φ:Tab}{Pre:Taa}{n p:Nat}
def eU.JZ(q:eU w0 S0 C G σ w):∀(c:List (Nat×List SC)),(∀x∈c,∃k,σ.hp x.1=some (k,x.2)/\mapOf x.2=none)->
  ∃j,dO C w G C w j/\eU w0 S0 C j {σ with hp:=fj σ.hp (c.map fun x=>(x.1,some (true,x.2)))} w/\(∀x∈c,∀o,o<x.2.length->j.S (G.β x.1) o)/\j.β=G.β
 |[],_=>⟨G,dO.refl C w G,q.congr (dY _) rfl,by simp,rfl⟩
 |(id,cs)::c,h=>by
  obtain⟨F,z,y,B,r⟩:=eU.JZ q c (fun x e=>h x (ao _ e));obtain⟨k,f,g⟩:=h (id,cs) (by simp);simp only at f g
  have b:∃d,fj σ.hp (c.map fun x=>(x.1,some (true,x.2))) id=some (d,cs):=by
   unfold fj;cases hl:lk (c.map fun x=>(x.1,some (true,x.2))) id with
   |none=>exact⟨k,f⟩
   |some v=>
    have:=iw hl;simp only[bf,ae]at this;obtain⟨x,e,rfl,rfl⟩:=this;obtain⟨t,i,_⟩:=h x (ao _ e);rw[f]at i;injection i with i;simp only[ae]at i;exact⟨true,by rw[i.2]⟩
  obtain⟨d,b⟩:=b;obtain⟨E,l,u,A,D,_⟩:=y.freeze (id:=id) (ro:=d) (cs:=cs) b g;refine⟨E,z.trans l,?_,?_,by rw[D,r]⟩
  .refine u.congr ?_ rfl;show fj σ.hp ((id,some (true,cs))::c.map fun x=>(x.1,some (true,x.2)))=fy (fj σ.hp (c.map fun x=>(x.1,some (true,x.2)))) id (some (true,cs));rw[tp];rfl
  intro x e o m;rcases aH.1 e with rfl|e
  .rw[<-r];exact A o m
  exact l.S _ _ (B x e o m)
def A8:∀{l:List Tbc} {es:List (E×Ty)} {b:List (Nat×List SC)},rB P σ pc l=some (es,b)->∀x∈b,∃c,σ.hp x.1=some (c,x.2)/\mapOf x.2=none
 |[],es,b,h=>by simp only[rB,aa,ae]at h;obtain⟨rfl,rfl⟩:=h;simp
 |y::l,es,b,h=>by
  simp only[rB]at h;split at h
  .rename_i id k j m f;split at h
   .rename_i c r g;split at h
    .rename_i i;obtain⟨rfl,rfl⟩:=iE h;intro x d;rcases aH.1 d with rfl|d
     .exact⟨c,g,iS i⟩
     exact A8 f x d
    cases h
   cases h
  .rename_i e q k j m f;obtain⟨rfl,rfl⟩:=iE h;exact A8 f
  cases h
def A4(B:eU w0 S0 C G σ w)(r:iD C w G σ.tm a)(f:aV C.ρ pc=true){L:Gh}(b:dO C w G C w L):∀{l:List Tbc} {es:List (E×Ty)} {t:List (Nat×List SC)},rB P σ pc l=some (es,t)->
  (∀x∈t,∀o,o<x.2.length->L.S (G.β x.1) o)->es.length=l.length/\∀(i:Nat) x e,l[i]?=some x->es[i]?=some e->e.1.lt C.N=true/\bV w L.S (a.eval x) (den C.ρ e.1)/\Has e.2 (den C.ρ e.1)
 |[],es,t,h,_=>by simp only[rB,aa,ae]at h;obtain⟨rfl,rfl⟩:=h;exact⟨rfl,by intro i x e c;simp at c⟩
 |y::l,es,t,h,hS=>by
  simp only[rB]at h;split at h
  .rename_i id K J I A;split at h
   .rename_i ro cs F;split at h
    .rename_i Q ts k;obtain⟨rfl,rfl⟩:=iE h;obtain⟨z,u⟩:=A4 B r f b A (fun x hx=>hS x (ao _ hx));refine⟨by simp[z],fun i x e c g=>?_⟩;cases i with
     |succ i=>exact u i x e (by simpa using c) (by simpa using g)
     |zero=>
      simp at c g;subst c;subst g;have hv:=(cS r f I).2;obtain⟨_,_,q,_⟩:=B.box _ _ _ F;obtain⟨R,T,H,j⟩:=q.cells (iS k);obtain⟨m1,M,m3,Z,Y⟩:=lV k j;have O:den C.ρ (.un .qg (.Y Q))=.ptr (Q.map (den C.ρ)):=by simp only[den,fR,U.den,D.V]
      refine⟨by simpa [E.lt]using m1,?_,?_⟩
      .rw[O,hv];refine .ptr _ R _ (by simp[M]) (fun i c=>hS (id,cs) (by simp) i (by simp[M,j.1]at c;exact c)) (fun i v c=>?_) (fun i v d c m=>?_)
       .rw[cell_of_row w _ i _ T _ H];simpa using c
       simp only[ab,cQ]at m;obtain⟨e,g,rfl⟩:=m;exact(Z i v e c g).keep b.S b.cell
      rw[O];exact ia.2 ⟨_,rfl,Y⟩
    cases h
   cases h
  .rename_i e fs K J I A;obtain⟨rfl,rfl⟩:=iE h;obtain⟨z,u⟩:=A4 B r f b A hS;refine⟨by simp[z],fun i x e' c g=>?_⟩;cases i with
   |succ i=>exact u i x e' (by simpa using c) (by simpa using g)
   |zero=>
    simp at c g;subst c;subst g;obtain⟨X,W,V⟩:=cS r f I;exact⟨X,W.keep b.S b.cell,V⟩
  cases h
def Ic{ops:Tae}{e:E}{t:Ty}{T:List (Nat×List SC)}(hs:gG n w0 S0 C G σ a w)(hg:guardOf ops σ o=some pc)(h:Mn P σ pc o=some (e,t,T))(A:e.lt C.N=true)(F:∀d,o.dst=some d->d<n):
  fM P n w0 S0 C ((⟨o.dst,(pc,.one (.gz e t)),T.map fun x=>(x.1,some (true,x.2)),[],T.map (·.1),[]⟩:iZ).app σ) p ops a w o:=by
 intro K Q hK;obtain⟨hw,hc⟩:=gj hs.t hg;rw[hw];unfold Mn at h;split at h
 .rename_i f first b ho
  split at h
  .rename_i k;split at h
   .rename_i es y g;obtain⟨hE,hT,hF⟩:=LY h;subst hF;obtain⟨G',l,hm,I,a0⟩:=hs.m.JZ y (A8 g);have q:=l.trans (dO.pg C w G' p);have O:=(hm.pg p);have J:=fun(v:Tao) hv=>hs.step (o:=o) (v:=v) (e:=(⟨o.dst,(pc,.one (.gz e t)),y.map fun x=>(x.1,some (true,x.2)),[],y.map (·.1),[]⟩:iZ)) q (O.congr rfl (dY _)) rfl A hc hv F;cases yN:aV C.ρ pc with
    |false=>
     simp only[ai,if_false];exact hK _ _ _ (J _ (by intro _;simp only[yN,ai,if_false]))
    |true=>
     simp only[if_true];obtain⟨W,V⟩:=A4 hs.m hs.t yN l g I;have R:first=#[]:=by apply dC;simpa using k
     have z:(execOp a.eval o).run P w=.ok (.value (.func (.func f) #[] (b.toList.map a.eval).toArray)) w:=by
      have M:(b.toList.map a.eval).toArray=b.map a.eval:=by apply dC;simp
      unfold execOp;simp only[ho,Instr.makeFunc,R,M];simp
     unfold Oper.wp;rw[z];refine hK _ _ _ (J _ ?_);intro _;simp only[yN,if_true];have Z:den C.ρ e=.fn f ((es.map (·.1)).map (den C.ρ)):=by rw[<-hE];simp only[den,fR,U.den,D.V]
     refine⟨A,?_,?_⟩
     .show bV w G'.S _ (den C.ρ _);rw[Z];refine .fn f _ _ (by simp[W]) fun i v d Y H=>?_;simp only[ab,cQ]at Y H;obtain⟨x,L,rfl⟩:=Y;obtain⟨e1,⟨e2,c,rfl⟩,rfl⟩:=H;exact(V i x e2 L c).2.1
     show Has _ (den C.ρ _);rw[Z,<-hT];refine lI.2 ⟨_,rfl,jd (by simp) fun j u x X L=>?_⟩;simp only[ab,cQ]at X L;obtain⟨e1,r,rfl⟩:=X;obtain⟨_,⟨e2,c,rfl⟩,rfl⟩:=L;rw[r]at c;injection c with c;subst c;have B:j<b.toList.length:=by rw[<-W];exact(aD.1 r).1
     exact(V j _ e1 (aR B) r).2.2
   cases h
  cases h
 cases h
def Gf(f:iD C w G σ.tm a)(b:aV C.ρ pc=true):∀{l:List Tbc} {ts:List Tbb} {es:List (E×Ty)},ye P σ pc l ts=some es->
  es.length=l.length/\∀(i:Nat) x e,l[i]?=some x->es[i]?=some e->bV w G.S (a.eval x) (den C.ρ e.1)/\Has e.2 (den C.ρ e.1)
 |[],[],es,h=>by simp only[ye,aa]at h;subst h;exact⟨rfl,by intro i x e c;simp at c⟩
 |y::l,t::ts,es,h=>by
  simp only[ye]at h;split at h
  .rename_i e q m k;injection h with h;subst h;obtain⟨j,g⟩:=Gf f b k;refine⟨by simp[j],fun i x r c d=>?_⟩;cases i with
   |zero=>simp at c d;subst c;subst d;exact(dR f b m).2
   |succ i=>exact g i x r (by simpa using c) (by simpa using d)
  cases h
 |[],_::_,_,h=>by cases h
 |_::_,[],_,h=>by cases h
def uq.ok{base:Nat}{S:bG}{T:Tbb}{t:Ty}{v:Tao}{d:D}{g:Tag}(h:uq g.ex w base S T t v d){e:E}(j:C.M g.1)(c:e.lt C.N=true)(f:den C.ρ e=d)(i:G.S=S)(b:G.τ g=v):
  iY C w base G g e T t:=by obtain⟨l,m,k⟩:=h;subst f;subst i;subst b;exact⟨j,c,l,k⟩
def pa(own:Bool)(p:Nat)(e:E):∀(l:List bC) (j i:Nat),(kY own p e j l)[i]?=(l[i]?).map fun c=>nJ own p (.un (.cell (j+i)) e) c
 |[],j,i=>by simp[kY]
 |c::l,j,0=>by simp[kY]
 |c::l,j,i+1=>by simp only[kY,df,pa own p e l (j+1) i];congr 2;funext t;congr 3;omega
def sr(own:Bool)(p:Nat)(e:E):∀(l:List bC) (j:Nat),(kY own p e j l).length=l.length
 |[],_=>rfl
 |_::l,j=>by simp[kY,sr own p e l]
def yC(own:Bool)(p:Nat)(e:E):∀(l:List (Bool×List bC)) (j i:Nat),(mS own p e j l)[i]?=(l[i]?).map fun c=>Aq own p (.un (.cell (j+i)) e) c
 |[],j,i=>by simp[mS]
 |c::l,j,0=>by simp[mS]
 |c::l,j,i+1=>by simp only[mS,df,yC own p e l (j+1) i];congr 2;funext t;congr 3;omega
def yB(own:Bool)(p:Nat)(e:E):∀(l:List (Bool×List bC)) (j:Nat),(mS own p e j l).length=l.length
 |[],_=>rfl
 |_::l,j=>by simp[mS,yB own p e l]
def tI{base:Nat}{τ:Tak}{c:bC}{v:Tao}{d:D}{e:E}(h:jE w base G.S τ c v d)(x:C.M p)(r:e.lt C.N=true)(u:den C.ρ e=d)(i:∀j,G.τ (p,j)=τ j)(own:Bool)(y:own=true\/∀j T,c.2=some (j,T)->BN j=false:=by exact .inl rfl):
  qO C w G (nJ own p e c) v:=by
 obtain⟨t,_|⟨j,T⟩⟩:=c
 .obtain⟨A,q⟩:=h;exact⟨r,u▸A,u▸q⟩
 obtain⟨rfl,q⟩:=h;have k:=uq.ok (C:=C) (G:=G) (g:=(p,j)) q x r u rfl (i j);cases Ko:BN j with
 |true=>
  have z:own=true:=y.elim id fun h=>by rw[h j T rfl]at Ko;cases Ko
  subst z;simp only[nJ,if_true,Ko];refine⟨x,(i j).symm,?_⟩;obtain⟨B,l,_,m,_⟩:=q.own;rcases m.2 with⟨hv,_⟩|⟨b,cap,cur,hv,_⟩
  .exact⟨_,_,_,hv⟩
  exact⟨_,_,_,hv⟩
 |false=>
  have f:=k.rep q.sz Ko;rw[i j]at f;cases own with
  |true=>simp only[nJ,if_true,Ko,ai,if_false];exact⟨x,r,f,k.has,(i j).symm⟩
  |false=>exact⟨r,f,k.has⟩
def Dc{base:Nat}{τ:Tak}{c:Bool×List bC}{v:Tao}{d:D}{e:E}(h:fY w base G.S τ c v d)(H:C.M p)(B:e.lt C.N=true)(F:den C.ρ e=d)(g:∀j,G.τ (p,j)=τ j)(own:Bool)(b:own=true\/∀y∈c.2,∀j T,y.2=some (j,T)->BN j=false:=by exact .inl rfl):
  lC C w G (Aq own p e c) v:=by
 have k:=b;clear b;unfold fY at h;unfold lC Aq;cases hc:c.1 with
 |true=>
  simp only[hc,if_true]at h⊢;obtain⟨I,A,rfl,rfl,t,r,f⟩:=h;refine⟨I,rfl,by rw[sr,t],fun i x u b J=>?_⟩;rw[pa]at b;simp only[cQ]at b;obtain⟨y,m,rfl⟩:=b;have z:i<A.length:=by rw[r];exact(aD.1 m).1
  have l:A[i]?=some A[i]:=aR z;refine tI (f i y u _ m J l) H (by simpa [E.lt]using B) ?_ g own (k.imp id fun h=>h y (bT m));simp only[den,U.den,F,D.V,aq];exact gf l
 |false=>
  simp only[hc,ai,if_false]at h⊢;obtain⟨x,b,q⟩:=h;exact⟨nJ own p e x,by rw[b];rfl,tI q H B F g own (k.imp id fun h=>h x (by rw[b];simp))⟩
def CL{base:Nat}{τ:Tak}{b:List (Bool×List bC)}{v:Tao}{e:E}(h:gZ w base G.S τ b v (den C.ρ e))(A:C.M p)(z:e.lt C.N=true)(f:∀j,G.τ (p,j)=τ j)(own:Bool)(d:own=true\/Ks b=true:=by exact .inl rfl):
  wP C w G (uz own p e b) v:=by
 have k:own=true\/∀c∈b,∀y∈c.2,∀j T,y.2=some (j,T)->BN j=false:=d.imp id fun h c I y g j T H=>by have:=bU.1 (bU.1 h c I) y g;rw[H]at this;simpa using this
 clear d;rcases h with⟨c,rfl,h⟩|⟨uf,vs,ds,rfl,hd,hl1,hl2,zW⟩
 .have:=Dc h A z rfl f own (k.imp id fun h=>h c (by simp));unfold lC at this;simp only[uz];split
  .rename_i l q;rw[q]at this;simpa [wP]using this
  rename_i l q;rw[q]at this;simp only[ai,if_false]at this;obtain⟨J,rfl,t⟩:=this;exact t
 have F:uz own p e b=.fa (mS own p e 0 b):=by
  match b,uf with
  |[],_=>rfl
  | [c],uf=>exact absurd rfl uf
  |_::_::_,_=>rfl
 rw[F];refine⟨vs,rfl,by rw[yB,hl1],fun i x u d B=>?_⟩;rw[yC]at d;simp only[cQ]at d;obtain⟨y,g,rfl⟩:=d;have r:i<ds.length:=by rw[hl2];exact(aD.1 g).1
 have m:ds[i]?=some ds[i]:=aR r;refine Dc (zW i y u _ g B m) A (by simpa [E.lt]using z) ?_ f own (k.imp id fun h=>h y (bT g));simp only[den,U.den,hd,D.V,aq];exact gf m
def xl(C:Cx)(w:Tan)(base:Nat)(G:Gh)(p:Nat)(idx:Tai)(x:Tag×Tap (E×Tbb×Ty)):Prop:=
 x.1.1=p/\x.1.2∈idx/\∃e T t,x.2=some (e,T,t)/\iY C w base G x.1 e T t
def ss{base:Nat}{τ:Tak}{c:bC}{v:Tao}{d:D}{e:E}{idx:Tai}(h:jE w base G.S τ c v d)(m:C.M p)(k:e.lt C.N=true)(l:den C.ρ e=d)(i:∀j,G.τ (p,j)=τ j)(b:∀j T,c.2=some (j,T)->j∈idx):∀x∈kb p e c,xl C w base G p idx x:=by
 obtain⟨t,_|⟨j,T⟩⟩:=c
 .intro x f;simp[kb]at f
 intro x f;simp only[kb,aG]at f;subst f;obtain⟨rfl,q⟩:=h;exact⟨rfl,b j T rfl,e,T,t,rfl,uq.ok (g:=(p,j)) q m k l rfl (i j)⟩
def pD(p:Nat)(e:E):∀(l:List bC) (j:Nat) (x),x∈lP p e j l->∃(i:Nat) (c:bC),l[i]?=some c/\x∈kb p (.un (.cell (j+i)) e) c
 |[],j,x,h=>by simp[lP]at h
 |c::l,j,x,h=>by
  simp only[lP,aQ]at h;rcases h with h|h
  .exact⟨0,c,rfl,h⟩
  obtain⟨i,f,d,b⟩:=pD p e l (j+1) x h;exact⟨i+1,f,by simpa using d,by rw[show j+(i+1)=j+1+i by omega];exact b⟩
def ud(p:Nat)(e:E):∀(l:List (Bool×List bC)) (j:Nat) (x),x∈nj p e j l->∃(i:Nat) (c:Bool×List bC),l[i]?=some c/\x∈rX p (.un (.cell (j+i)) e) c
 |[],j,x,h=>by simp[nj]at h
 |c::l,j,x,h=>by
  simp only[nj,aQ]at h;rcases h with h|h
  .exact⟨0,c,rfl,h⟩
  obtain⟨i,f,d,b⟩:=ud p e l (j+1) x h;exact⟨i+1,f,by simpa using d,by rw[show j+(i+1)=j+1+i by omega];exact b⟩
def yD{base:Nat}{τ:Tak}{c:Bool×List bC}{v:Tao}{d:D}{e:E}{idx:Tai}(h:fY w base G.S τ c v d)(B:C.M p)(z:e.lt C.N=true)(A:den C.ρ e=d)(l:∀j,G.τ (p,j)=τ j)(f:∀y∈c.2,∀j T,y.2=some (j,T)->j∈idx):∀x∈rX p e c,xl C w base G p idx x:=by
 intro x b;unfold fY at h;unfold rX at b;cases hc:c.1 with
 |true=>
  simp only[hc,if_true]at h b;obtain⟨u,F,rfl,rfl,I,H,g⟩:=h;obtain⟨i,y,k,b⟩:=pD p e _ _ _ b;have J:i<c.2.length:=(aD.1 k).1;have m:F[i]?=some (F[i]'(by omega)):=aR _;have r:u[i]?=some (u[i]'(by omega)):=aR _;refine ss (g i y _ _ k r m) B (by simpa [E.lt]using z) ?_ l (fun j T t=>f y (bT k) j T t) x b;simp only[den,U.den,A,D.V,aq];exact gf m
 |false=>
  simp only[hc,ai,if_false]at h b;obtain⟨y,k,q⟩:=h;rw[k]at b;simp only[List.flatMap_cons,List.flatMap_nil,aX]at b;exact ss q B z A l (fun j T t=>f y (by rw[k];simp) j T t) x b
def yl{base:Nat}{τ:Tak}{res:List (Bool×List bC)}{v:Tao}{e:E}(h:gZ w base G.S τ res v (den C.ρ e))(q:C.M p)(m:e.lt C.N=true)(d:∀j,G.τ (p,j)=τ j):
  ∀x∈nK p e res,xl C w base G p (cJ res) x:=by
 have b:∀c∈res,∀y∈c.2,∀j T,y.2=some (j,T)->j∈cJ res:=by intro c z y f j T t;unfold cJ;rw[cU];exact⟨c,z,bE.2 ⟨y,f,by rw[t];rfl⟩⟩
 rcases h with⟨c,rfl,h⟩|⟨uf,vs,ds,rfl,hd,hl1,hl2,zW⟩
 .exact yD h q m rfl d (b c (by simp))
 have r:nK p e res=nj p e 0 res:=by
  match res,uf with
  |[],_=>rfl
  | [c],uf=>exact absurd rfl uf
  |_::_::_,_=>rfl
 rw[r];intro x k;obtain⟨i,y,f,k⟩:=ud p _ _ _ _ k;have u:i<res.length:=(aD.1 f).1;have g:ds[i]?=some (ds[i]'(by omega)):=aR _;have l:vs[i]?=some (vs[i]'(by omega)):=aR _;refine yD (zW i y _ _ f l g) q (by simpa [E.lt]using m) ?_ d (b y (bT f)) x k;simp only[den,U.den,hd,D.V,aq];exact gf g
def AG{base:Nat}{τ:Tak}{b:List (Bool×List bC)}{v:Tao}(h:gZ w base G.S τ b v (C.ρ p))(g:C.M p)(f:p<C.N)(c:∀j,G.τ (p,j)=τ j)(own:Bool)(d:own=true\/Ks b=true:=by exact .inl rfl):
  wP C w G (nu own p b) v:=CL (e:=.var p) h g (by simpa [E.lt]using f) c own d
def uJ{base:Nat}{τ:Tak}{b:List (Bool×List bC)}{v:Tao}(h:gZ w base G.S τ b v (C.ρ p))(f:C.M p)(d:p<C.N)(c:∀j,G.τ (p,j)=τ j):
  ∀x∈gC p b,xl C w base G p (cJ b) x:=yl (e:=.var p) h f (by simpa [E.lt]using d) c
end
def qI:∀{l:List (Tap Tag)},kD l=true->∀(i j:Nat) g,l[i]?=some (some g)->l[j]?=some (some g)->i=j
 |[],_,i,j,g,h,_=>by simp at h
 |x::r,hn,i,j,g,hi,hj=>by
  have c:kD r=true:=by cases x<;>simp[kD]at hn<;>first|exact hn|exact hn.2
  have b:x=some g->some g∉r:=by rintro rfl;simp only[kD,aP,cI]at hn;simpa using hn.1
  cases i with
  |zero=>
   cases j with
   |zero=>rfl
   |succ j=>
    simp at hi hj;exact absurd (bT hj) (b hi)
  |succ i=>
   cases j with
   |zero=>
    simp at hi hj;exact absurd (bT hi) (b hj)
   |succ j=>rw[qI c i j g (by simpa using hi) (by simpa using hj)]
section
variable{P:Tba}{C:Cx}{w w0:Tan}{S0:gw}{G:Gh}{σ:St}{a:Act}{n:Nat}
def pG(G:Gh)(l:kM):Tak:=fun j=>match lk l j with
 |some (some g)=>G.τ g
 |_=>.slice none 0 0
def lM{c β:Type}[DecidableEq c] :∀{l:List (c×β)} {k:c} {v:β},(l.map (·.1)).Nodup->(k,v)∈l->lk l k=some v
 |[],_,_,_,h=>by simp at h
 |(a,b)::l,k,v,hn,h=>by
  simp only[ct,List.nodup_cons]at hn;simp only[lk];rcases aH.1 h with h|h
  .simp only[ae]at h;obtain⟨rfl,rfl⟩:=h;simp
  have:k≠a:=fun e=>hn.1 (bf.2 ⟨(k,v),h,e⟩);rw[if_neg this];exact lM hn.2 h
def Ik{r:bC}{c:SC}{e:E}{l L:kM}{v:Tao}(H:eU w0 S0 C G σ w)(h:ju σ r c=some (e,l))(q:qO C w G c v)(F:∀x∈l,x∈L)(B:(L.map (·.1)).Nodup):
  jE w 0 G.S (pG G L) r v (den C.ρ e):=by
 obtain⟨t,_|⟨j,T⟩⟩:=r
 .simp only[ju]at h;split at h
  .rename_i O A I;split at h
   .rename_i m;obtain⟨rfl,rfl⟩:=iE h;subst m;exact(kE I q).2
   cases h
  split at h
  .split at h
   .rename_i m;obtain⟨rfl,rfl⟩:=iE h;subst m;obtain⟨_,rfl⟩:=q;exact⟨.ptr _ [] [] rfl (fun i u=>by simp at u) (fun i v u=>by simp at u) (fun i v d u=>by simp at u),⟨[],rfl,rfl⟩⟩
   cases h
  cases h
 simp only[ju]at h;split at h
 .rename_i A;split at h
  .rename_i y;obtain⟨rfl,k⟩:=y;obtain⟨rfl,rfl⟩:=iE h;have f:pG G L j=.slice none 0 0:=by unfold pG;rw[lM B (F (j,none) (by simp))]
   refine⟨by rw[f];exact q,⟨bO.2 ⟨[],rfl,gy _,by simp⟩,k,[],[],rfl,?_,?_,by simp⟩⟩
   .rw[f];exact fB w _ _ _
   rw[f];intro b J;cases J
  cases h
 .rename_i g N A;split at h
  .rename_i K M z D;split at h
   .rename_i y;obtain⟨rfl,rfl,rfl,k,p,o⟩:=y;obtain⟨rfl,rfl⟩:=iE h;have f:pG G L j=G.τ g:=by unfold pG;rw[lM B (F (j,some g) (by simp))]
    have s:=H.own _ _ _ _ D;refine⟨by rw[f];exact q.2.2.2.2,⟨s.has,k,?_⟩⟩;rw[f];have e:BN j=g.ex:=by rw[o,p]
    rw[e];exact s.own
   cases h
  cases h
 .rename_i g A;split at h
  .rename_i K M z D;split at h
   .rename_i y;obtain⟨rfl,rfl,rfl,k,p,o⟩:=y;obtain⟨rfl,rfl⟩:=iE h;have f:pG G L j=G.τ g:=by unfold pG;rw[lM B (F (j,some g) (by simp))]
    have s:=H.own _ _ _ _ D;refine⟨by rw[f];exact q.2.1,⟨s.has,k,?_⟩⟩;rw[f];have e:BN j=g.ex:=by rw[o,p]
    rw[e];exact s.own
   cases h
  cases h
 cases h
def jH{L:kM}(o:eU w0 S0 C G σ w)(m:(L.map (·.1)).Nodup):∀{d:List bC} {cs:List SC} {es:List E} {l:kM} {vs:Tad},gg σ d cs=some (es,l)->jK C w G cs vs->(∀x∈l,x∈L)->
  es.length=d.length/\vs.length=d.length/\∀(i:Nat) r v e,d[i]?=some r->vs[i]?=some v->es[i]?=some e->jE w 0 G.S (pG G L) r v (den C.ρ e)
 |[],[],es,l,vs,h,hr,_=>by simp only[gg,aa,ae]at h;obtain⟨rfl,rfl⟩:=h;exact⟨rfl,by have:=hr.1;simpa using this,by intro i r v e b;simp at b⟩
 |[],_::_,_,_,_,h,_,_=>by cases h
 |_::_,[],_,_,_,h,_,_=>by cases h
 |r::d,c::cs,es,l,vs,h,hr,hL=>by
  simp only[gg]at h;split at h
  .rename_i e F A D z y;obtain⟨rfl,rfl⟩:=iE h;cases vs with
   |nil=>have:=hr.1;simp at this
   |cons v vs=>
    have j:jK C w G cs vs:=⟨by have:=hr.1;simpa using this,fun i c v b f=>hr.2 (i+1) c v (by simpa using b) (by simpa using f)⟩;obtain⟨u,t,s⟩:=jH o m y j (fun x g=>hL x (by simp[g]));refine⟨by simp[u],by simp[t],fun i q p B b f k=>?_⟩;cases i with
    |zero=>
     simp at b f k;subst b;subst f;subst k;exact Ik o z (hr.2 0 c _ rfl rfl) (fun x g=>hL x (by simp[g])) m
    |succ i=>exact s i q p B (by simpa using b) (by simpa using f) (by simpa using k)
  cases h
def Gt{r:bC}{c:SC}{e:E}{l:kM}(h:ju σ r c=some (e,l)):(r.2.map (·.1)).toList=l.map (·.1):=by
 obtain⟨t,_|⟨j,T⟩⟩:=r
 .simp only[ju]at h;split at h
  .split at h
   .injection h with h;simp only[ae]at h;rw[<-h.2];rfl
   cases h
  split at h
  .split at h
   .injection h with h;simp only[ae]at h;rw[<-h.2];rfl
   cases h
  cases h
 simp only[ju]at h;split at h
 .split at h
  .injection h with h;simp only[ae]at h;rw[<-h.2];rfl
  cases h
 .split at h
  .split at h
   .injection h with h;simp only[ae]at h;rw[<-h.2];rfl
   cases h
  cases h
 .split at h
  .split at h
   .injection h with h;simp only[ae]at h;rw[<-h.2];rfl
   cases h
  cases h
 cases h
def mX:∀{b:List bC} {cs:List SC} {es:List E} {l:kM},gg σ b cs=some (es,l)->(b.filterMap fun x=>x.2.map (·.1))=l.map (·.1)
 |[],cs,es,l,h=>by
  cases cs<;>simp[gg]at h
  obtain⟨rfl,rfl⟩:=h;rfl
 |_::_,[],_,_,h=>by cases h
 |r::b,c::cs,es,l,h=>by
  simp only[gg]at h;split at h
  .rename_i e d;injection h with h;simp only[ae]at h;rw[<-h.2,bX,<-Gt e,<-mX d];cases hr:r.2 with
   |none=>simp[hr]
   |some x=>simp[hr]
  cases h
def Es{r:bC}{c:SC}{e:E}{l:kM}{j:Nat}{g:Tag}(h:ju σ r c=some (e,l))(b:(j,some g)∈l):∃z,σ.live g=some z:=by
 obtain⟨t,_|⟨f,T⟩⟩:=r
 .simp only[ju]at h;split at h
  .split at h
   .injection h with h;simp only[ae]at h;rw[<-h.2]at b;simp at b
   cases h
  split at h
  .split at h
   .injection h with h;simp only[ae]at h;rw[<-h.2]at b;simp at b
   cases h
  cases h
 simp only[ju]at h;split at h
 .split at h
  .injection h with h;simp only[ae]at h;rw[<-h.2]at b;simp at b
  cases h
 .split at h
  .rename_i d;split at h
   .injection h with h;simp only[ae]at h;rw[<-h.2]at b;simp at b;obtain⟨rfl,rfl⟩:=b;exact⟨_,d⟩
   cases h
  cases h
 .split at h
  .rename_i d;split at h
   .injection h with h;simp only[ae]at h;rw[<-h.2]at b;simp at b;obtain⟨rfl,rfl⟩:=b;exact⟨_,d⟩
   cases h
  cases h
 cases h
def me:∀{d:List bC} {cs:List SC} {es:List E} {l:kM} {j:Nat} {g:Tag},gg σ d cs=some (es,l)->(j,some g)∈l->∃z,σ.live g=some z
 |[],[],es,l,j,g,h,b=>by simp[gg]at h;obtain⟨rfl,rfl⟩:=h;simp at b
 |[],_::_,_,_,_,_,h,_=>by cases h
 |_::_,[],_,_,_,_,h,_=>by cases h
 |r::d,c::cs,es,l,j,g,h,b=>by
  simp only[gg]at h;split at h
  .rename_i f e;injection h with h;simp only[ae]at h;rw[<-h.2]at b;rcases aQ.1 b with b|b
   .exact Es f b
   exact me e b
  cases h
def xy{l:kM}(A:eU w0 S0 C G σ w)(h:po l=true)(d:∀j g,(j,some g)∈l->∃z,σ.live g=some z){j k b:Nat}(D:j∈l.map (·.1))(B:k∈l.map (·.1))(f:(pG G l j).ownBlock=some b)(e:(pG G l k).ownBlock=some b):j=k:=by
 unfold po at h;simp only[aP,bg]at h;obtain⟨s,i⟩:=h;obtain⟨x,r,rfl⟩:=bf.1 D;obtain⟨y,q,rfl⟩:=bf.1 B;have ex:lk l x.1=some x.2:=lM i r;have H:lk l y.1=some y.2:=lM i q;unfold pG at f e;rw[ex]at f;rw[H]at e;obtain⟨L,_|t⟩:=x
 .cases f
 obtain⟨K,_|F⟩:=y
 .cases e
 simp only at f e;obtain⟨J,p⟩:=d _ _ r;obtain⟨I,o⟩:=d _ _ q;have E:=A.jr t F _ _ b p o f e;subst E;obtain⟨v,m⟩:=au r;obtain⟨u,c⟩:=au q;have:=qI s v u t (by rw[ab,m];rfl) (by rw[ab,c];rfl);subst this;rw[m]at c;injection c with c;simp only[ae]at c;exact c.1
def vE{l:kM}(c:po l=true){j b:Nat}(f:j∈l.map (·.1))(d:(pG G l j).ownBlock=some b):∃g,(j,some g)∈l/\(G.τ g).ownBlock=some b:=by
 unfold po at c;simp only[aP,bg]at c;obtain⟨x,e,rfl⟩:=bf.1 f;have ex:lk l x.1=some x.2:=lM c.2 e;unfold pG at d;rw[ex]at d;obtain⟨i,_|h⟩:=x
 .cases d
 exact⟨h,e,d⟩
end
section
variable{P:Tba}{C:Cx}{w w0:Tan}{S0:gw}{G:Gh}{σ:St}{a:Act}{n p:Nat}
def eU.QR(h:eU w0 S0 C G σ w)(hp:¬C.M p){w':Tan}{S':bG}{τ':Tak}{βn:Nat}{ids:Tai}{kill:List Tag}{mu:Taj}(v:fZ mu w w')(a2:∀b,mu b->(∃id∈ids,b=G.β id)\/∃g∈kill,(G.τ g).ownBlock=some b)(f:∀id∈ids,∃Z,σ.hp id=some (false,Z))(J:∀g∈kill,∃x,σ.live g=some x)(hS:∀b o,G.S b o->S' b o)(b9:∀b o,S' b o->b<w'.heap.size)(U:∀b o,S' b o->G.S b o\/w.heap.size<=b\/mu b)(a3:∀b o,G.S b o->w'.cell? ⟨b,o,none⟩=w.cell? ⟨b,o,none⟩)(B:Nat->Tap (Bool×List SC))(live':Tag->Tap (E×Tbb×Ty))(G':Gh)(hG:G'={S:=S',β:=fy G.β p βn,τ:=fun g=>if g.1=p then τ' g.2 else G.τ g})(a4:∀id x,B id=some x->(id∉ids/\id≠p/\σ.hp id=some x)\/(x.1=false/\(id∈ids\/(id=p/\(w.heap.size<=βn\/∃d∈ids,βn=G.β d/\B d=none)))/\x.2.all SC.scalar=true/\
   jD S0.prog (C.add p) w' G' (G'.β id) x.2/\∀o,¬S' (G'.β id) o))(s:∀g x,live' g=some x->(g.1≠p/\g∉kill/\σ.live g=some x)\/(g.1=p/\iY (C.add p) w' 0 G' g x.1 x.2.1 x.2.2/\∀b,(τ' g.2).ownBlock=some b->w.heap.size<=b\/mu b))(a9:∀j k x y b,live' (p,j)=some x->live' (p,k)=some y->(τ' j).ownBlock=some b->(τ' k).ownBlock=some b->j=k)(b6:∀j id x y b,live' (p,j)=some x->B id=some y->(id∈ids\/id=p)->(τ' j).ownBlock=some b->b≠G'.β id)(b8:¬S0.fr)(b7:¬S0.wz):
  dO C w G (C.add p) w' G'/\eU w0 S0 (C.add p) G' {σ with hp:=B,live:=live'} w':=by
 subst hG;have W:∀id∈ids,C.M id:=fun id Y=>by obtain⟨Z,A⟩:=f id Y;exact h.mC _ _ A
 have O:∀id,C.M id->fy G.β p βn id=G.β id:=fun id Y=>fh _ _ (fun e=>hp (e▸Y));have b0:∀g:Tag,C.M g.1->(if g.1=p then τ' g.2 else G.τ g)=G.τ g:=fun g hg=>if_neg (fun e=>hp (by rw[<-e];exact hg))
 have V:∀b,mu b->jg w0 S0 b/\b<w.heap.size:=by
  intro b H;rcases a2 b H with⟨id,F,rfl⟩|⟨g,hg,c⟩
  .obtain⟨Z,A⟩:=f id F;exact⟨h.Wi (h.box _ _ _ A).1,h.kS A⟩
  obtain⟨x,z⟩:=J g hg;exact⟨h.fS g x b z c,((h.own g x.1 x.2.1 x.2.2 z).gu b c).2⟩
 have D:dO C w G (C.add p) w' {S:=S',β:=fy G.β p βn,τ:=fun g=>if g.1=p then τ' g.2 else G.τ g}:=
  ⟨fun _ h=>⟨rfl,h⟩,fun _ h=>.inl h,hS,a3,fun i Y=>O i Y,fun g hg=>b0 g hg⟩
 have K:∀id x,id∉ids->σ.hp id=some x->¬mu (G.β id):=by
  intro id x hn z H;rcases a2 _ H with⟨P6,h2,he⟩|⟨g,hg,c⟩
  .obtain⟨Z,A⟩:=f P6 h2;exact hn (h.inj id P6 _ _ z A he▸h2)
  obtain⟨y,X⟩:=J g hg;exact h.eO g id y x _ X z c rfl
 have q:∀g x b,g∉kill->σ.live g=some x->(G.τ g).ownBlock=some b->¬mu b:=by
  intro g x b hn z c H;rcases a2 _ H with⟨P6,h2,he⟩|⟨g2,YK,ag6⟩
  .obtain⟨Z,A⟩:=f P6 h2;exact h.eO g P6 x _ b z A c he
  obtain⟨y,X⟩:=J g2 YK;exact hn (h.jr g g2 x y b z X c ag6▸YK)
 have b4:=h.below.size
 have a0:∀i x,B i=some x->(C.M i/\(∃x',σ.hp i=some x')/\fy G.β p βn i=G.β i)\/(i=p/\(w.heap.size<=βn\/∃d∈ids,βn=G.β d/\B d=none)):=by
  intro i x Y;rcases a4 i x Y with⟨_,_,h2⟩|⟨_,h2|h2,_⟩
  .exact .inl ⟨h.mC _ _ h2,⟨_,h2⟩,O _ (h.mC _ _ h2)⟩
  .obtain⟨Z,A⟩:=f i h2;exact .inl ⟨W i h2,⟨_,A⟩,O _ (W i h2)⟩
  exact .inr h2
 refine⟨D,⟨?_,fun b o hs=>hS b o (h.jB b o hs),h.lS D,h.nb D,h.kN,b9,?_,?_,?_,?_,?_,?_,?_,?_,fun h=>absurd h b8,fun h=>absurd h b7⟩⟩
 .refine⟨v.os.trans h.below.os,v.tape.trans h.below.tape,v.output.trans h.below.output,aY b4 v.size,fun k hk hm=>(v.block k (by omega) (fun H=>?_)).trans (h.below.block k hk hm)⟩;rcases (V k H).1 with I|I
  .omega
  exact hm I
 .intro b o hs;rcases U b o hs with r|r|r
  .exact h.gL b o r
  .exact .inr (.inl (by omega))
  exact .inr (V b r).1
 .intro id x z;rcases a0 id x z with⟨r,_⟩|⟨rfl,_⟩
  .exact .inl r
  exact .inr rfl
 .intro id ro Z z;rcases a4 id _ z with⟨n1,n2,L2⟩|⟨hf,F,hsc,zX,hns⟩
  .obtain⟨b1,b2,b3,b5⟩:=h.box id ro Z L2;have H:=O id (h.mC _ _ L2);have a5:=K id _ n1 L2;have a6:=h.kS L2;refine⟨by show Hh w0 S0 (fy G.β p βn id);rw[H];exact b1,b2,by show jD S0.prog _ w' _ (fy G.β p βn id) Z;rw[H];exact b3.later D (v.block _ a6 a5),?_⟩;show if ro=true then∀o,o<Z.length->S' (fy G.β p βn id) o else∀o,¬S' (fy G.β p βn id) o
   rw[H];cases ro with
   |true=>simp only[if_true]at b5⊢;exact fun o ho=>hS _ _ (b5 o ho)
   |false=>
    simp only[ai,if_false]at b5⊢;intro o ho;rcases U _ _ ho with R|R|R
    .exact b5 o R
    .omega
    exact a5 R
  simp only at hf;subst hf;refine⟨?_,hsc,zX,by simp only[ai,if_false];exact hns⟩;show Hh w0 S0 (fy G.β p βn id);rcases F with F|⟨rfl,L⟩
  .rw[O id (W id F)];obtain⟨a1,m⟩:=f id F;exact(h.box _ _ _ m).1
  rw[dX];rcases L with L|⟨d,u,L,_⟩
  .exact .inl (by omega)
  rw[L];obtain⟨a1,m⟩:=f d u;exact(h.box _ _ _ m).1
 .intro i j x y Y hj he;have Q:fy G.β p βn i=fy G.β p βn j:=he;rcases a0 i x Y with⟨_,⟨x',L2⟩,e1⟩|⟨rfl,e1⟩<;>rcases a0 j y hj with⟨_,⟨y',Y0⟩,N⟩|⟨rfl,N⟩
  .rw[e1,N]at Q;exact h.inj i j _ _ L2 Y0 Q
  .rw[e1,dX]at Q;have:=h.kS L2;rcases N with N|⟨d,u,N,e3⟩
   .omega
   obtain⟨a1,m⟩:=f d u;have e4:=h.inj i d _ _ L2 m (Q.trans N);have a8:B i=some x:=Y;rw[e4,e3]at a8;cases a8
  .rw[N,dX]at Q;have:=h.kS Y0;rcases e1 with e1|⟨d,u,e1,e3⟩
   .omega
   obtain⟨a1,m⟩:=f d u;have e4:=h.inj j d _ _ Y0 m (Q.symm.trans e1);have a7:B j=some y:=hj;rw[e4,e3]at a7;cases a7
  rfl
 .intro g e T t z;rcases s g _ z with⟨r,h2,I⟩|⟨r,h2,_⟩
  .have ho:=h.own g e T t I;refine ho.later D (fun b H=>v.block b (ho.gu b H).2 (q g _ b h2 I H)) (fun b H o hs=>?_);rcases U b o hs with R|R|R
   .exact R
   .have:=(ho.gu b H).2;omega
   exact absurd R (q g _ b h2 I H)
  exact h2
 .intro g x b z c;rcases s g _ z with⟨r,h2,I⟩|⟨r,_,h2⟩
  .simp only[if_neg r]at c;exact h.fS g x b I c
  simp only[if_pos r]at c;rcases h2 b c with h4|h4
  .exact .inl (by omega)
  exact(V b h4).1
 .intro g g' x y b z X c l;rcases s g _ z with⟨r,h2,I⟩|⟨r,_,h2⟩<;>rcases s g' _ X with⟨h4,h5,R⟩|⟨h4,_,h5⟩
  .simp only[if_neg r]at c;simp only[if_neg h4]at l;exact h.jr g g' x y b I R c l
  .simp only[if_neg r]at c;simp only[if_pos h4]at l;rcases h5 b l with h7|h7
   .have:=((h.own g x.1 x.2.1 x.2.2 I).gu b c).2;omega
   exact absurd h7 (q g x b h2 I c)
  .simp only[if_pos r]at c;simp only[if_neg h4]at l;rcases h2 b c with h7|h7
   .have:=((h.own g' y.1 y.2.1 y.2.2 R).gu b l).2;omega
   exact absurd h7 (q g' y b h5 R l)
  obtain⟨g1,j⟩:=g;obtain⟨g2,k⟩:=g';simp only at r h4;subst r;subst h4;simp only[if_true]at c l;rw[a9 j k x y b z X c l]
 intro g id x y b z X c;show b≠fy G.β p βn id;rcases s g _ z with⟨r,h2,I⟩|⟨r,_,h2⟩
 .simp only[if_neg r]at c;rcases a0 id y X with⟨_,⟨y',Y0⟩,N⟩|⟨rfl,N⟩
  .rw[N];exact h.eO g id x y' b I Y0 c
  rw[dX];rcases N with N|⟨d,u,N,_⟩
  .have:=((h.own g x.1 x.2.1 x.2.2 I).gu b c).2;omega
  obtain⟨a1,m⟩:=f d u;rw[N];exact h.eO g d x _ b I m c
 obtain⟨g1,j⟩:=g;simp only at r;subst r;simp only[if_true]at c;rcases a4 id y X with⟨n1,n2,L2⟩|⟨_,F,_⟩
 .rw[O id (h.mC _ _ L2)];intro he;have:=h.kS L2;rcases h2 b c with h7|h7
  .omega
  rw[he]at h7;exact K id _ n1 L2 h7
 exact b6 j id x y b z X (F.imp (fun h=>h) And.left) c
end
def se:∀{a b:Tam} {x y:Tah},dr (.Y a) x->dr (.Y b) y->dr (.Y (a++b)) (x++y)
 |[],b,x,y,h,h'=>by rw[dk.1 h];exact h'
 |t::a,b,x,y,h,h'=>by obtain⟨d,r,rfl,e,c⟩:=aA.1 h;exact aA.2 ⟨d,r++y,rfl,e,se c h'⟩
section
variable{P:Tba}{C:Cx}{w w0:Tan}{S0:gw}{G:Gh}{σ:St}{a:Act}{o:Tbd}{pc:dJ}{Φ:Tab}{Pre:Taa}{n p:Nat}{cs:mJ}
def vU(g:iD C w G σ.tm a){pc:dJ}(c:aV C.ρ pc=true){β:Nat->Nat}:∀{f:List Bool} {l:List Tbc} {ts:List Tbb} {es:List (E×Ty)} {ids:Tai} {k:Nat},kO P σ pc f l ts=some (es,ids)->(∀(i:Nat) id,ids[i]?=some id->β (k+i)=G.β id)->
  rC w G.S β f k (l.map a.eval) (es.map fun x=>den C.ρ x.1)/\dr (.Y (es.map (·.2))) (es.map fun x=>den C.ρ x.1)
 |[],[],[],es,ids,k,h,_=>by simp only[kO,aa,ae]at h;obtain⟨rfl,rfl⟩:=h;exact⟨trivial,dk.2 rfl⟩
 |false::f,x::l,t::ts,es,ids,k,h,hβ=>by
  simp only[kO]at h;split at h
  .rename_i e u d s r;obtain⟨rfl,rfl⟩:=iE h;obtain⟨m,j⟩:=vU g c r hβ;obtain⟨F,D⟩:=e;obtain⟨_,y,v⟩:=dR g c s;exact⟨⟨y,m⟩,aA.2 ⟨_,_,rfl,v,j⟩⟩
  cases h
 |true::f,x::l,t::ts,es,ids,k,h,hβ=>by
  simp only[kO]at h;split at h
  .rename_i id u d s r;obtain⟨rfl,rfl⟩:=iE h;obtain⟨m,j⟩:=vU (k:=k+1) g c r (fun i q A=>by rw[show k+1+i=k+(i+1) by omega];exact hβ (i+1) q (by simpa using A));have z:=(cS g c s).2;have B:β k=G.β id:=by simpa using hβ 0 id rfl
   exact⟨⟨by rw[z,B],m⟩,j⟩
  cases h
 |[],[],_::_,_,_,_,h,_=>by simp[kO]at h
 |[],_::_,ts,_,_,_,h,_=>by cases ts<;>simp[kO]at h
 |b::_,[],ts,_,_,_,h,_=>by cases b<;>cases ts<;>simp[kO]at h
 |b::_,_::_,[],_,_,_,h,_=>by cases b<;>simp[kO]at h
def AP:∀{rcs:List (List bC)} {ids:Tai} {b:List (List E)} {l:kM},tT σ rcs ids=some (b,l)->
  b.length=rcs.length/\ids.length=rcs.length/\rcs.flatMap Fg=l.map (·.1)/\(∀id∈ids,∃cs,σ.hp id=some (false,cs))/\(∀j g,(j,some g)∈l->∃z,σ.live g=some z)/\
  ∀(i:Nat) f id m,rcs[i]?=some f->ids[i]?=some id->b[i]?=some m->∃cs k,σ.hp id=some (false,cs)/\gg σ f cs=some (m,k)/\∀x∈k,x∈l
 |[],[],b,l,h=>by simp only[tT,aa,ae]at h;obtain⟨rfl,rfl⟩:=h;exact⟨rfl,rfl,rfl,by simp,by simp,by intro i f id m e;simp at e⟩
 |f::r,id::ids,b,l,h=>by
  simp only[tT]at h;split at h
  .rename_i cs d;split at h
   .rename_i m Q D S y R;obtain⟨rfl,rfl⟩:=iE h;obtain⟨O,N,M,L,K,J⟩:=AP R;refine⟨by simp[O],by simp[N],?_,?_,?_,?_⟩
    .rw[List.flatMap_cons,M,bX,<-mX y];rfl
    .simp only[aH,forall_eq_or_imp];exact⟨⟨cs,d⟩,L⟩
    .intro j g c;rcases aQ.1 c with c|c
     .exact me y c
     exact K j g c
    intro i q s A e v u;cases i with
    |zero=>simp at e v u;subst e;subst v;subst u;exact⟨cs,Q,d,y,fun x t=>az _ t⟩
    |succ i=>
     obtain⟨B,k,I,H,F⟩:=J i q s A (by simpa using e) (by simpa using v) (by simpa using u);exact⟨B,k,I,H,fun x t=>bA _ (F x t)⟩
   cases h
  cases h
 |[],_::_,_,_,h=>by cases h
 |_::_,[],_,_,h=>by cases h
def CW{ob:Ob}{ids:Tai}{i id:Nat}(h:ids[i]?=some id):(nw σ ob ids)[i]?=some id:=by
 have b:i<ids.length:=(aD.1 h).1;unfold nw;split
 .split
  .split
   .rw[ak b];exact h
   exact h
  exact h
 exact h
def Eb{lk:Tal}:∀{k:Nat} {ids:Tai} {rcs:List (List bC)} {id:Nat} {v:Tap (Bool×List SC)},(id,v)∈Qf lk p k ids rcs->∃(i:Nat) (b:List bC),ids[i]?=some id/\rcs[i]?=some b/\v=some (false,um lk b (kY true p (.un (.cell (k+i)) (.var p)) 0 b))
 |k,[],rcs,id,v,h=>by cases rcs<;>simp[Qf]at h
 |k,_::_,[],id,v,h=>by simp[Qf]at h
 |k,x::ids,b::rcs,id,v,h=>by
  simp only[Qf,aH,ae]at h;rcases h with⟨rfl,rfl⟩|h
  .exact⟨0,b,rfl,rfl,rfl⟩
  obtain⟨i,c,f,e,d⟩:=Eb h;exact⟨i+1,c,by simpa using f,by simpa using e,by rw[d,show k+1+i=k+(i+1) by omega]⟩
def FJ{lkk:Tal}{id:Nat}:∀{k:Nat} {ids:Tai} {rcs:List (List bC)},lk (Qf lkk p k ids rcs) id=none->ids.length<=rcs.length->id∉ids
 |k,[],rcs,_,_=>by simp
 |k,_::_,[],_,hl=>by simp at hl
 |k,x::ids,rc::rcs,h,hl=>by
  simp only[Qf,lk]at h;split at h
  .cases h
  rename_i b;simp only[aH,not_or];exact⟨b,FJ h (by simpa using hl)⟩
def CT:∀{k:Nat} {rcs:List (List bC)} {x:Tag×Tap (E×Tbb×Ty)},x∈xY p k rcs->∃(i:Nat) (b:List bC),rcs[i]?=some b/\x∈lP p (.un (.cell (k+i)) (.var p)) 0 b
 |k,[],x,h=>by simp[xY]at h
 |k,b::rcs,x,h=>by
  simp only[xY,aQ]at h;rcases h with h|h
  .exact⟨0,b,rfl,h⟩
  obtain⟨i,c,e,d⟩:=CT h;exact⟨i+1,c,by simpa using e,by rw[show k+(i+1)=k+1+i by omega];exact d⟩
def oY{c β:Type}[DecidableEq c] :∀{l:List (c×β)} {k:c},lk l k=none->∀v,(k,v)∉l
 |[],k,_,v=>by simp
 |(a,b)::l,k,h,v=>by
  simp only[lk]at h;split at h
  .cases h
  rename_i d;simp only[aH,ae,not_or,not_and];exact⟨fun e=>absurd e d,oY h v⟩
def FI{w:Tan}{S:bG}{τ:Tak}:∀{rcs:List (List bC)} {b:List (Tah)} {β:Nat->Nat} {k:Nat},b.length=rcs.length->(∀(i:Nat) rc cells,rcs[i]?=some rc->b[i]?=some cells->Cy w S τ rc (β (k+i)) cells)->
  dr (.Y (rcs.flatten.map E3)) b.flatten
 |[],[],β,k,_,_=>dk.2 rfl
 |[],_::_,_,_,h,_=>by simp at h
 |_::_,[],_,_,h,_=>by simp at h
 |rc::rcs,cells::b,β,k,hl,h=>by
  obtain⟨d,T,_,A,v,s,_⟩:=h 0 rc cells rfl rfl;rw[eG,eG,bX];refine se (jd (by simp[v]) fun j u x f g=>?_) (FI (k:=k+1) (β:=β) (by simpa using hl) (fun i c y m q=>by rw[show k+1+i=k+(i+1) by omega];exact h (i+1) c y (by simpa using m) (by simpa using q)));simp only[ab,cQ]at f;obtain⟨r,e,rfl⟩:=f;have l:j<rc.length:=(aD.1 e).1;have:=s j r _ x e (aR (by omega)) g;obtain⟨t,_|⟨z,B⟩⟩:=r
  .exact this.2
  exact this.2.has
def px{ops:Tae}{x:oD}(hs:gG n w0 S0 C G σ a w)(hp:¬C.M p)(n6:p<C.N)(hg:guardOf ops σ o=some pc)(l3:aV C.ρ pc=true)(h:iG P cs σ pc o=some x)(m8:∀k I,lk cs.l k=some I->bn P k I (Pre k) (Φ k))(o6:eR C Φ Pre (.call p x.k x.args []))(o2:(x.Dq p o.dst).tN.2.lt C.N=true)(m5:∀d,o.dst=some d->d<n)(o1:¬S0.fr)(n9:¬S0.wz):
  fM P n w0 S0 C ((x.Dq p o.dst).app σ) p ops a w o:=by
 intro K Q hK;obtain⟨hw,hc⟩:=gj hs.t hg;rw[hw,if_pos l3];unfold iG at h;split at h
 .rename_i f b7 j9 ho;split at h
  .rename_i fe k' hf;split at h
   .rename_i I k7;split at h
    .rename_i q n8;split at h
     .rename_i es aaT p1;split at h
      .rename_i f5 l d9;split at h
       .rename_i i1;obtain⟨ids,g8⟩:∃ids,ids=nw σ q aaT:=⟨_,rfl⟩;rw[<-g8]at i1 d9 h;obtain⟨n4,g9,a5,q8,n2,a6,n5,m1,g6,e4⟩:=i1;injection h with h;subst h;have i2:∀(i:Nat) id,aaT[i]?=some id->ids[i]?=some id:=fun i id A=>by rw[g8];exact CW A
        obtain⟨f1,f2,f3⟩:=cS hs.t (pc:=[]) rfl hf;obtain⟨fl,o9,p0⟩:=lI.1 f3;have m3:fl=[]:=dk.1 p0;subst m3;obtain⟨q7,o8,j5,_⟩:=(o9▸f2).xf;have m7:q7=[]:=an j5;subst m7;have a2:=m8 _ _ k7;obtain⟨q1,q2,q3,q4,q5,q6⟩:=AP d9;let Z:Nat->Nat:=fun i=>G.β (ids.getD i 0);have F:∀(i:Nat) id,ids[i]?=some id->Z i=G.β id:=fun i id A=>by show G.β (ids.getD i 0)=_;rw[ag,A];rfl
        obtain⟨j8,i9⟩:=vU (k:=0) (β:=Z) hs.t l3 p1 (fun i id A=>by rw[aq];exact F i id (i2 i id A));have h0:∀id∈ids,C.M id:=fun id A=>by obtain⟨cs,p2⟩:=q4 id A;exact hs.m.mC _ _ p2
        have d6:p∉ids:=fun A=>hp (h0 p A)
        have l5:(l.map (·.1)).Nodup:=by unfold po at a5;simp only[aP,bg]at a5;exact a5.2
        let f6:=pG G l;let dd:=es.map fun x=>den C.ρ x.1;let oo:=f5.map fun es=>es.map (den C.ρ)
        have m6:(den C.ρ (.Y (es.map (·.1)++f5.flatten))).V=dd++oo.flatten:=by rw[fR];simp only[D.V,bX,List.map_map,dd,oo,List.map_flatten];rfl
        have a9:∀(i:Nat) V cells,q.cC[i]?=some V->oo[i]?=some cells->Cy w G.S f6 V (Z i) cells:=by
         intro i V cells A c7;simp only[oo,ab,cQ]at c7;obtain⟨q0,m4,rfl⟩:=c7;have a7:i<ids.length:=by rw[q2];exact(aD.1 A).1
         have a4:ids[i]?=some ids[i]:=aR a7;obtain⟨n1,lo,r1,r2,r3⟩:=q6 i V _ q0 A a4 m4;obtain⟨b1,b2,f4,b5⟩:=hs.m.box _ _ _ r1;obtain⟨vs,T,b3,b4⟩:=f4.cells (kq r2);obtain⟨k1,k2,k3⟩:=jH (L:=l) hs.m l5 r2 b4 r3;rw[F i _ a4];refine⟨vs,T,b3,k2,by simp[k1],fun j r v d hr hv hd=>?_,by simpa using b5⟩;simp only[ab,cQ]at hd;obtain⟨e,he,rfl⟩:=hd;exact k3 j r v e hr hv he
        have o7:Cz w G.S q Z f6 (b7.toList.map a.eval) dd oo:=by
         refine⟨hs.m.dP,j8,by simp[oo,q1],a9,?_,?_,?_,?_⟩
         .intro i j A Y he;have W:ids[i]?=some (ids[i]'(by omega)):=aR _;have h2:ids[j]?=some (ids[j]'(by omega)):=aR _;rw[F i _ W,F j _ h2]at he;obtain⟨c1,j6⟩:=q4 _ (aF (l:=ids) (n:=i) (by omega));obtain⟨c2,p4⟩:=q4 _ (aF (l:=ids) (n:=j) (by omega));have:=hs.m.inj _ _ _ _ j6 p4 he;exact(List.getElem_inj g9).1 this
         .intro j k b Y hk p6 p5;unfold Ob.jz at Y hk;rw[q3]at Y hk;exact xy hs.m a5 q5 Y hk p6 p5
         .intro j i b Y A hb he;unfold Ob.jz at Y;rw[q3]at Y;obtain⟨g,j2,j3⟩:=vE a5 Y hb;obtain⟨z,hz⟩:=q5 _ _ j2;have W:ids[i]?=some (ids[i]'(by omega)):=aR _;obtain⟨c1,j6⟩:=q4 _ (aF (l:=ids) (n:=i) (by omega));rw[F i _ W]at he;exact hs.m.eO g _ z _ b hz j6 j3 he
         intro c5 o c V ho hc;have f9:o<q.cC.length:=(aD.1 ho).1;have W:ids[o]?=some (ids[o]'(by omega)):=aR _;have h2:ids[q.cC.length-1]?=some (ids[q.cC.length-1]'(by omega)):=aR _;obtain⟨n1,r1⟩:=q4 _ (aF (l:=ids) (n:=o) (by omega));have o3:Co q ids=some (ids[q.cC.length-1]'(by omega)):=by unfold Co;rw[if_pos c5,h2]
         rw[o3]at g6;have j7:=AR g6 ho W r1;obtain⟨b1,b2,f4,b5⟩:=hs.m.box _ _ _ r1;obtain⟨r0,lo,d3,r2,_⟩:=q6 o V _ _ ho W (aR (by rw[q1];exact f9));rw[r1]at d3;injection d3 with d3;simp only[ae,true_and]at d3;subst d3;obtain⟨vs,T,b3,b4⟩:=f4.cells (kq r2)
         obtain⟨k1,k2,_⟩:=jH (L:=l) hs.m l5 r2 b4 (fun x hx=>by obtain⟨q9,r4,y1,y2,y3⟩:=q6 o V _ _ ho W (aR (by rw[q1];exact f9));rw[r1]at y1;injection y1 with y1;simp only[ae,true_and]at y1;subst y1;rw[r2]at y2;injection y2 with y2;simp only[ae,true_and]at y2;subst y2;exact y3 x hx)
         have b9:c<V.length:=(aD.1 hc).1;have j4:c<vs.length:=by rw[k2];exact b9
         have m9:c<n1.length:=by rw[<-b4.1];exact j4
         have k8:=xB j7 hc (aR m9);have l0:=b4.2 c _ _ (aR m9) (aR j4);rw[k8]at l0;obtain⟨_,n3⟩:=l0;rw[F o _ W,F _ _ h2,cell_of_row w _ c _ T (0,0) b3];rw[da,aR j4,n3]
        have m2:dr (.Y I.params) (dd++oo.flatten):=by rw[<-n4];exact se i9 (FI (k:=0) (β:=Z) (by simp[oo,q1]) (fun i V cells A b9=>by rw[aq];exact a9 i V cells A b9))
        obtain⟨_,_,k5,l2⟩:=o6;have d5:=l2 rfl;rw[m6]at k5 d5
        have k9:(execOp a.eval o).run P w=.ok (.enter k' (b7.toList.map a.eval).toArray) w:=by
         have e1:(b7.toList.map a.eval).toArray=b7.map a.eval:=by apply dC;simp
         unfold execOp;simp only[ho,resolve,o8,Deferred.ofValue,e1];have:=a2.enter (b7.map a.eval) w;simpa [invoke]using this
        unfold Oper.wp;rw[k9]
        have l4:q.wU=false:=by rw[dM];intro i3;unfold Ob.wU at i3;simp only[aP,List.isEmpty_iff,beq_iff_eq]at i3;obtain⟨⟨_,W⟩,h2⟩:=i3;have h3:=a6;rw[h2,m1,W]at h3;cases R:q.new<;>rw[R]at h3<;>simp at h3
        refine(a2.Ad q n8 l4 w G.S Z f6 _ dd oo o7 m2 d5).mono ?_;rintro e' w' ⟨v,S',τ',βn,rfl,uk⟩;simp only;rw[<-k5]at uk;obtain⟨d0,a8,hd,f9,H,g0⟩:=uk.res;let a3:Nat:=if q.new=true\/q.mv=true then βn else G.β p
        let G':Gh:={S:=S',β:=fy G.β p a3,τ:=fun g=>if g.1=p then τ' g.2 else G.τ g};have f7:∀j,G'.τ (p,j)=τ' j:=fun j=>if_pos rfl;have hM:(C.add p).M p:=.inr rfl;have k6:(E.var p).lt C.N=true:=by simpa [E.lt]using n6
        have g5:∀j,(E.un (.cell j) (.var p)).lt (C.add p).N=true:=fun j=>k6;have e6:∀i j,(E.un (.cell j) (.un (.cell i) (.var p))).lt (C.add p).N=true:=fun i j=>k6;have d1:den C.ρ (.un (.cell 0) (.var p))=d0:=by simp only[den,U.den,hd,D.V];rfl
        have c9:∀(i:Nat) cells,a8[i]?=some cells->den C.ρ (.un (.cell (1+i)) (.var p))=.agg cells:=by intro i cells A;simp only[den,U.den,hd,D.V];exact gf (by rw[Nat.add_comm];simp[A])
        have c4:∀id∈ids,G'.β id=G.β id:=fun id A=>fh _ _ (fun e=>d6 (e▸A));have e8:q.new=true->a3=βn:=fun R=>if_pos (.inl R);have e7:q.mv=true->a3=βn:=fun R=>if_pos (.inr R)
        have X:q.mv=true->(ids[q.cC.length-1]?=some (ids.getD (q.cC.length-1) 0)/\ids.getD (q.cC.length-1) 0∈ids):=by
         intro hm;have h3:=e4 hm;have h4:ids[q.cC.length-1]?=some (ids[q.cC.length-1]'(by omega)):=aR _;have h5:ids.getD (q.cC.length-1) 0=ids[q.cC.length-1]'(by omega):=by rw[ag,h4];rfl
         rw[h5];exact⟨h4,aF _⟩
        have j1:q.mv=true->fj σ.hp (oD.Dq ⟨k',.Y (es.map (·.1)++f5.flatten),I,q,ids,l⟩ p o.dst).hp (ids.getD (q.cC.length-1) 0)=none:=by
         intro hm
         have o0:ids.getD (q.cC.length-1) 0∉kR q ids p:=by
          unfold kR;rw[if_pos hm];intro hh;rcases aQ.1 hh with hh|hh
          .obtain⟨i,A⟩:=au hh;rw[aC]at A;split at A
           .rename_i a7;have h6:=(X hm).1;have h7:=(aD.1 A);obtain⟨h8,h9⟩:=h7;obtain⟨p9,p8⟩:=aD.1 h6;have:=(List.getElem_inj g9 (h₀:=h8) (h₁:=p9)).1 (h9.trans p8.symm);omega
           cases A
          simp only[aG]at hh;exact d6 (hh▸(X hm).2)
         unfold fj oD.Dq;simp only[hm,if_true];split
         .rename_i y O;rcases aQ.1 (iw O) with h7|h7
          .obtain⟨i,V,h8,_⟩:=Eb h7;exact absurd (bT h8) o0
          simp only[aG,ae]at h7;exact h7.2
         rename_i O;exact absurd (bA _ (aG.2 rfl)) (oY O none)
        have d4:∀(i:Nat) id V,(kR q ids p)[i]?=some id->q.outs[i]?=some V->∃cells,a8[i]?=some cells/\Cy w' S' τ' V (G'.β id) cells/\(id∈ids\/(id=p/\(w.heap.size<=a3\/∃k0∈ids,a3=G.β k0/\fj σ.hp (oD.Dq ⟨k',.Y (es.map (·.1)++f5.flatten),I,q,ids,l⟩ p o.dst).hp k0=none)))/\jU q Z βn i=G'.β id:=by
         intro i id V A d2;have n7:i<a8.length:=by rw[f9];exact(aD.1 d2).1
         have d8:a8[i]?=some a8[i]:=aR n7;have g1:=g0 i V _ d2 d8;cases s:q.mv with
         |true=>
          have e3:=Ob.DS s;unfold kR at A;rw[s,if_pos rfl]at A;have r5:(ids.take (q.cC.length-1)).length=q.cC.length-1:=by rw[aO];omega
          by_cases b0:i<q.cC.length-1
          .rw[ak (by omega),aC,if_pos b0]at A;have b6:id∈ids:=bT A;have e1:jU q Z βn i=G'.β id:=by unfold jU;rw[if_pos ⟨by omega,fun h=>by omega⟩,F i id A,c4 id b6]
           exact⟨_,d8,e1▸g1,.inl b6,e1⟩
          rw[ay (by omega)]at A
          have i8:i-(ids.take (q.cC.length-1)).length=0:=by have:=(aD.1 A).1;simp at this;omega
          rw[i8]at A;simp only[db,aa]at A;subst A;have a7:i=q.cC.length-1:=by have:=e4 s;omega
          have e1:jU q Z βn i=G'.β p:=by unfold jU;rw[if_neg (fun h=>h.2 ⟨s,a7⟩)];show βn=fy G.β p a3 p;rw[dX,e7 s]
          refine⟨_,d8,e1▸g1,.inr ⟨rfl,?_⟩,e1⟩;rw[e7 s];rcases uk.mvd s with h|h
          .exact .inr ⟨_,(X s).2,h.trans (F _ _ (X s).1),j1 s⟩
          exact .inl h
         |false=>
         unfold kR at A;simp only[s,ai,if_false]at A;by_cases b0:i<ids.length
         .rw[ak b0]at A;have b6:id∈ids:=bT A;have e1:jU q Z βn i=G'.β id:=by unfold jU;rw[if_pos ⟨by omega,fun h=>by rw[s]at h;cases h.1⟩,F i id A,c4 id b6]
          exact⟨_,d8,e1▸g1,.inl b6,e1⟩
         rw[ay (by omega)]at A;cases R:q.new with
         |false=>rw[R]at A;simp at A
         |true=>
          rw[R]at A H;simp only[if_true]at A H
          have i8:i-ids.length=0:=by have:=(aD.1 A).1;simp at this;omega
          rw[i8]at A;simp only[db,aa]at A;subst A
          have e1:jU q Z βn i=G'.β p:=by unfold jU;rw[if_neg (fun h=>by omega)];show βn=fy G.β p a3 p;rw[dX,e8 R]
          exact⟨_,d8,e1▸g1,.inr ⟨rfl,.inl (by rw[e8 R];exact H.2)⟩,e1⟩
        have d7:(kR q ids p).length=q.outs.length:=by
         unfold kR;cases s:q.mv with
         |true=>
          have e3:=Ob.DS s;have:=e4 s;rw[e3]at a6;simp only[if_true,ah,aO,ba,Bool.toNat_false]at a6⊢;omega
         |false=>
          simp only[ai,if_false,ah];rw[a6];cases q.new<;>simp
        have i6:∀y∈(if q.new then [] else nK p (.un (.cell 0) (.var p)) I.res)++xY p 1 q.outs,xl (C.add p) w' 0 G' p (kr I q) y:=by
         intro y O;rcases aQ.1 O with O|O
         .cases R:q.new with
          |true=>rw[R]at O;simp at O
          |false=>
           rw[R]at O H;simp only[ai,if_false]at O H
           have b8:gZ w' 0 G'.S τ' I.res v (den (C.add p).ρ (.un (.cell 0) (.var p))):=by show gZ w' 0 S' τ' I.res v (den C.ρ _);rw[d1];exact H
           obtain⟨z1,z2,z3⟩:=yl (C:=C.add p) (G:=G') b8 hM (g5 _) f7 y O;exact⟨z1,az _ z2,z3⟩
         obtain⟨i,V,d2,O⟩:=CT O;obtain⟨j,r,hr,O⟩:=pD _ _ _ _ _ O
         have a7:i<(kR q ids p).length:=by rw[d7];exact(aD.1 d2).1
         obtain⟨cells,b9,⟨g4,T,_,v2,v3,v4,_⟩,_,_⟩:=d4 i _ V (aR a7) d2;have o4:j<V.length:=(aD.1 hr).1;have f0:cells[j]?=some (cells[j]'(by omega)):=aR _;have:=v4 j r _ _ hr (aR (by omega)) f0;refine ss (C:=C.add p) (G:=G') (idx:=kr I q) this hM (e6 _ _) ?_ f7 (fun j0 T0 o5=>?_) y O
         .show den C.ρ (.un (.cell (0+j)) (.un (.cell (1+i)) (.var p)))=_;have e2:den C.ρ (.un (.cell (0+j)) (.un (.cell (1+i)) (.var p)))=(U.cell (0+j)).den (den C.ρ (.un (.cell (1+i)) (.var p))):=rfl;rw[e2,c9 i _ b9];simp only[U.den,D.V,aq];exact gf f0
         unfold kr;refine bA _ (cU.2 ⟨V,bT d2,?_⟩);unfold Fg;exact bE.2 ⟨r,bT hr,by rw[o5];rfl⟩
        let kill:List Tag:=l.filterMap (·.2)
        have g2:∀g:Tag,((g,none):Tag×Tap (E×Tbb×Ty))∈(l.filterMap fun y=>y.2.map fun g=>((g,none):Tag×Tap (E×Tbb×Ty)))↔g∈kill:=by
         intro g;simp only[bE,kill];constructor
         .rintro⟨y,O,J⟩;cases YI:y.2 with
          |none=>rw[YI]at J;cases J
          |some g'=>rw[YI]at J;simp at J;subst J;exact⟨y,O,YI⟩
         rintro⟨y,O,J⟩;exact⟨y,O,by rw[J];rfl⟩
        have g3:∀g z,(g,some z)∉(l.filterMap fun y=>y.2.map fun g=>((g,none):Tag×Tap (E×Tbb×Ty))):=by
         intro g z hm;simp only[bE]at hm;obtain⟨y,_,J⟩:=hm;cases YI:y.2 with
         |none=>rw[YI]at J;cases J
         |some g'=>rw[YI]at J;simp at J
        have i7:∀g∈kill,∃j,(j,some g)∈l:=by intro g hg;simp only[kill,bE]at hg;obtain⟨⟨j,y⟩,O,J⟩:=hg;simp only at J;subst J;exact⟨j,O⟩
        let Dq:iZ:=oD.Dq ⟨k',.Y (es.map (·.1)++f5.flatten),I,q,ids,l⟩ p o.dst
        have a0:∀g z,fj σ.live Dq.live g=some z->(g.1≠p/\g∉kill/\σ.live g=some z)\/xl (C.add p) w' 0 G' p (kr I q) (g,some z):=by
         intro g z hz;unfold fj at hz;split at hz
         .rename_i y O;subst hz;have l6:=iw O;have e5:(g,some z)∈(l.filterMap fun y=>y.2.map fun g=>((g,none):Tag×Tap (E×Tbb×Ty)))++(if q.new then [] else nK p (.un (.cell 0) (.var p)) I.res)++xY p 1 q.outs:=l6;rw[cX]at e5;rcases aQ.1 e5 with hm|hm
          .exact absurd hm (g3 g z)
          exact .inr (i6 _ hm)
         rename_i O;refine .inl ⟨fun e=>hp (e▸(hs.m.own g z.1 z.2.1 z.2.2 hz).m),fun hk=>?_,hz⟩;refine oY O none ?_;show(g,none)∈(l.filterMap fun y=>y.2.map fun g=>((g,none):Tag×Tap (E×Tbb×Ty)))++(if q.new then [] else nK p (.un (.cell 0) (.var p)) I.res)++xY p 1 q.outs;rw[cX];exact az _ ((g2 g).2 hk)
        have i0:∀id z,fj σ.hp Dq.hp id=some z->(id∉ids/\id≠p/\σ.hp id=some z)\/∃(i:Nat) (V:List bC),(kR q ids p)[i]?=some id/\q.outs[i]?=some V/\z=(false,um (Ci q ids p) V (kY true p (.un (.cell (1+i)) (.var p)) 0 V)):=by
         intro id z hz;unfold fj at hz;split at hz
         .rename_i y O;subst hz;rcases aQ.1 (iw O) with f8|f8
          .obtain⟨i,V,W,h2,h3⟩:=Eb f8;injection h3 with h3;exact .inr ⟨i,V,W,h2,h3⟩
          split at f8<;>simp at f8
         rename_i O;have J:=oY O
         have e0:id∉kR q ids p:=by
          refine FJ (p:=p) (lkk:=Ci q ids p) (k:=1) (ids:=kR q ids p) (rcs:=q.outs) ?_ (by rw[d7];exact aM _);cases hq:lk (Qf (Ci q ids p) p 1 (kR q ids p) q.outs) id with
          |none=>rfl
          |some v=>exact absurd (az _ (iw hq)) (J v)
         refine .inl ⟨fun A=>?_,?_,hz⟩
         .unfold kR at e0;cases s:q.mv with
          |false=>
           simp only[s,ai,if_false]at e0;exact e0 (az _ A)
          |true=>
           simp only[s,if_true]at e0;have h3:=e4 s;obtain⟨i,a7,l9⟩:=fD A;by_cases b0:i<q.cC.length-1
           .refine e0 (az _ (bT (i:=i) ?_));rw[aC,if_pos b0,aR a7,l9]
           have m0:i=q.cC.length-1:=by omega
           have h6:=(X s).1;rw[<-m0,aR a7,l9]at h6;injection h6 with h6;refine J none (bA _ ?_);simp only[s,if_true,aG,ae,and_true];rw[h6,m0]
         rintro rfl;exact hp (hs.m.mC _ _ hz)
        have i4:∀j id y z b,fj σ.live Dq.live (p,j)=some y->fj σ.hp Dq.hp id=some z->(id∈ids\/id=p)->(τ' j).ownBlock=some b->b≠G'.β id:=by
         intro j id y z b O hz a4 hb;rcases a0 _ _ O with⟨W,_⟩|i5
         .exact absurd rfl W
         rcases i0 id z hz with⟨W,h2,_⟩|⟨i,V,W,h2,_⟩
         .rcases a4 with a4|a4
          .exact absurd a4 W
          exact absurd a4 h2
         obtain⟨cells,_,_,_,he⟩:=d4 i id V W h2;rw[<-he];exact uk.eO j i b i5.2.1 (aD.1 h2).1 hb
        obtain⟨l8,hm⟩:=hs.m.QR hp (τ':=τ') (βn:=a3) (ids:=ids) (kill:=kill) (mu:=ug q Z f6) uk.below
         (by
          rintro b (⟨i,A,rfl⟩|⟨j,Y,hb⟩)
          .have W:ids[i]?=some (ids[i]'(by omega)):=aR _;exact .inl ⟨_,aF (l:=ids) (n:=i) (by omega),F i _ W⟩
          unfold Ob.jz at Y;rw[q3]at Y;obtain⟨g,j2,j3⟩:=vE a5 Y hb;exact .inr ⟨g,bE.2 ⟨_,j2,rfl⟩,j3⟩)
         q4 (fun g hg=>by obtain⟨j,Y⟩:=i7 g hg;exact q5 j g Y) uk.jx uk.lt uk.new uk.keep (fj σ.hp Dq.hp) (fj σ.live Dq.live) G' rfl
         (by
          intro id z hz;rcases i0 id z hz with W|⟨i,V,W,h2,rfl⟩
          .exact .inl W
          obtain⟨cells,b9,⟨g4,T,v1,v2,v3,v4,v5⟩,a4,n0⟩:=d4 i id V W h2;refine .inr ⟨rfl,a4,?_,jD.mk (vs:=g4) (T:=T) v1 ⟨?_,?_⟩,v5⟩
          .rw[bU];intro c p3;obtain⟨j,Y⟩:=au p3;obtain⟨c0,Y,c3⟩:=rU Y;rcases c3 with rfl|⟨_,_,_,rfl⟩
           rotate_left
           .rfl
           rw[pa]at Y;simp only[cQ]at Y;obtain⟨r,hr,rfl⟩:=Y;have:=bU.1 (bU.1 n5 V (bT h2)) r (bT hr);obtain⟨t,_|⟨j0,T0⟩⟩:=r
           .exact this
           cases Ko:BN j0<;>simp[nJ,Ko,SC.scalar]
          .show _=(um _ _ _).length;rw[AY,sr,v2]
          intro j c u Y hu;obtain⟨c0,Y,c3⟩:=rU Y;rcases c3 with rfl|⟨P6,B,l1,rfl⟩
          rotate_left
          .by_cases s:q.mv=true
           .unfold Ci at B;rw[if_pos s]at B;injection B with B;subst B;have a1:=uk.link (e4 s) i j V h2 l1;rw[n0,cell_of_row w' _ j _ T (0,0) v1,da,hu]at a1;injection a1 with a1;refine⟨hM,?_⟩;rw[a1];unfold jU;rw[if_neg (fun h=>h.2 ⟨s,rfl⟩)];show _=Value.pointer (some ⟨fy G.β p a3 p,0,none⟩);rw[dX,e7 s]
           unfold Ci at B;rw[if_neg s]at B
           have c5:gW q.shape<q.cC.length:=by
            unfold Co at B;split at B
            .assumption
            cases B
           have g7:ids[q.cC.length-1]?=some P6:=by unfold Co at B;rw[if_pos c5]at B;exact B
           have l7:P6∈ids:=bT g7;have a1:=uk.link c5 i j V h2 l1;rw[n0,cell_of_row w' _ j _ T (0,0) v1,da,hu]at a1;injection a1 with a1;refine⟨.inl (h0 P6 l7),?_⟩;unfold jU at a1;rw[if_pos ⟨by omega,fun h=>s h.1⟩]at a1;rw[a1,F _ _ g7,c4 P6 l7]
          rw[pa]at Y;simp only[cQ]at Y;obtain⟨r,hr,rfl⟩:=Y;have o4:j<V.length:=(aD.1 hr).1;have f0:cells[j]?=some (cells[j]'(by omega)):=aR _;refine tI (C:=C.add p) (G:=G') (v4 j r u _ hr hu f0) hM (e6 _ _) ?_ f7 true;show den C.ρ (.un (.cell (0+j)) (.un (.cell (1+i)) (.var p)))=_;have e2:den C.ρ (.un (.cell (0+j)) (.un (.cell (1+i)) (.var p)))=(U.cell (0+j)).den (den C.ρ (.un (.cell (1+i)) (.var p))):=rfl;rw[e2,c9 i _ b9];simp only[U.den,D.V,aq];exact gf f0)
         (by
          intro g z hz;rcases a0 g z hz with W|i5
          .exact .inl W
          obtain⟨z1,z2,e,T,t,z3,z4⟩:=i5;injection z3 with z3;subst z3;exact .inr ⟨z1,z4,fun b hb=>uk.fS g.2 b z2 hb⟩)
         (by
          intro j k y z b O hz j7 p7;rcases a0 _ _ O with⟨W,_⟩|hl1
          .exact absurd rfl W
          rcases a0 _ _ hz with⟨W,_⟩|hl2
          .exact absurd rfl W
          exact uk.own j k b hl1.2.1 hl2.2.1 j7 p7)
         i4 o1 n9
        refine hK _ _ _ (hs.step (o:=o) (e:=Dq) l8 (hm.congr rfl rfl) rfl o2 (by intro x hx;cases hx) ?_ m5);intro _;rw[if_pos (show aV C.ρ Dq.tN.1=true from rfl)];show wP (C.add p) w' G' (if q.new then .one (.qa p 0) else uz true p (.un (.cell 0) (.var p)) I.res) v;cases R:q.new with
        |true=>
         rw[R]at H;simp only[if_true]at H⊢;refine⟨hM,?_⟩;rw[H.1];show _=Value.pointer (some ⟨fy G.β p a3 p,0,none⟩);rw[dX,e8 R]
        |false=>
         rw[R]at H;simp only[ai,if_false]at H⊢
         have b8:gZ w' 0 G'.S τ' I.res v (den (C.add p).ρ (.un (.cell 0) (.var p))):=by show gZ w' 0 S' τ' I.res v (den C.ρ _);rw[d1];exact H
         exact CL (C:=C.add p) (G:=G') b8 hM (g5 _) f7 true
       cases h
      cases h
     cases h
    cases h
   cases h
  cases h
 cases h
end
section
variable{P:Tba}(w:Tan)
def za(t ty e:Tbb)(i:TypeInfo)(z:Tao)(size:Nat)(D:P.underlying t=some (.slice e))(G:P.info? e=some i)(C:i.zero=some z)(g:i.size=size)(r:z.cells.size=size)(B:Addr)(n:Nat)(xs:Tad)(f:xs.length=n*size)(holds:∀(j:Nat) v,xs[j]?=some v->w.cell? (B.add j)=some v)(A:Tap Addr)(m c:Nat)(news:Tad)(H:A=none->m=0)(s:news.length=m*size)(h:∀a,A=some a->∀(j:Nat) u,news[j]?=some u->w.cell? (a.add j)=some u)(I:0<m)(l:n+m<=maxLen)(b:(n+m)*i.bytes<=140737488355328):
  ∃q p,(Builtin.append_ #[t,t] ty #[.slice (some B) n n,.slice A m c]).run P w=.ok q p/\p.ownsRow 0 e size q (n+m) (xs++news)/\q.ownBlock=some w.heap.size/\w.grownBy p none:=by
 subst g;have o:n+m<=9223372036854775807:=by simp only[maxLen]at l;omega
 have d:(xs++news).length=(n+m)*i.size:=by rw[ah,f,s,cq]
 obtain⟨a,rfl⟩:∃a,A=some a:=by
  cases A with
  |none=>have:=H rfl;omega
  |some a=>exact⟨a,rfl⟩
 have E:=run_append_grow (P:=P) w t ty e i z D G C B n n xs f holds a m c news s (h a rfl) (by omega) (by omega) (growslice_fits (by omega) b);have x:=grownCap_ge w (n+m) n e;have y:grownCap w (n+m) n e<=maxLen:=grownCap_le_maxLen w (n+m) n e l;refine⟨_,_,E,⟨d,.inr ⟨w.heap.size,_,_,rfl,aB _,heap_alloc_new w.drew _,x,y,?_,?_⟩⟩,rfl,⟨rfl,rfl,rfl,by simp,fun k F _=>heap_alloc_old w.drew _ k F⟩⟩
 .simp only[Array.size_append,cb,size_zeroCells,r,f,s,<-cq];congr 1;omega
 simp only[Array.toList_append,cX];rw[<-cX,<-d];exact List.take_left
end
section
variable{P:Tba}{C:Cx}{w w0:Tan}{S0:gw}{G:Gh}{σ:St}{a:Act}{o:Tbd}{pc:dJ}{s:SV}{is:List Item}{Φ:Tab}{Pre:Taa}{n p:Nat}{cs:mJ}
def gi(c:eU w0 S0 C G σ w)(b:¬C.M p){g:Tag}{x:E×Tbb×Ty}(h:σ.live g=some x):g.1≠p:=
 fun e=>b (e▸(c.own g x.1 x.2.1 x.2.2 h).m)
def iY.Ho{base c:Nat}{g:Tag}{e:E}{T:Tbb}{t:Ty}(h:iY C w base G g e T t)(y:∀b,(G.τ g).ownBlock=some b->c<=b):iY C w c G g e T t:=by
 obtain⟨q,l,v,d,f⟩:=h.own;refine⟨h.m,h.lt,h.has,q,l,v,⟨d.1,?_⟩,f⟩;rcases d.2 with r|⟨b,j,i,k,x,u⟩
 .exact .inl r
 exact .inr ⟨b,j,i,k,y b (by rw[k];rfl),u⟩
def Em{ops:Tae}{k:Nat}{e:E}{B:dI}(hs:gG n w0 S0 C G σ a w)(hp:¬C.M p)(b3:p<C.N)(hg:guardOf ops σ o=some pc)(h:xc P cs σ pc o=some (k,e,B))(c2:∀k B,lk cs.l k=some B->bn P k B (Pre k) (Φ k))(d1:eR C Φ Pre (.call p k e pc))(b4:(nu pc.isEmpty p B.res).lt C.N=true)(a3:∀d,o.dst=some d->d<n)(H:List Item)(d4:S0.fr->vd P cs σ pc o=true)(d0:¬S0.wz):
  fM P n w0 S0 C ((⟨o.dst,(pc,nu pc.isEmpty p B.res),[],if pc.isEmpty then gC p B.res else [],[],H⟩:iZ).app σ) p ops a w o:=by
 intro K Q hK;obtain⟨hw,hc⟩:=gj hs.t hg;rw[hw];have b9:aV C.ρ pc=false->pc.isEmpty=false:=by intro h;cases pc<;>first|rfl|(simp[aV]at h)
 cases yN:aV C.ρ pc with
 |false=>
  simp only[ai,if_false]
  have hm:eU w0 S0 (C.add p) G ((⟨o.dst,(pc,nu pc.isEmpty p B.res),[],if pc.isEmpty then gC p B.res else [],[],H⟩:iZ).app σ) w:=
   (hs.m.pg p).congr (dY _) (by simp only[iZ.app,b9 yN,ai,if_false];exact dY _)
  exact hK _ _ _ (hs.step (o:=o) (e:=⟨o.dst,(pc,nu pc.isEmpty p B.res),[],if pc.isEmpty then gC p B.res else [],[],H⟩) (dO.pg C w G p) hm rfl b4 hc
   (by intro _;simp only[yN,ai,if_false]) a3)
 |true=>
  simp only[if_true];unfold xc at h;split at h
  .rename_i f z a7 ho;split at h
   .rename_i fe k' fs es hf d7;split at h
    .rename_i c a1;split at h
     .rename_i c3;obtain⟨c7,c5,e2,c4,c9⟩:=c3;obtain⟨rfl,hE,rfl⟩:=LY h;obtain⟨f1,f2,f3⟩:=cS hs.t yN hf;obtain⟨fl,b8,a0⟩:=lI.1 f3;obtain⟨R,d3,a6,d8⟩:=(b8▸f2).xf;obtain⟨k1,k2⟩:=Gf hs.t yN d7;have F:=Pa a1 c2
      have c1:(den C.ρ e).V=(es.map fun x=>den C.ρ x.1)++fl:=by
       rw[<-hE,fR];simp only[D.V,bX,List.map_map];congr 1;apply eH;intro i;simp only[ab,lU,Option.map_map];cases Y:(fs.V)[i]? with
       |none=>
        have:fl.length<=i:=by rw[gh a0];exact dp.1 Y
        simp[cM this]
       |some t=>
        obtain⟨x,r,_⟩:=dh a0 i t Y;simp only[aS,Function.comp,den,U.den,b8,D.V,aq,gf r,r]
      have O:(z.toList.map a.eval++R).length=((es.map fun x=>den C.ρ x.1)++fl).length:=by simp[k1,a6]
      have b1:(execOp a.eval o).run P w=.ok (.enter k' (z.toList.map a.eval++R).toArray) w:=by
       have e1:(z.toList.map a.eval++R).toArray=z.map a.eval++R.toArray:=by apply dC;simp
       unfold execOp;simp only[ho,resolve,d3,Deferred.ofValue,e1];have:=F.enter (z.map a.eval++R.toArray) w;simpa [invoke]using this
      unfold Oper.wp;rw[b1]
      have L:∀(i:Nat) v d,(z.toList.map a.eval++R)[i]?=some v->((es.map fun x=>den C.ρ x.1)++fl)[i]?=some d->bV w G.S v d:=by
       intro i v d hv hd;by_cases Y:i<z.toList.length
       .rw[ak (by simpa using Y)]at hv;rw[ak (by rw[aj,k1];exact Y)]at hd;simp only[ab,cQ]at hv hd;obtain⟨x,r,rfl⟩:=hv;obtain⟨y,J,rfl⟩:=hd;exact(k2 i x y r J).1
       rw[ay (by simpa using Y)]at hv;rw[ay (by rw[aj,k1];omega)]at hd;simp only[aj]at hv hd;rw[k1]at hd;exact d8 _ v d hv hd
      have b7:dr (.Y c.params) ((es.map fun x=>den C.ρ x.1)++fl):=by
       rw[<-c5];refine jd (by simp[gh a0]) fun j u x I r=>?_;by_cases Y:j<es.length
       .rw[ak (by simpa using Y)]at I r;simp only[ab,cQ]at I r;obtain⟨y,J,rfl⟩:=I;obtain⟨y',Z,rfl⟩:=r;rw[J]at Z;injection Z with Z;subst Z;have b5:j<z.toList.length:=by rw[<-k1];exact Y
        exact(k2 j _ y (aR b5) J).2
       rw[ay (by simpa using Y)]at I r;simp only[aj]at I r;obtain⟨y,J,d2⟩:=dh a0 _ u I;rw[r]at J;injection J with J;subst J;exact d2
      obtain⟨_,_,b0,b2⟩:=d1;have W:=b2 yN;rw[c1]at b0 W;refine(F.calls (by simpa using c7) w G.S _ _ hs.m.dP O L b7 W).mono ?_;rintro e' w' ⟨v,S',Yy,rfl,yT,hS,Du,T4,N1,Ap,N2,adx⟩;simp only;rw[<-b0]at N1;obtain⟨A,T⟩:∃A,A=pn c.res Yy:=⟨_,rfl⟩;have a5:∀j,j∈cJ c.res->A j=Yy j:=fun j I=>by rw[T];exact if_pos I
      have a2:=N1.aaA;rw[<-T]at a2;have a4:∀j b,j∈cJ c.res->(A j).ownBlock=some b->w.heap.size<=b:=fun j b I hb=>Ap j b I (by rw[<-a5 j I];exact hb);have c0:∀j k b,j∈cJ c.res->k∈cJ c.res->(A j).ownBlock=some b->(A k).ownBlock=some b->j=k:=fun j k b I hk h1 h2=>N2 j k b I hk (by rw[<-a5 j I];exact h1) (by rw[<-a5 k hk];exact h2);let G':Gh:={S:=S',β:=G.β,τ:=fun g=>if g.1=p then A g.2 else G.τ g};have a9:∀j,G'.τ (p,j)=A j:=fun j=>if_pos rfl;have hM:(C.add p).M p:=.inr rfl;have V:gZ w' 0 G'.S A c.res v ((C.add p).ρ p):=a2;have X:=uJ (C:=C.add p) (G:=G') V hM b3 a9
      obtain⟨b6,hm⟩:=hs.m.called hp (τ':=A) yT hS Du T4 (fj σ.live (if pc.isEmpty then gC p c.res else [])) G' rfl
       (by
        intro g x r;unfold fj at r;split at r
        .rename_i y J;have q:=iw J;cases Me:pc.isEmpty with
         |false=>rw[Me]at q;simp at q
         |true=>
          rw[Me]at q;simp only[if_true]at q;obtain⟨q1,q2,e1,T1,t1,q3,q4⟩:=X _ q;simp only at q1 q3 q4;rw[q3]at r;injection r with r;subst r;refine .inr ⟨q1,q4.Ho (fun b hb=>a4 g.2 b q2 ?_)⟩;have e:G'.τ g=A g.2:=if_pos q1;rw[<-e];exact hb
        exact .inl ⟨gi hs.m hp r,r⟩)
       (by
        intro j1 j2 x y b r J e0 d9
        have a8:∀j x,fj σ.live (if pc.isEmpty then gC p c.res else []) (p,j)=some x->j∈cJ c.res:=by
         intro j x r;unfold fj at r;split at r
         .rename_i y J;have q:=iw J;cases Me:pc.isEmpty with
          |false=>rw[Me]at q;simp at q
          |true=>
           rw[Me]at q;simp only[if_true]at q;exact(X _ q).2.1
         exact absurd rfl (gi hs.m hp r)
        exact c0 j1 j2 b (a8 j1 x r) (a8 j2 y J) e0 d9)
       (fun d6=>by have h1:=d4 d6;unfold vd at h1;simp only[ho,hf,a1,aP]at h1;rw[T];exact N1.fresh h1.1.1 h1.2 (fun j b I hb=>.inl (aY hs.m.tn (Ap j b I hb))) fun j I d5=>(adx j I d5).Zg fun b hb=>.inl (aY hs.m.tn hb)) d0
      exact hK _ _ _ (hs.step (o:=o) (e:=⟨o.dst,(pc,nu pc.isEmpty p c.res),[],if pc.isEmpty then gC p c.res else [],[],H⟩) b6 (hm.congr (dY _) rfl) rfl b4 hc
       (by intro _;simp only[yN,if_true];exact AG (C:=C.add p) (G:=G') V hM b3 a9 _ (by simpa using c9)) a3)
     cases h
    cases h
   cases h
  cases h
def bV.source{S:bG}{v:Tao}{l:Tah}{k:Nat}(h:bV w S v (.list l))(q:∀d∈l,d.cells.length=k):
  ∃(A:Tap Addr) (c:Nat) (news:Tad),v=.slice A l.length c/\(A=none->l.length=0)/\news.length=l.length*k/\(∀g,A=some g->∀(j:Nat) u,news[j]?=some u->w.cell? (g.add j)=some u)/\
   ∀(i:Nat) d (j:Nat) u c,l[i]?=some d->d.cells[j]?=some c->news[i*k+j]?=some u->bV w S u c:=by
 cases h with
 |nil g cap=>exact⟨g,cap,[],rfl,fun _=>rfl,by simp,by simp,by simp⟩
 |list b off cap sz xs _ Vl uf rq hl hS hc hw hr=>
  have f:sz=k:=by
   cases Mg:l with
   |nil=>exact absurd Mg uf
   |cons d r=>rw[<-hw 0 d (by rw[Mg];rfl)];exact q d (by rw[Mg];simp)
  subst f;refine⟨_,cap,xs,rfl,(by intro h;cases h),hl,?_,hr⟩;intro g e j u m;injection e with e;subst e;rw[fL];exact hc j u m
def EH{N:Taj}{sv:SV}{v:Tao}{e2:E}{u:Ty}(d:AX sv=true)(b:∀g,zi N w G.S (G.τ g))(h:wP C w G sv v)(f:oR sv=some (e2,.list u)):
  mi (zj N w G.S) v\/(u.cells.all Ty.bare)=true:=by
 cases sv with
 |one c=>
  cases c with
  |own g e t=>exact .inl (sj (C:=C) (c:=.own g e t) rfl b h)
  |od t=>exact .inl (sj (C:=C) (c:=.od t) rfl b h)
  |gz e t=>
   simp only[oR,asData,aa,ae]at f;obtain⟨_,rfl⟩:=f;exact .inr d
  |clip e t=>
   simp only[oR,asData,aa,ae,Ty.list.injEq]at f;obtain⟨_,rfl⟩:=f;exact .inr d
  |_=>cases d
 |_=>cases d
def BE{ops:Tae}{g:Tap Tag}{e1 e2:E}{T:Tbb}{t:Ty}{b:Nat}(hs:gG n w0 S0 C G σ a w)(hp:¬C.M p)(hg:guardOf ops σ o=some [])(h:rR P σ [] o=some (g,e1,e2,T,t,b))(d0:eR C Φ Pre (.room [] (.bin .cat e1 e2) b))(d2:∀d,o.dst=some d->d<n)(H:List Item)(f3:S0.fr->vd P cs σ [] o=true)(e8:¬S0.wz):
  fM P n w0 S0 C ((⟨o.dst,([],.one (.own (p,0) (.bin .cat e1 e2) t)),[],(match g with|some g=>[(g,none)] |none=>[])++[((p,0),some (.bin .cat e1 e2,T,t))],[],H⟩:iZ).app σ) p ops a w o:=by
 intro K Q hK;obtain⟨hw,hc⟩:=gj hs.t hg;rw[hw];simp only[aV,bW,if_true];unfold rR at h;split at h
 .rename_i d6 R ho;split at h
  .rename_i sx x tt g2 a1 a6;split at h
   .rename_i el sv ex u hu a7 hx;split at h
    .rename_i ie u' f0 g5;split at h
     .rename_i d3;obtain⟨rfl,rfl,a5,f8,a8,W,d5⟩:=d3;obtain⟨y1,y2,y3⟩:=dR hs.t (pc:=[]) rfl hx;obtain⟨l2,b3,f9,y⟩:=bO.1 y3;have c9:∀d∈l2,d.cells.length=u.cells.length:=fun d hd=>(cZ (y d hd)).1;obtain⟨A,c,I,b9,hA,a2,c5,b2⟩:=(b3▸y2).source c9
      obtain⟨z,hz,d7⟩:∃z,ie.zero=some z/\z.cells.size=ie.size:=by
       cases hq:ie.zero with
       |none=>simp[hq]at W
       |some z=>exact⟨z,rfl,by simpa [hq]using W⟩
      have f4:∀e0 u0,sv≠ .one (.clip e0 u0):=by rintro e0 u0 rfl;cases h
      have a4:∀(v:Tao) (k:E) (g':Tap Tag),a.eval sx=v->k.lt C.N=true->(∃V xs,den C.ρ k=.list V/\(∀d∈V,Has u d)/\w.ownsRow 0 el u.cells.length v V.length xs/\
        (∀(i:Nat) d (j:Nat) u' c,V[i]?=some d->d.cells[j]?=some c->xs[i*u.cells.length+j]?=some u'->bV w G.S u' c)/\
        (v=.slice none 0 0/\g'=none\/∃g x,g'=some g/\σ.live g=some x/\G.τ g=v/\∀b,v.ownBlock=some b->(∀o,G.S b o↔Tag.ex (p,0)=false/\o<xs.length)))->
        eR C Φ Pre (.room [] (.bin .cat k ex) ie.bytes)->
        (∀a' w' G',gG n w0 S0 (C.add p) G' ((⟨o.dst,([],.one (.own (p,0) (.bin .cat k ex) u)),[],(match g' with|some g=>[(g,none)] |none=>[])++[((p,0),some (.bin .cat k ex,el,u))],[],H⟩:iZ).app σ) a' w'->K a' w')->
        o.wp P a w K Q:=by
       rintro v k g' hv O ⟨V,xs,a3,F,r,hxr,hold⟩ adt hK;have a0:den C.ρ (.bin .cat k ex)=.list (V++l2):=by simp only[den,B.den,a3,b3,D.V]
       obtain⟨g6,e4⟩:=adt;have J:=e4 rfl;rw[a0]at J;simp only[D.V,ah]at J
       have c4:∀w∈I,w.oneCell'=true:=by
        intro uu d9;obtain⟨q,hq⟩:=au d9;have e6:q<I.length:=(aD.1 hq).1;have c1:0<u.cells.length:=by omega
        have hi:q/u.cells.length<l2.length:=by rw[Nat.div_lt_iff_lt_mul c1,<-a2];exact e6
        have hj:q % u.cells.length<u.cells.length:=Nat.mod_lt _ c1;have hd:l2[q/u.cells.length]?=some (l2[q/u.cells.length]'hi):=aR hi;have e3:u.cells[q % u.cells.length]?=some (u.cells[q % u.cells.length]'hj):=aR hj;obtain⟨cc,f5,d4⟩:=(cZ (y _ (bT hd))).2 _ _ e3;have e5:q/u.cells.length*u.cells.length+q % u.cells.length=q:=by rw[Nat.mul_comm];exact Nat.div_add_mod _ _
        exact(b2 _ _ _ uu cc hd f5 (by rw[e5];exact hq)).iH d4 (bU.1 a8 _ (aF hj))
       obtain⟨v',w',c3,a9,b7⟩:=jO (P:=P) w 0 tt o.type el ie z u.cells.length hu f0 hz a5.symm (by rw[d7,a5]) v V.length xs r A l2.length c I hA a2 c5 c4 J.1 J.2 (aB _)
       have b5:(execOp a.eval o).run P w=.ok (.value v') w':=by
        have f7:d6=#[sx,x]:=by apply dC;simpa using a1
        have f6:R=#[tt,tt]:=by apply dC;simpa using a6
        unfold execOp;simp only[ho,resolve,invoke,builtin,f7,f6];simp[hv,b9,c3]
       unfold Oper.wp;rw[b5]
       have f1:∀g,g'=some g->g≠(p,0):=by
        intro g L he;rcases hold with⟨_,h2⟩|⟨g0,x0,h2,h3,_⟩
        .rw[h2]at L;cases L
        rw[h2]at L;injection L with L;subst L;subst he;exact gi hs.m hp h3 rfl
       obtain⟨G',c7,hm,b8⟩:=hs.m.appended hp 0 (v:=v) (v':=v') (T:=el) (t:=u) (n:=V.length) (m:=l2.length) (xs:=xs) (news:=I) (l:=V) (l2:=l2) (e2:=.bin .cat k ex)
        (by omega) rfl rfl hxr b2 (fun d hd=>(cZ (F d hd)).1) r.1 a9 b7 (fj σ.live ((match g' with|some g=>[(g,none)] |none=>[])++[((p,0),some (.bin .cat k ex,el,u))]))
        (by
         rcases hold with⟨U,_⟩|⟨g0,x0,h2,h3,h4,h5⟩
         .exact .inl U
         refine .inr ⟨g0,x0,h3,h4,?_,fun b hb=>⟨h5 b hb,fun o' u' e7=>?_⟩⟩
         .rw[h2];simp[fj,lk]
         have:=r.cells (g:=b) hb o' u' e7;rw[fL,aq]at this;exact this)
        (by simp[E.lt,O,y1]) a0 (by rw[a0];exact bO.2 ⟨_,rfl,⟨by simpa using J.1,by rw[<-d5];simpa using J.2⟩,fun d hd=>by rcases aQ.1 hd with h|h;exact F d h;exact y d h⟩)
        (by
         intro g0 x0 f;unfold fj at f;cases g' with
         |none=>
          simp only[eL,lk]at f;by_cases he:g0=(p,0)
          .rw[if_pos he]at f;simp only[aa]at f;exact .inr ⟨he,f.symm⟩
          rw[if_neg he]at f;exact .inl ⟨he,f⟩
         |some g1=>
          simp only[eE,eL,lk]at f;by_cases O:g0=g1
          .rw[if_pos O]at f;cases f
          rw[if_neg O]at f;by_cases he:g0=(p,0)
          .rw[if_pos he]at f;simp only[aa]at f;exact .inr ⟨he,f.symm⟩
          rw[if_neg he]at f;exact .inl ⟨he,f⟩)
        (fun d1=>⟨rfl,(by
         intro hn u0 c2;rcases r.2 with⟨_,U⟩|⟨b0,ajV,ajT,U,_⟩
         .have:=r.1;rw[U,Nat.zero_mul]at this;rw[an this]at c2;simp at c2
         .rw[hn]at U;cases U),(by
         have U:=f3 d1;unfold vd at U;simp only[ho,a1,a6]at U;cases hxs:fT P σ [] x tt with
         |none=>rw[fk,hxs]at hx;cases hx
         |some xv=>
          have d8:oR xv=some (ex,.list u):=by rw[fk,hxs]at hx;exact hx
          have h2:(u.cells.all Ty.bare)=true\/AX xv=true:=by
           rw[a7,hxs]at U;cases sv with
           |one c0=>cases c0 with
            |clip e0 u0=>exact absurd rfl (f4 _ _)
            |_=>exact .inr U
           |_=>exact .inr U
          have h3:mi (zj (jg w0 S0) w G.S) (a.eval x)\/(u.cells.all Ty.bare)=true:=by
           rcases h2 with h2|h2
           .exact .inr h2
           exact EH h2 (hs.m.fresh d1) (cS hs.t (pc:=[]) rfl hxs) d8
          rcases h3 with h3|h3
          .exact H7 h3 (b3▸y2) c9 b9 a2 c5
          exact oU h3 (by omega) y a2 b2)⟩) e8
       have X:=hm.own (p,0) (.bin .cat k ex) el u (by
        show fj σ.live _ (p,0)=_;unfold fj;cases g' with
        |none=>simp[lk]
        |some g1=>simp[lk,Ne.symm (f1 g1 rfl)])
       exact hK _ _ _ (hs.step (o:=o) (e:=⟨o.dst,([],.one (.own (p,0) (.bin .cat k ex) u)),[],(match g' with|some g=>[(g,none)] |none=>[])++[((p,0),some (.bin .cat k ex,el,u))],[],H⟩) c7 (hm.congr (dY _) rfl) rfl
        (by simp[SV.lt,SC.lt,E.lt,O,y1]) (by simp)
        (by intro _;simp only[aV,bW,if_true];refine⟨.inr rfl,by simp[E.lt,O,y1,Cx.add],?_,X.has,b8.symm⟩;have:=X.rep (by omega);rw[b8]at this;exact this) d2)
      split at h
      .rename_i v;split at h
       .rename_i g4;obtain⟨rfl,rfl,rfl,rfl,rfl,rfl⟩:=zP6 h;have hv:=cS hs.t (pc:=[]) rfl a7;refine a4 (.slice none 0 0) .nil none hv rfl ⟨[],[],rfl,by simp,fB w _ _ _,by simp,.inl ⟨rfl,rfl⟩⟩ d0 hK
       cases h
      .rename_i g0 e0 v;split at h
       .rename_i k T' v' Y;split at h
        .rename_i b6;obtain⟨rfl,rfl,rfl,f2⟩:=b6;obtain⟨rfl,rfl,rfl,rfl,rfl,rfl⟩:=zP6 h;have hv:=cS hs.t (pc:=[]) rfl a7;have b1:=hs.m.own _ _ _ _ Y;obtain⟨xs,V,a3,r,b4,hr⟩:=b1.own;have hh:=b1.has;rw[a3]at hh;obtain⟨g3,Z,_,F⟩:=bO.1 hh;injection Z with Z;subst Z;exact a4 (G.τ g0) k (some g0) hv.2.2.2.2 b1.lt ⟨V,xs,a3,F,r,hr,.inr ⟨g0,_,rfl,Y,rfl,fun b hb o=>(b4 b hb o).trans (by rw[f2];rfl)⟩⟩ d0 hK
        cases h
       cases h
      cases h
     cases h
    cases h
   cases h
  cases h
 cases h
def y8{ops:Tae}{e1 e2:E}{T:Tbb}{t:Ty}{b:Nat}(hs:gG n w0 S0 C G σ a w)(hp:¬C.M p)(hg:guardOf ops σ o=some [])(h:nf P σ o=some (e1,e2,T,t,b))(e3:eR C Φ Pre (.room [] (.bin .cat e1 e2) b))(c0:eR C Φ Pre (.jY [] (.bin .lt (.aU i64 0) (.un .len e2))))(c3:∀d,o.dst=some d->d<n)(J:List Item)(e4:S0.fr->vd P cs σ [] o=true)(d8:¬S0.wz):
  fM P n w0 S0 C ((⟨o.dst,([],.one (.own (p,0) (.bin .cat e1 e2) t)),[],[((p,0),some (.bin .cat e1 e2,T,t))],[],J⟩:iZ).app σ) p ops a w o:=by
 intro K Q hK;obtain⟨hw,hc⟩:=gj hs.t hg;rw[hw,if_pos (show aV C.ρ []=true from rfl)];unfold nf at h;split at h
 .rename_i d0 H ho;split at h
  .rename_i sx x tt f4 R a0;split at h
   .rename_i el F v ex u hu b4 hx;split at h
    .rename_i ie u' c2 f5;split at h
     .rename_i c4;obtain⟨rfl,rfl,y,f1,a2,L,c9,rfl⟩:=c4;obtain⟨rfl,rfl,rfl,rfl,rfl⟩:=zP5 h;obtain⟨y1,y2,y3⟩:=dR hs.t (pc:=[]) rfl hx;obtain⟨x1,x2,x3,ad,a1⟩:=cS hs.t (pc:=[]) rfl b4;obtain⟨S,a7,f3,r⟩:=bO.1 x3;obtain⟨I,a6,f2,i⟩:=bO.1 y3;have b9:∀d∈S,d.cells.length=v.cells.length:=fun d Z=>(cZ (r d Z)).1;have e0:∀d∈I,d.cells.length=v.cells.length:=fun d Z=>(cZ (i d Z)).1;obtain⟨A1,c1,xs,Y,f0,W,d2,b2⟩:=(a7▸x2).source b9;obtain⟨A,c,f,d1,hA,X,b7,a5⟩:=(a6▸y2).source e0
      obtain⟨z,hz,b1⟩:∃z,ie.zero=some z/\z.cells.size=ie.size:=by
       cases hq:ie.zero with
       |none=>simp[hq]at L
       |some z=>exact⟨z,rfl,by simpa [hq]using L⟩
      have O:den C.ρ (.bin .cat F ex)=.list (S++I):=by simp only[den,B.den,a7,a6,D.V]
      obtain⟨f6,d5⟩:=e3;have k:=d5 rfl;rw[O]at k;simp only[D.V,ah]at k
      have d9:0<I.length:=by have:=c0.2 rfl;simp only[den,B.den,U.den,a6,D.J,D.Z,D.V,bg]at this;omega
      have c7:a.eval sx=.slice A1 S.length S.length:=by rw[a7]at a1;simp only[D.V]at a1;rw[a1]at Y⊢;injection Y with h1 h2 h3;rw[h1]
      have b6:∀w∈f,w.oneCell'=true:=by
       intro uu d3;obtain⟨q,hq⟩:=au d3;have d7:q<f.length:=(aD.1 hq).1;have b3:0<v.cells.length:=by omega
       have hi:q/v.cells.length<I.length:=by rw[Nat.div_lt_iff_lt_mul b3,<-X];exact d7
       have hj:q % v.cells.length<v.cells.length:=Nat.mod_lt _ b3;have Z:I[q/v.cells.length]?=some (I[q/v.cells.length]'hi):=aR hi;have d4:v.cells[q % v.cells.length]?=some (v.cells[q % v.cells.length]'hj):=aR hj;obtain⟨cc,e6,c5⟩:=(cZ (i _ (bT Z))).2 _ _ d4;have d6:q/v.cells.length*v.cells.length+q % v.cells.length=q:=by rw[Nat.mul_comm];exact Nat.div_add_mod _ _
       exact(a5 _ _ _ uu cc Z e6 (by rw[d6];exact hq)).iH c5 (bU.1 a2 _ (aF hj))
      obtain⟨V,w',b5,a4,a9⟩:∃V w',(Builtin.append_ #[tt,tt] o.type #[.slice A1 S.length S.length,.slice A I.length c]).run P w=.ok V w'/\w'.ownsRow 0 el v.cells.length V (S.length+I.length) (xs++f)/\
        ((V.ownBlock=(Value.slice none 0 0).ownBlock/\w.grownBy w' (Value.slice none 0 0).ownBlock)\/(V.ownBlock=some w.heap.size/\w.grownBy w' none)):=by
       cases A1 with
       |none=>
        have h0:=f0 rfl;have g:xs=[]:=an (by rw[W,h0];simp);rw[h0,g];have a3:=k;rw[h0]at a3;exact jO (P:=P) w 0 tt o.type el ie z v.cells.length hu c2 hz y.symm (by rw[b1,y]) (.slice none 0 0) 0 [] (fB w _ _ _) A I.length c f hA X b7 b6 a3.1 a3.2 (aB _)
       |some ad1=>
        obtain⟨V,w',q1,q2,q3,q4⟩:=za (P:=P) w tt o.type el ie z v.cells.length hu c2 hz y.symm (by rw[b1,y]) ad1 S.length xs W (fun j u hj=>d2 ad1 rfl j u hj) A I.length c f hA X b7 d9 k.1 k.2;exact⟨V,w',q1,q2,.inr ⟨q3,q4⟩⟩
      have a8:(execOp a.eval o).run P w=.ok (.value V) w':=by
       have e8:d0=#[sx,x]:=by apply dC;simpa using R
       have e7:H=#[tt,tt]:=by apply dC;simpa using a0
       unfold execOp;simp only[ho,resolve,invoke,builtin,e8,e7];simp[c7,d1,b5]
      unfold Oper.wp;rw[a8]
      obtain⟨G',b8,hm,b0⟩:=hs.m.appended hp 0 (v:=.slice none 0 0) (v':=V) (T:=el) (t:=v) (n:=S.length) (m:=I.length) (xs:=xs) (news:=f) (l:=S) (l2:=I) (e2:=.bin .cat F ex)
       (by omega) rfl rfl b2 a5 b9 W a4 a9 (fj σ.live [((p,0),some (.bin .cat F ex,el,v))]) (.inl rfl)
       (by simp[E.lt,x1,y1]) O (by rw[O];exact bO.2 ⟨_,rfl,⟨by simpa using k.1,by rw[<-c9];simpa using k.2⟩,fun d Z=>by rcases aQ.1 Z with h|h;exact r d h;exact i d h⟩)
       (by
        intro g0 x0 g;unfold fj at g;simp only[lk]at g;by_cases he:g0=(p,0)
        .rw[if_pos he]at g;simp only[aa]at g;exact .inr ⟨he,g.symm⟩
        rw[if_neg he]at g;exact .inl ⟨he,g⟩)
       (fun e5=>by have h1:=e4 e5;unfold vd at h1;simp only[ho,R,a0,b4]at h1;exact⟨rfl,fun _=>oU h1 (by omega) r W b2,oU h1 (by omega) i X a5⟩) d8
      have N:=hm.own (p,0) (.bin .cat F ex) el v (by show fj σ.live _ (p,0)=_;unfold fj;simp[lk])
      exact hK _ _ _ (hs.step (o:=o) (e:=⟨o.dst,([],.one (.own (p,0) (.bin .cat F ex) v)),[],[((p,0),some (.bin .cat F ex,el,v))],[],J⟩) b8 (hm.congr (dY _) rfl) rfl
       (by simp[SV.lt,SC.lt,E.lt,x1,y1]) (by simp)
       (by intro _;simp only[aV,bW,if_true];refine⟨.inr rfl,by simp[E.lt,x1,y1,Cx.add],?_,N.has,b0.symm⟩;have:=N.rep (by omega);rw[b0]at this;exact this) c3)
     cases h
    cases h
   cases h
  cases h
 cases h
end
section
variable{P:Tba}{C:Cx}{w w0:Tan}{S0:gw}{G:Gh}{σ:St}{a:Act}{o:Tbd}{pc:dJ}{s:SV}{is:List Item}{Φ:Tab}{Pre:Taa}{n p:Nat}{cs:mJ}
def vX{g:Tag}{t:Ty}{e:E}{T:Tbb}(h:vn σ g t=some (e,T)):σ.live g=some (e,T,t)/\g.ex=true/\0<t.cells.length:=by
 unfold vn at h;split at h
 .rename_i j k i b;split at h
  .rename_i c;obtain⟨rfl,f,d⟩:=c;obtain⟨rfl,rfl⟩:=iE h;exact⟨b,f,d⟩
  cases h
 cases h
def CC{g:Tag}{x:E×Tbb×Ty}(h:σ.live g=some x):fj σ.live [(g,some x)]=σ.live:=by
 rw[tp,dY];funext y;split
 .rename_i b;rw[b,h]
 rfl
def eU.SG(O:eU w0 S0 C G σ w){g:Tag}{e:E}{T:Tbb}{t:Ty}(Q:σ.live g=some (e,T,t)){b k I:Nat}(r:G.τ g=.slice (some ⟨b,0,none⟩) k I):
  ∃(cur:Tbe Tao) (l:Tah),w.heap[b]?=some (.cells cur T (0,0))/\den C.ρ e=.list l/\l.length=k/\(∀d∈l,Has t d)/\k*t.cells.length<=cur.size/\mG t k/\
   ∀(i:Nat) d (j:Nat) c,l[i]?=some d->d.cells[j]?=some c->∃v,cur[i*t.cells.length+j]?=some v/\bV w G.S v c:=by
 have u:=O.own g e T t Q;obtain⟨L,l,K,⟨M,U⟩,W,N⟩:=u.own;obtain⟨V,h,B,m⟩:=bO.1 u.has;rw[K]at h;injection h with h;subst h;rcases U with⟨hv,_⟩|⟨b',He,cur,hv,_,ag9,Mf,YM,GZ,tW⟩
 .rw[r]at hv;cases hv
 rw[r]at hv;injection hv with f z y;injection f with f;injection f with f;subst f;subst z;subst y;refine⟨cur,l,ag9,K,rfl,m,by rw[GZ];exact aw _ Mf,B,fun i d j c H J=>?_⟩;have F:i<l.length:=(aD.1 H).1;have x:=(cZ (m d (bT H))).1;have R:j<t.cells.length:=by rw[<-x];exact(aD.1 J).1
 have A:i*t.cells.length+j<l.length*t.cells.length:=by have:(i+1)*t.cells.length<=l.length*t.cells.length:=aw _ F;rw[cq]at this;omega
 obtain⟨v,q⟩:∃v,L[i*t.cells.length+j]?=some v:=⟨_,aR (by omega)⟩;refine⟨v,?_,N i d j _ c H J q⟩;rw[<-tW,aC,if_pos A]at q;simpa using q
def eU.Wy(H:eU w0 S0 C G σ w){g:Tag}{e i:E}{T:Tbb}{t:Ty}(J:σ.live g=some (e,T,t)){b k y:Nat}(r:G.τ g=.slice (some ⟨b,0,none⟩) k y)(M:(den C.ρ i).J.toNat<k):
  ∃(d:D) (uu:Tak),(den C.ρ e).V[(den C.ρ i).J.toNat]?=some d/\den C.ρ (.bin .idx e i)=d/\Has t d/\∀(j:Nat) c,d.cells[j]?=some c->w.cell? ⟨b,(den C.ρ i).J.toNat*t.cells.length+j,none⟩=some (uu j)/\bV w G.S (uu j) c:=by
 obtain⟨h,l,m,A,I,q,_,_,F⟩:=H.SG J r;have f:l[(den C.ρ i).J.toNat]?=some (l[(den C.ρ i).J.toNat]'(by omega)):=aR _;refine⟨_,fun j=>h.toList.getD ((den C.ρ i).J.toNat*t.cells.length+j) undef,by rw[A];exact f,?_,q _ (bT f),fun j c K=>?_⟩
 .simp only[den,B.den,A,D.V];exact gf f
 obtain⟨v,z,u⟩:=F _ _ j c f K;have x:h.toList[(den C.ρ i).J.toNat*t.cells.length+j]?=some v:=by simpa using z
 have L:h.toList.getD ((den C.ρ i).J.toNat*t.cells.length+j) undef=v:=by simp[List.getD,x]
 simp only[L];exact⟨by rw[cell_of_row w b _ h T (0,0) m];exact z,u⟩
def Oi{ops:Tae}{e:iZ}(hs:gG n w0 S0 C G σ a w)(q:o.guard=none){v:Tao}(c:(execOp a.eval o).run P w=.ok (.value v) w)(j:e.hp=[])(h:fj σ.live e.live=σ.live)(r:e.dst=o.dst)(f:e.tN.1=[])(i:e.tN.2.lt C.N=true)(l:wP C w G e.tN.2 v)(g:∀d,o.dst=some d->d<n):fM P n w0 S0 C (e.app σ) p ops a w o:=by
 intro K Q t;have k:Region.wanted o (yielded ops a.tmps)=true:=by unfold Region.wanted;rw[q]
 rw[k,if_pos rfl];unfold Oper.wp;rw[c];have b:=dO.pg C w G p;refine t _ _ _ (hs.step (o:=o) b ((hs.m.pg p).congr (by show fj σ.hp e.hp=_;rw[j,dY]) h) r i (by rw[f];simp) (fun _=>?_) g);rw[f];simp only[aV,bW,if_true];exact l.later b
def El{ops:Tae}{e:iZ}(hs:gG n w0 S0 C G σ a w)(Y:o.guard=none)(h:Qp P σ o=some e)(F:e.tN.2.lt C.N=true)(y:∀d,o.dst=some d->d<n):
  fM P n w0 S0 C (e.app σ) p ops a w o:=by
 unfold Qp at h;split at h
 .rename_i z q W;split at h
  .rename_i x t j I;split at h
   .rename_i el g u V R;split at h
    .rename_i ee T B;injection h with h;subst h;obtain⟨K,Z,J⟩:=vX B;obtain⟨hM,S,A,k,a0,r⟩:=cS hs.t (pc:=[]) rfl R;have f:=hs.m.own _ _ _ _ K;obtain⟨l,H,i,_⟩:=bO.1 f.has
     have X:k=l.length:=by
      obtain⟨xs,l',b,⟨_,L⟩,_⟩:=f.own;rw[H]at b;injection b with b;subst b;rw[<-S,r]at L;rcases L with⟨Qh,hn⟩|⟨b',He,cur,Qh,_⟩
      .injection Qh with Q O M;omega
      injection Qh with Q O M
     have c:z=#[x]:=by apply dC;simpa using j
     refine Oi (v:=.int i64 l.length) hs Y ?_ rfl (CC K) rfl rfl F ?_ y
     .unfold execOp;simp only[W,resolve,invoke,builtin,c];simp[Builtin.len_,I,r,run_underlying V,goInt,X]
     refine⟨by simpa [E.lt]using f.lt,?_,?_⟩
     .simp only[den,U.den,H,D.V];exact .int _ _
     simp only[den,U.den,H,D.V];have i:=i.1;refine dm.2 ⟨_,rfl,?_,?_⟩
     .show i64.min<=_;simp[IntKind.min,IntKind.signed,IntKind.bits];try omega
     show _<=i64.max;simp[IntKind.max,IntKind.signed,IntKind.bits];simp only[maxLen]at i;omega
    cases h
   cases h
  cases h
 cases h
def BD{ops:Tae}{e:iZ}(hs:gG n w0 S0 C G σ a w)(hg:o.guard=none)(h:Dz P σ o=some e)(J:∀X∈e.items,eR C Φ Pre X)(I:e.tN.2.lt C.N=true)(q:∀d,o.dst=some d->d<n):
  fM P n w0 S0 C (e.app σ) p ops a w o:=by
 unfold Dz at h;split at h
 .rename_i t x i ho;split at h
  .rename_i el g u L k hu Y hi;split at h
   .rename_i ee T H;split at h
    .rename_i E;injection h with h;subst h;obtain⟨O,a2,M⟩:=vX H;obtain⟨hM,Z,A,kk,a3,a0⟩:=cS hs.t (pc:=[]) rfl Y;obtain⟨W,V,S⟩:=dR hs.t (pc:=[]) rfl hi;obtain⟨m,j,_⟩:=dm.1 S;have f:=hs.m.own _ _ _ _ O;obtain⟨l,Q,a1,_⟩:=bO.1 f.has;have F:eR C Φ Pre (.jY [] (.bin .and (.bin .le (.aU k 0) L) (.bin .lt L (.un .len ee)))):=J _ (by simp);have R:=F.2 rfl;simp only[den,B.den,U.den,Q,j,D.J,D.Z,D.V,aP,bg]at R;obtain⟨r,K⟩:=R;obtain⟨xs,l',c,⟨_,hh⟩,_⟩:=f.own;rw[Q]at c;injection c with c;subst c;rcases hh with⟨_,hn⟩|⟨b,He,cur,Qh,_⟩
     .omega
     have z:a.eval i=.int k m:=(j▸V).dj;have y:a.eval x=.slice (some ⟨b,0,none⟩) l.length He:=by rw[Z,Qh]
     refine Oi (v:=.pointer (some ⟨b,m.toNat*u.cells.length,none⟩)) hs hg ?_ rfl (CC O) rfl rfl I ?_ q
     .have h1:=hJ (P:=P) (w:=w) E;unfold execOp;simp only[ho,y,z,Instr.indexAt,asIntOf];simp[run_underlying hu,r,K,h1,fL]
     refine⟨hM,W,b,He,l.length,Qh,?_,?_,?_⟩
     .rw[j];exact r
     .rw[j];simp only[D.J];omega
     rw[j];simp only[D.J];rw[dL]
    cases h
   cases h
  cases h
 cases h
def rG{N:Nat}:∀(l:List E),(E.Y l).lt N=true↔ ∀e∈l,e.lt N=true
 |[]=>by simp[E.Y,E.lt]
 |e::l=>by simp[E.Y,E.lt,rG l]
def C6:∀{d:Ty} {e l:Tah},dr d e->dr (.Y d.V) l->dr d l
 |.nil,_,l,_,h=>h
 |.cons a b,e,l,h0,h=>by obtain⟨_,i,_,_,c⟩:=aA.1 h0;obtain⟨x,r,rfl,f,g⟩:=aA.1 h;exact aA.2 ⟨x,r,rfl,f,C6 c g⟩
 |.int _,_,_,h,_| .bool,_,_,h,_| .str,_,_,h,_| .list _,_,_,h,_| .agg _,_,_,h,_| .fa _,_,_,h,_| .box _,_,_,h,_| .ptr _,_,_,h,_| .fn _ _,_,_,h,_=>h.elim
def EP{u:Ty}{d:D}(hs:u.scalar=true)(h:Has u d):u.cells=[u]/\d.cells=[d]:=by
 have b:u.cells=[u]:=by cases u<;>first|rfl|cases hs
 refine⟨b,?_⟩;cases d<;>first|rfl|(rename_i l;exfalso;cases u<;>simp[Ty.scalar]at hs<;>simp[dm,dg,mP,bO,ia,kX,lI]at h)
def KR{u:Ty}{el x:E}{off:Nat}{es:List E}{ts:Tam}(h:Hm u el off es=some x)(T:el.lt C.N=true)(S:(E.Y es).lt C.N=true)(Z:Has u (den C.ρ el))(Q:off+es.length<=u.cells.length)(k:ts=(u.cells.drop off).take es.length)(Y:dr (.Y ts) (es.map (den C.ρ))):
  x.lt C.N=true/\Has u (den C.ρ x)/\∀(j:Nat) c,(den C.ρ x).cells[j]?=some c->if off<=j/\j<off+es.length then(es[j-off]?).map (den C.ρ)=some c else(den C.ρ el).cells[j]?=some c:=by
 have r:=(rG es).1 S;unfold Hm at h;split at h
 .rename_i L;injection h with h;subst h;obtain⟨l0,H,l⟩:=eA.1 Z;have m:=gh l
  have F:((jq el 0 L.V).map (·.1)).map (den C.ρ)=l0:=by
   apply eH;intro i;simp only[ab,lU,Option.map_map];cases I:(L.V)[i]? with
   |none=>
    have:l0.length<=i:=by rw[m];exact dp.1 I
    simp[cM this]
   |some t=>
    obtain⟨y,M,_⟩:=dh l i t I;simp only[aS,Function.comp,den,U.den,H,D.V,aq,gf M,M]
  have X:off+es.length<=l0.length:=by rw[m];exact Q
  have v:den C.ρ (.un .agg (.Y (((jq el 0 L.V).map (·.1)).take off++es++((jq el 0 L.V).map (·.1)).drop (off+es.length))))=.agg (l0.take off++es.map (den C.ρ)++l0.drop (off+es.length)):=by simp only[den,fR,U.den,D.V,bX,List.map_take,List.map_drop,F]
  have q:∀(j:Nat) c,(l0.take off++es.map (den C.ρ)++l0.drop (off+es.length))[j]?=some c->if off<=j/\j<off+es.length then(es[j-off]?).map (den C.ρ)=some c else l0[j]?=some c:=by
   intro j c b;have K:(l0.take off).length=off:=by rw[aO];omega
   split
   .rename_i O;rw[ak (by simp[K];omega),ay (by omega),K]at b;simpa using b
   rename_i O;by_cases R:j<off
   .rw[ak (by simp[K];omega),ak (by omega),aC,if_pos R]at b;exact b
   rw[ay (by simp[K];omega)]at b;simp only[ah,K,aj,aL]at b;rw[show off+es.length+(j-(off+es.length))=j by omega]at b;exact b
  refine⟨?_,?_,?_⟩
  .simp only[E.lt];rw[rG]
   have J:∀e∈(jq el 0 L.V).map (·.1),e.lt C.N=true:=by intro e g;obtain⟨i,I⟩:=au g;simp only[ab,lU,Option.map_map,cQ]at I;obtain⟨_,_,rfl⟩:=I;simpa [E.lt]using T
   intro e g;simp only[aQ]at g;rcases g with(g|g)|g
   .exact J e (cV g)
   .exact r e g
   exact J e (dx g)
  .rw[v];refine eA.2 ⟨_,rfl,C6 l (jd ?_ fun j t y b M=>?_)⟩
   .simp only[ah,aO,aj,bh];omega
   have:=q j y M;split at this
   .rename_i O
    have ht:ts[j-off]?=some t:=by rw[k,aC,if_pos (by omega),aL,show off+(j-off)=j by omega];exact b
    obtain⟨z,d,f⟩:=dh Y (j-off) t (by rw[Ty.dT];exact ht);simp only[ab]at d;rw[this]at d;injection d with d;subst d;exact f
   obtain⟨z,d,f⟩:=dh l j t b;rw[this]at d;injection d with d;subst d;exact f
  rw[v];intro j c b;have:=q j c b;rw[H];exact this
 .rename_i W _;split at h
  .rename_i O;obtain⟨rfl,B⟩:=O;injection h with h;subst h
   have A:Has u (den C.ρ W):=by
    have V:u.cells=[u]:=by cases u<;>first|rfl|cases B
    rw[V]at k;simp at k;subst k;obtain⟨z,d,f⟩:=dh Y 0 u (by simp[Ty.Y,Ty.V]);simp at d;subst d;exact f
   refine⟨r W (by simp),A,fun j c b=>?_⟩;rw[(EP B A).2]at b;cases j with
   |zero=>simp at b⊢;exact b
   |succ j=>simp at b
  cases h
 cases h
def BC{ops:Tae}{e:iZ}(hs:gG n w0 S0 C G σ a w)(hg:o.guard=none)(h:Dy P σ o=some e):fM P n w0 S0 C (e.app σ) p ops a w o:=by
 unfold Dy at h;split at h
 .rename_i t x y ho;split at h
  .rename_i g i u off Z ts sz hx hy d7;split at h
   .rename_i el T e2;split at h
    .rename_i d0;obtain⟨hn,e4,d6,d8,hd⟩:=d0;simp only[cQ]at h;obtain⟨xe,d3,rfl⟩:=h;obtain⟨hl,e8,f3⟩:=vX e2;obtain⟨hM,a1,b,g1,k,a6,f7,e6,hv⟩:=cS hs.t (pc:=[]) rfl hx;obtain⟨f,l,a4,a3,c1,a5,f4,e3,hr⟩:=hs.m.SG hl a6;obtain⟨d,_,a8,c9,c7,_⟩:=hs.m.Wy (i:=i) hl a6 e6;rw[a3]at a8;simp only[D.V]at a8;generalize hI:(den C.ρ i).J.toNat=I at*;have f6:=(cZ c7).1
     obtain⟨r,d5,d9⟩:∃r:Tad,(a.eval y).cells=r.toArray/\(E.Y Z).lt C.N=true/\Z.length=r.length/\ts.length=r.length/\(∀(i:Nat) v e,r[i]?=some v->Z[i]?=some e->bV w G.S v (den C.ρ e))/\dr (.Y ts) (Z.map (den C.ρ))/\∀u∈r,u.oneCell'=true:=by
      cases Vs:fT P σ [] y t with
      |none=>simp[Vs]at hy
      |some sv=>
       simp only[Vs,cg]at hy;cases hac:mc sv with
       |none=>simp[hac]at hy
       |some csl=>
        simp only[hac,cg]at hy
        have a0:csl.all SC.scalar=true:=by
         rw[bU];intro c Y;obtain⟨j,J⟩:=au Y
         have:∀{l:List SC} {Z:List E} {ts:Tam} {j:Nat} {c:SC},gM l=some (Z,ts)->ts.all Ty.scalar=true->l[j]?=some c->c.scalar=true:=by
          intro l
          induction l with
          |nil=>intro Z ts j c _ _ J;simp at J
          |cons c0 l ih=>
           intro Z ts j c h hs J;simp only[gM]at h;split at h
           .rename_i e0 t0 g0 f5 U h2;obtain⟨rfl,rfl⟩:=iE h;simp only[List.all_cons,aP]at hs;cases j with
            |zero=>
             simp at J;subst J
             cases c0<;>simp only[asData]at U<;>first
              |rfl
              |(obtain⟨_,rfl⟩:=iE U;exact hs.1)
            |succ j=>exact ih h2 hs.2 (by simpa using J)
           cases h
         exact this hy d8 J
        obtain⟨r,U,h2⟩:=qC hac (cS hs.t (pc:=[]) rfl Vs) a0;obtain⟨m1,m2,m3,m4,m5⟩:=lV hy h2;refine⟨r,U,m1,m2,m3,m4,m5,fun v hv=>?_⟩;obtain⟨j,J⟩:=au hv;have c3:j<r.length:=(aD.1 J).1;have d1:csl[j]?=some (csl[j]'(by rw[<-h2.1];exact c3)):=aR _;exact(h2.2 j _ v d1 J).iH (bU.1 a0 _ (bT d1))
     obtain⟨b0,c5,f2,b7,e7,b8⟩:=d9;have b9:(E.bin .idx el i).lt C.N=true:=by simp[E.lt,(hs.m.own _ _ _ _ hl).lt,a1]
     obtain⟨b2,b3,b4⟩:=KR (C:=C) d3 b9 b0 (by rw[c9];exact c7) (by rw[hn];exact e4) (by rw[hn];exact d6) e7;rw[c9]at b4;generalize L:den C.ρ xe=d' at*;have f9:I<l.length:=by omega
     have f1:=(cZ b3).1;let l':=l.take I++d'::(l.drop I).drop 1;have M:l'.length=l.length:=by simp only[l',ah,aO,bu,bh];omega
     have a2:den C.ρ (vj el i xe)=.list l':=by
      have:den C.ρ (vj el i xe)=.list (l.take (den C.ρ i).J.toNat++d'::(l.drop (den C.ρ i).J.toNat).drop 1):=by simp only[vj,den,B.den,a3,D.V,L];rfl
      rw[this,hI]
     have O:∀(q:Nat) R,l'[q]?=some R->(q=I/\R=d')\/(q≠I/\l[q]?=some R):=by
      intro q R H;have U:(l.take I).length=I:=by rw[aO];omega
      by_cases e1:q<I
      .simp only[l']at H;rw[ak (by omega),aC,if_pos e1]at H;exact .inr ⟨by omega,H⟩
      simp only[l']at H;rw[ay (by omega),U]at H;by_cases a7:q=I
      .rw[a7,Nat.sub_self]at H;simp at H;exact .inl ⟨a7,H.symm⟩
      rw[show q-I=(q-I-1)+1 by omega,df,aL,aL]at H;rw[show I+(1+(q-I-1))=q by omega]at H;exact .inr ⟨a7,H⟩
     have d2:(I+1)*u.cells.length<=k*u.cells.length:=aw _ (by omega);have f8:(I+1)*u.cells.length=I*u.cells.length+u.cells.length:=by rw[cq,Nat.one_mul]
     have c4:I*u.cells.length+off+r.length<=f.size:=by omega
     have b5:=run_storeCells_at P b (I*u.cells.length+off) T r 0 f w a4 (by simpa using c4) b8;simp only[dL]at b5
     have b6:(execOp a.eval o).run P w=.ok .skip (w.setRow b (f.toList.take (I*u.cells.length+off)++r++f.toList.drop (I*u.cells.length+off+r.length)).toArray):=by have U:=hJ (P:=P) (w:=w) d7;unfold execOp;simp only[ho,hv,Instr.storeAt,Instr.sureAddr];simp[storeVar,U,d5,b5,<-c5,hn]
     intro K Q hK;have hw:Region.wanted o (yielded ops a.tmps)=true:=by unfold Region.wanted;rw[hg]
     rw[hw,if_pos rfl];unfold Oper.wp;rw[b6]
     obtain⟨c2,hm⟩:=hs.m.afU hl e8 (e':=vj el i xe) (live':=fj σ.live [(g,some (vj el i xe,T,u))]) (l':=l') (row:=(f.toList.take (I*u.cells.length+off)++r++f.toList.drop (I*u.cells.length+off+r.length)).toArray)
      (by
       intro g' x' A;rw[tp,dY]at A;have A:(if g'=g then some (vj el i xe,T,u) else σ.live g')=some x':=A;by_cases he:g'=g
       .rw[if_pos he]at A;injection A with A;exact .inr ⟨he,A.symm⟩
       rw[if_neg he]at A;exact .inl ⟨he,A⟩) a6 a4 (by simp;omega)
      (by simp[vj,E.lt,(hs.m.own _ _ _ _ hl).lt,a1,b2]) a2 (by rw[M,c1])
      (by
       rw[a2];refine bO.2 ⟨l',rfl,by rw[M,c1];exact e3,fun z hz=>?_⟩;obtain⟨q,H⟩:=au hz;rcases O q z H with⟨_,rfl⟩|⟨_,hq'⟩
       .exact b3
       exact a5 z (bT hq'))
      (by
       intro q R j v c H J F
       have V:(f.toList.take (I*u.cells.length+off)).length=I*u.cells.length+off:=by
        have f0:f.toList.length=f.size:=by simp
        rw[aO,f0];omega
       have W:∀z,(z<I*u.cells.length+off\/I*u.cells.length+off+r.length<=z)->(f.toList.take (I*u.cells.length+off)++r++f.toList.drop (I*u.cells.length+off+r.length)).toArray[z]?=f[z]? :=by
        intro z hz;rw[da];rcases hz with hz|hz
        .rw[ak (by rw[ah,V];omega),ak (by omega),aC,if_pos hz];simp
        rw[ay (by rw[ah,V];omega),aL,ah,V];rw[show I*u.cells.length+off+r.length+(z-(I*u.cells.length+off+r.length))=z by omega];simp
       have b1:∀(q:Nat) R,l[q]?=some R->R.cells[j]?=some c->(q*u.cells.length+j<I*u.cells.length+off\/I*u.cells.length+off+r.length<=q*u.cells.length+j)->(f.toList.take (I*u.cells.length+off)++r++f.toList.drop (I*u.cells.length+off+r.length)).toArray[q*u.cells.length+j]?=some v->bV w G.S v c:=by intro q R H J hz F;rw[W _ hz]at F;obtain⟨v0,X,d4⟩:=hr q R j c H J;rw[F]at X;injection X with X;subst X;exact d4
       rcases O q R H with⟨rfl,rfl⟩|⟨uf,hq'⟩
       .have Y:=b4 j c J;split at Y
        .rename_i e5;rw[da,ak (by rw[ah,V];omega),ay (by omega),V]at F;rw[show q*u.cells.length+j-(q*u.cells.length+off)=j-off by omega]at F;cases Ko:Z[j-off]? with
         |none=>rw[Ko]at Y;cases Y
         |some ee=>
          rw[Ko]at Y;simp only[aS,aa]at Y;rw[<-Y];exact b7 _ v ee F Ko
        rename_i e5;exact b1 q d a8 Y (by omega) F
       have c3:j<u.cells.length:=by rw[<-(cZ (a5 R (bT hq'))).1];exact(aD.1 J).1
       refine b1 q R hq' J ?_ F;rcases Nat.lt_or_gt_of_ne uf with U|U
       .have:(q+1)*u.cells.length<=I*u.cells.length:=aw _ U;rw[cq]at this;omega
       have:(I+1)*u.cells.length<=q*u.cells.length:=aw _ U;omega)
     have a9:=c2.trans (dO.pg C _ G p)
     exact hK _ _ _ (hs.step (o:=o) (e:=⟨none,([],.agg []),[],[(g,some (vj el i xe,T,u))],[],[]⟩) a9 ((hm.pg p).congr (dY _) rfl) hd.symm rfl (by simp)
      (v:=undef) (by rintro⟨d,L⟩;rw[hd]at L;cases L) (by intro d L;rw[hd]at L;cases L))
    cases h
   cases h
  cases h
 cases h
end
end Go.dG
