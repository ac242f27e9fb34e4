/- Part 1 of the proof of RaftOne; no condition. -/
import Derived.Test.YtjhmkaninmgilaaS00
set_option linter.unusedVariables false
set_option linter.unusedSimpArgs false
set_option maxHeartbeats 4000000
namespace Go.dV
open Go Go.RowKit
def lk{α β:Type}[DecidableEq α] :List (α×β)→α→Option β
 | [],_=>none
 |(k,v)::r,x=>if x=k then some v else lk r x
structure jI where
 dst:Option Nat
 yh:dI×SV
 hp:List (Nat×Option (Bool×List SC))
 live:List (Tag×Option (E×TypeId×Ty))
 rd:List Nat
 items:List Item
def fg{α β:Type}[DecidableEq α](h:α→β)(l:List (α×β)):α→β:=fun x=>match lk l x with
 |some v=>v
 |none=>h x
def jI.app(e:jI)(σ:St):St:=
 ⟨match e.dst with|some d=>fU σ.tm d (some e.yh)|none=>σ.tm,fg σ.hp e.hp,fg σ.live e.live⟩
def guardOf(ops:Array Oper)(σ:St)(o:Oper):Option dI:=
 match o.guard with
 |none=>some []
 |some (j,want)=>
  match (ops[j]?).bind (·.dst) with
  |some t=>match σ.tm t with
   |some (c,.one (.iW e .bool))=>some ((e,want)::c)
   |_=>none
  |none=>none
def HL(P:Program)(σ:St)(pc:dI)(o:Oper):Option (Pl×List Nat):=
 match o.op with
 |.lookup T m x false=>
  match gu P σ pc m T,fK P σ pc x 0 with
  |some (.one (.Hp id)),some (ek,kt)=>
   match σ.hp id with
   |some (_,cs)=>match mapOf cs with
    |some (e,kt',T')=>if kt'=kt∧T'=T then some ((.one (.iW (.bin .has e ek) .bool),[]),[id]) else none
    |none=>none
   |none=>none
  |_,_=>none
 |_=>none
def tc(P:Program)(σ:St)(pc:dI)(o:Oper):Option (Pl×List Nat):=
 match o.op with
 |.load .. =>HM P σ pc o
 |.move _| .assign _=>(Dv P σ pc o).map (·,[])
 |.pick .. =>(HK P σ pc o).map (·,[])
 |.binOp .. =>(HN P σ pc o).map (·,[])
 |.unOp .. | .convert .. =>(SD P σ pc o).map (·,[])
 |.extract .. =>(wy P σ pc o).map (·,[])
 |.fieldAddr .. =>(qU P σ pc o).map (·,[])
 |.field .. =>(Cv P σ pc o).map (·,[])
 |.indexAddr .. =>(qT P σ pc o).map (·,[])
 |.nilCheck _=>(Oq P σ pc o).map (·,[])
 |.slice _ _ _ _ none=>(Ct P σ pc o).map (·,[])
 |.slice .. =>(zg P σ pc o).map (·,[])
 |.build .. =>(Cw P σ pc o).map (·,[])
 |.lookup .. =>HL P σ pc o
 |.call {callee:=.builtin .len,.. }| .call {callee:=.builtin .min,.. }| .call {callee:=.builtin .max,.. }=>(F4 P σ pc o).map (·,[])
 |_=>none
def Dd(P:Program)(σ:St)(pc:dI)(o:Oper):Option (List SC):=
 match o.op with
 |.alloc t=>
  match flat P J9 t,(P.info? t).bind (·.zero) with
  |some ts,some z=>n6 ts z.cells.toList
  |none,some z=>(match z.cells.toList with| [.map none] =>some [.L1] |_=>none)
  |_,_=>none
 |.box t x=>(gu P σ pc x t).bind oc
 |_=>none
def yQ(P:Program)(σ:St)(pc:dI)(o:Oper):Option (Nat×List SC):=
 match o.op with
 |.store t x y=>
  match gu P σ pc x t,(gu P σ pc y t).bind oc,jF P t with
  |some (.one (.r9 id off)),some cs,some n=>
   match σ.hp id with
   |some (false,BQ)=>if mapOf BQ=none∧cs.length=n∧off+cs.length≤BQ.length then some (id,BQ.take off++cs++BQ.drop (off+cs.length)) else none
   |_=>none
  |_,_,_=>none
 |_=>none
def uM(P:Program)(σ:St)(pc:dI):List Operand→Option (List (E×Ty)×List (Nat×List SC))
 | [] =>some ([],[])
 |x::r=>
  match gu P σ pc x 0,uM P σ pc r with
  |some (.one (.r9 id 0)),some (es,fz)=>
   match σ.hp id with
   |some (_,cs)=>match iO cs with
    |some (ds,ts)=>some ((.un .so (.dJ ds),.box (.dJ ts))::es,(id,cs)::fz)
    |none=>none
   |none=>none
  |some (.one (.iW e (.box fs))),some (es,fz)=>some ((e,.box fs)::es,fz)
  |_,_=>none
def SE(P:Program)(σ:St)(pc:dI)(o:Oper):Option (E×Ty×List (Nat×List SC)):=
 match o.op with
 |.makeFunc (.func f) first captured=>
  if first.toList.isEmpty then
   match uM P σ pc captured.toList with
   |some (es,fz)=>some (.un (.fnc f) (.dJ (es.map (·.1))),.fn f (.dJ (es.map (·.2))),fz)
   |none=>none
  else none
 |_=>none
def Bc(P:Program)(σ:St)(pc:dI):List Operand→List TypeId→Option (List (E×Ty))
 | [],[] =>some []
 |x::r,t::ts=>match fK P σ pc x t,Bc P σ pc r ts with
  |some e,some es=>some (e::es)
  |_,_=>none
 |_,_=>none
def p8(own:Bool)(p:Nat)(e:E):bD→SC
 |(t,none)=>.iW e t
 |(t,some (j,_))=>if own then(if Fe j then .xo (p,j) t else .own (p,j) e t) else .iW e (.list t)
def nf(own:Bool)(p:Nat)(e:E):Nat→List bD→List SC
 |_,[] => []
 |j,c::r=>p8 own p (.un (.cell j) e) c::nf own p e (j+1) r
def DJ(own:Bool)(p:Nat)(e:E)(c:Bool×List bD):Bool×List SC:=
 (c.1,if c.1 then nf own p e 0 c.2 else c.2.map (p8 own p e))
def py(own:Bool)(p:Nat)(e:E):Nat→List (Bool×List bD)→List (Bool×List SC)
 |_,[] => []
 |j,c::r=>DJ own p (.un (.cell j) e) c::py own p e (j+1) r
def xL(own:Bool)(p:Nat)(e:E):List (Bool×List bD)→SV
 | [c] =>match DJ own p e c with
  |(true,l)=>.agg l
  |(false,l)=>.one (l.headD (.po .nil))
 |cs=>.fx (py own p e 0 cs)
def ny(own:Bool)(p:Nat)(res:List (Bool×List bD)):SV:=xL own p (.var p) res
def lV(p:Nat)(e:E):bD→List (Tag×Option (E×TypeId×Ty))
 |(_,none)=> []
 |(t,some (j,T))=> [((p,j),some (e,T,t))]
def nW(p:Nat)(e:E):Nat→List bD→List (Tag×Option (E×TypeId×Ty))
 |_,[] => []
 |j,c::r=>lV p (.un (.cell j) e) c++nW p e (j+1) r
def vh(p:Nat)(e:E)(c:Bool×List bD):List (Tag×Option (E×TypeId×Ty)):=
 if c.1 then nW p e 0 c.2 else c.2.flatMap (lV p e)
def pP(p:Nat)(e:E):Nat→List (Bool×List bD)→List (Tag×Option (E×TypeId×Ty))
 |_,[] => []
 |j,c::r=>vh p (.un (.cell j) e) c++pP p e (j+1) r
def qa(p:Nat)(e:E):List (Bool×List bD)→List (Tag×Option (E×TypeId×Ty))
 | [c] =>vh p e c
 |cs=>pP p e 0 cs
def iy(p:Nat)(res:List (Bool×List bD)):List (Tag×Option (E×TypeId×Ty)):=qa p (.var p) res
def L0(res:List (Bool×List bD)):Bool:=res.all fun c=>c.2.all fun x=>match x.2 with|some (j,_)=> !Fe j|none=>true
def cO(res:List (Bool×List bD)):List Nat:=res.flatMap fun c=>c.2.filterMap fun x=>x.2.map (·.1)
def sW:bD→bD
 |(t,some (j,T))=>(t,some (j+1000,T))
 |c=>c
def yK(res:List (Bool×List bD)):List (Bool×List bD):=res.map fun c=>(c.1,c.2.map sW)
def Dq(s:dQ):dQ:={s with res:=yK s.res}
def Ty.bare:Ty→Bool
 |.int _| .bool| .str=>true
 |_=>false
def bD.bare:bD→Bool
 |(t,none)=>t.bare
 |(t,some _)=>t.cells.all Ty.bare
def CC(res:List (Bool×List bD)):Bool:=res.all fun c=>c.2.all bD.bare
def aoR(cs:o3):Option Nat→Bool
 |some d=>cs.ex.contains d
 |none=>false
def F2(cs:o3)(dst:Option Nat)(k:Nat):Option dQ:=
 match lk cs.l k with
 |some s=>if aoR cs dst=true∧s.ob=none∧CC s.res=true then some (Dq s) else some s
 |none=>none
def An(P:Program)(cs:o3)(σ:St)(pc:dI)(o:Oper):Option (Nat×E×dQ):=
 match o.op with
 |.call {callee:=.value f,args,argTypes}=>
  match gu P σ pc f 0,Bc P σ pc args.toList argTypes.toList with
  |some (.one (.iW fe (.fn k fs))),some es=>
   match F2 cs o.dst k with
   |some sig=>
    if sig.ob.isNone=true∧es.map (·.2)++fs.aV=sig.params∧(cO sig.res).Nodup∧(sig.res.all fun c=>c.1||c.2.length==1)=true∧(pc.isEmpty||L0 sig.res)=true then
     some (k,.dJ (es.map (·.1)++(kK fe 0 fs.aV).map (·.1)),sig)
    else none
   |none=>none
  |_,_=>none
 |_=>none
def mB:List (Option Tag)→Bool
 | [] =>true
 |none::r=>mB r
 |some g::r=> !r.contains (some g)&&mB r
abbrev mO:=List (Nat×Option Tag)
def kN(σ:St):bD→SC→Option (E×mO)
 |(t,none),c=>match asData c with
  |some (e,t')=>if t'=t then some (e,[]) else none
  |none=>match c with
   |.r9 _ 0=>if t= .box .nil then some (.un .so .nil,[]) else none
   |_=>none
 |(t,some (j,T)),c=>match c with
  |.po t'=>if t'=t∧0<t.cells.length then some (.nil,[(j,none)]) else none
  |.own g _ t'=>match σ.live g with
   |some (e,T',t'')=>if t'=t∧t''=t∧T'=T∧0<t.cells.length∧g.ex=false∧Fe j=false then some (e,[(j,some g)]) else none
   |none=>none
  |.xo g t'=>match σ.live g with
   |some (e,T',t'')=>if t'=t∧t''=t∧T'=T∧0<t.cells.length∧g.ex=true∧Fe j=true then some (e,[(j,some g)]) else none
   |none=>none
  |_=>none
def ia(σ:St):List bD→List SC→Option (List E×mO)
 | [],[] =>some ([],[])
 |r::rs,c::cs=>match kN σ r c,ia σ rs cs with
  |some (e,l),some (es,ls)=>some (e::es,l++ls)
  |_,_=>none
 |_,_=>none
theorem mc{σ:St}{rc:List bD}{cs:List SC}{x:List E×mO}(h:ia σ rc cs=some x):mapOf cs=none:=by
 unfold mapOf
 split
 ·cases rc with
  |nil=>simp[ia]at h
  |cons r rs=>
   obtain⟨t,o⟩:=r
   cases o<;>simp[ia,kN,asData]at h
 ·rfl
def rk(l:mO):Bool:=mB (l.map (·.2))&&decide ((l.map (·.1)).Nodup)
def JC:bD→Ty
 |(t,none)=>t
 |(t,some _)=>.list t
def JV(rc:List bD):List Nat:=rc.filterMap fun x=>x.2.map (·.1)
def Ob.kU(ob:Ob):List Nat:=ob.cC.flatMap JV
def mn(sig:dQ)(ob:Ob):List Nat:=cO sig.res++ob.outs.flatMap JV
def mR(P:Program)(σ:St)(pc:dI):List Bool→List Operand→List TypeId→Option (List (E×Ty)×List Nat)
 | [],[],[] =>some ([],[])
 |false::sh,x::r,t::ts=>match fK P σ pc x t,mR P σ pc sh r ts with
  |some e,some (es,ids)=>some (e::es,ids)
  |_,_=>none
 |true::sh,x::r,t::ts=>match gu P σ pc x t,mR P σ pc sh r ts with
  |some (.one (.r9 id 0)),some (es,ids)=>some (es,id::ids)
  |_,_=>none
 |_,_,_=>none
def xa(σ:St):List (List bD)→List Nat→Option (List (List E)×mO)
 | [],[] =>some ([],[])
 |rc::r,id::ids=>match σ.hp id with
  |some (false,cs)=>match ia σ rc cs,xa σ r ids with
   |some (es,l),some (zT,ls)=>some (es::zT,l++ls)
   |_,_=>none
  |_=>none
 |_,_=>none
def ja(l:List Bool):Nat:=(l.filter fun b=>b).length
def NY:bD:=(.box .nil,none)
def MS:List bD→List SC→Option Nat
 |r::rs,c::cs=>if r=NY then(match c with
  |.r9 id 0=>some id
  |_=>none) else MS rs cs
 |_,_=>none
def p3(σ:St)(ob:Ob)(ids:List Nat):List Nat:=
 if ja ob.shape<ob.cC.length then
  match ob.cC,ids with
  |rc::_,id::_=>match σ.hp id with
   |some (_,cs)=>ids++(MS rc cs).toList
   |none=>ids
  |_,_=>ids
 else ids
def F5(ob:Ob)(ids:List Nat):Option Nat:=if ja ob.shape<ob.cC.length then ids[ob.cC.length-1]? else none
def F6(l:Nat):List bD→List SC→Bool
 |r::rs,c::cs=>(decide (r≠NY)||decide (c= .r9 l 0))&&F6 l rs cs
 |_,_=>true
def BV(σ:St):List (List bD)→List Nat→Option Nat→Bool
 |rc::r,id::ids,some l=>(match σ.hp id with
  |some (_,cs)=>F6 l rc cs
  |none=>true)&&BV σ r ids (some l)
 |_,_,_=>true
def xH(lk:Option Nat):List bD→List SC→List SC
 |r::rs,c::cs=>(match lk with
  |some id=>if r=NY then .r9 id 0 else c
  |none=>c)::xH lk rs cs
 |_,cs=>cs
theorem D7(lk:Option Nat): ∀(rs:List bD) (cs:List SC),(xH lk rs cs).length=cs.length
 | [],cs=>by simp[xH]
 |_::_,[] =>by simp[xH]
 |r::rs,c::cs=>by simp[xH,D7 lk rs cs]
theorem vd{lk:Option Nat}: ∀{rs:List bD} {cs:List SC} {i:Nat} {c:SC},(xH lk rs cs)[i]? =some c→ ∃c0,cs[i]? =some c0∧(c=c0∨ ∃id,lk=some id∧rs[i]? =some NY∧c= .r9 id 0)
 | [],cs,i,c,h=>⟨c,by simpa [xH]using h,.inl rfl⟩
 |_::_,[],i,c,h=>by simp[xH]at h
 |r::rs,c1::cs,0,c,h=>by
  simp only[xH,dt,ae]at h
  refine⟨c1,rfl,?_⟩
  split at h
  ·rename_i id
   split at h
   ·rename_i hr;subst hr;exact .inr ⟨id,rfl,rfl,h.symm⟩
   ·exact .inl h.symm
  ·exact .inl h.symm
 |r::rs,c1::cs,i+1,c,h=>by
  simp only[xH,du]at h
  obtain⟨c0,h1,h2⟩:=vd h
  exact⟨c0,by simpa using h1,by simpa using h2⟩
theorem AI{l:Nat}: ∀{rs:List bD} {cs:List SC} {i:Nat} {c:SC},F6 l rs cs=true→rs[i]? =some NY→cs[i]? =some c→c= .r9 l 0
 | [],_,i,c,_,h,_=>by simp at h
 |_::_,[],i,c,_,_,h=>by simp at h
 |r::rs,c1::cs,0,c,h,h1,h2=>by
  simp only[dt,ae]at h1 h2
  subst h1 h2
  simp only[F6,bc,fB,bQ]at h
  exact h.1.resolve_left (fun hn=>hn rfl)
 |r::rs,c1::cs,i+1,c,h,h1,h2=>by
  simp only[F6,bc]at h
  exact AI h.2 (by simpa using h1) (by simpa using h2)
theorem D3{σ:St}{l:Nat}: ∀{rcs:List (List bD)} {ids:List Nat} {o:Nat} {rc:List bD} {id:Nat} {ro:Bool} {cs:List SC},BV σ rcs ids (some l)=true→rcs[o]? =some rc→ids[o]? =some id→σ.hp id=some (ro,cs)→F6 l rc cs=true
 | [],_,o,rc,id,ro,cs,_,h,_,_=>by simp at h
 |_::_,[],o,rc,id,ro,cs,_,_,h,_=>by simp at h
 |r::rs,i::is,0,rc,id,ro,cs,h,h1,h2,h3=>by
  simp only[dt,ae]at h1 h2
  subst h1 h2
  simp only[BV,h3,bc]at h
  exact h.1
 |r::rs,i::is,o+1,rc,id,ro,cs,h,h1,h2,h3=>by
  simp only[BV,bc]at h
  exact D3 h.2 (by simpa using h1) (by simpa using h2) h3
def Xv(lk:Option Nat)(p:Nat):Nat→List Nat→List (List bD)→List (Nat×Option (Bool×List SC))
 |k,id::ids,rc::r=>(id,some (false,xH lk rc (nf true p (.un (.cell k) (.var p)) 0 rc)))::Xv lk p (k+1) ids r
 |_,_,_=> []
def AZ(p:Nat):Nat→List (List bD)→List (Tag×Option (E×TypeId×Ty))
 |k,rc::r=>nW p (.un (.cell k) (.var p)) 0 rc++AZ p (k+1) r
 |_,[] => []
def mY(ob:Ob)(ids:List Nat)(p:Nat):List Nat:=if ob.mv then ids.take (ob.cC.length-1)++[p] else ids++if ob.new then [p] else []
def F3(ob:Ob)(ids:List Nat)(p:Nat):Option Nat:=if ob.mv then some p else F5 ob ids
def akJ:bD→Bool
 |(t,none)=>t.scalar
 |_=>true
structure qJ where
 k:Nat
 args:E
 sig:dQ
 ob:Ob
 ids:List Nat
 own:mO
def jP(P:Program)(cs:o3)(σ:St)(pc:dI)(o:Oper):Option qJ:=
 match o.op with
 |.call {callee:=.value f,args,argTypes}=>
  match gu P σ [] f 0 with
  |some (.one (.iW _ (.fn k .nil)))=>
   match lk cs.l k with
   |some sig=>
    match sig.ob with
    |some ob=>
     match mR P σ pc ob.shape args.toList argTypes.toList with
     |some (es,ids)=>
      match xa σ ob.cC (p3 σ ob ids) with
      |some (zT,l)=>
       if es.map (·.2)++ob.cC.flatten.map JC=sig.params∧(p3 σ ob ids).Nodup∧rk l=true∧(mn sig ob).Nodup∧(sig.res.all fun c=>c.1||c.2.length==1)=true∧
         ob.outs.length=(p3 σ ob ids).length+ob.new.toNat∧(ob.outs.all fun rc=>rc.all akJ)=true∧(p3 σ ob ids).length=ob.cC.length∧BV σ ob.cC (p3 σ ob ids) (F5 ob (p3 σ ob ids))=true∧(ob.mv=true→ja ob.shape<ob.cC.length) then
        some ⟨k,.dJ (es.map (·.1)++zT.flatten),sig,ob,p3 σ ob ids,l⟩
       else none
      |none=>none
     |none=>none
    |none=>none
   |none=>none
  |_=>none
 |_=>none
def qJ.Hj(x:qJ)(p:Nat)(dst:Option Nat):jI:=
 ⟨dst,([],if x.ob.new then .one (.r9 p 0) else xL true p (.un (.cell 0) (.var p)) x.sig.res),Xv (F3 x.ob x.ids p) p 1 (mY x.ob x.ids p) x.ob.outs++(if x.ob.mv then [(x.ids.getD (x.ob.cC.length-1) 0,none)] else []),
  (x.own.filterMap fun y=>y.2.map fun g=>(g,none))++(if x.ob.new then [] else qa p (.un (.cell 0) (.var p)) x.sig.res)++AZ p 1 x.ob.outs,x.ids,[.call p x.k x.args []]⟩
def xb(σ:St):List SC→Option (List E×List Ty×List Nat)
 | [] =>some ([],[],[])
 |c::r=>match xb σ r with
  |some (es,ts,ids)=>match asData c with
   |some (e,t)=>some (e::es,t::ts,ids)
   |none=>match c with
    |.r9 id 0=>match σ.hp id with
     |some (_,cs)=>match iO cs with
      |some (ds,us)=>some (.un .so (.dJ ds)::es,.box (.dJ us)::ts,id::ids)
      |none=>none
     |none=>none
    |_=>none
  |none=>none
def Ql(P:Program)(σ:St)(pc:dI)(x:Operand)(t:TypeId):Option (E×Ty×List Nat):=
 match fK P σ pc x t with
 |some (e,ty)=>some (e,ty,[])
 |none=>match gu P σ pc x t with
  |some (.one (.r9 id 0))=>match σ.hp id with
   |some (_,cs)=>match xb σ cs with
    |some (es,ts,ids)=>some (.un .so (.dJ es),.box (.dJ ts),id::ids)
    |none=>none
   |none=>none
  |_=>none
def Bb(P:Program)(σ:St)(pc:dI):List Operand→List TypeId→Option (List (E×Ty)×List Nat)
 | [],[] =>some ([],[])
 |x::r,t::ts=>match Ql P σ pc x t,Bb P σ pc r ts with
  |some (e,ty,i),some (es,ids)=>some ((e,ty)::es,i++ids)
  |_,_=>none
 |_,_=>none
def qM(P:Program)(cs:o3)(σ:St)(pc:dI)(o:Oper):Option (Nat×E×dQ×List Nat):=
 match o.op with
 |.call {callee:=.value f,args,argTypes}=>
  match gu P σ [] f 0,Bb P σ pc args.toList argTypes.toList with
  |some (.one (.iW _ (.fn k .nil))),some (es,ids)=>
   match lk cs.l k with
   |some sig=>
    if sig.ob.isNone=true∧es.map (·.2)=sig.params∧(cO sig.res).Nodup∧(sig.res.all fun c=>c.1||c.2.length==1)=true∧CC sig.res=true∧(pc.isEmpty||L0 sig.res)=true then
     some (k,.dJ (es.map (·.1)),sig,ids)
    else none
   |none=>none
  |_,_=>none
 |_=>none
def uY(P:Program)(σ:St)(pc:dI)(o:Oper):Option (Option Tag×E×E×TypeId×Ty×Nat):=
 match o.op with
 |.call {callee:=.builtin .append,args,argTypes}=>
  match args.toList,argTypes.toList with
  | [s,x],[t,t'] =>
   match P.underlying t,gu P σ pc s t,fK P σ pc x t with
   |some (.slice el),some sv,some (e2,.list u)=>
    match P.info? el,tyV P el with
    |some ie,some u'=>
     if t=t'∧u=u'∧u.cells.length=ie.size∧0<ie.size∧(u.cells.all Ty.scalar)=true∧((ie.zero.map fun z=>z.cells.size)=some ie.size)∧ie.bytes=u.bytes then
      match sv with
      |.one (.po v)=>if v=u then some (none,.nil,e2,el,u,ie.bytes) else none
      |.one (.own g _ v)=>match σ.live g with
       |some (e1,T,v')=>if v=u∧v'=u∧T=el∧g.ex=false then some (some g,e1,e2,el,u,ie.bytes) else none
       |none=>none
      |_=>none
     else none
    |_,_=>none
   |_,_,_=>none
  |_,_=>none
 |_=>none
def pL(P:Program)(σ:St)(o:Oper):Option (E×E×TypeId×Ty×Nat):=
 match o.op with
 |.call {callee:=.builtin .append,args,argTypes}=>
  match args.toList,argTypes.toList with
  | [s,x],[t,t'] =>
   match P.underlying t,gu P σ [] s t,fK P σ [] x t with
   |some (.slice el),some (.one (.clip e1 v)),some (e2,.list u)=>
    match P.info? el,tyV P el with
    |some ie,some u'=>
     if t=t'∧u=u'∧u.cells.length=ie.size∧0<ie.size∧(u.cells.all Ty.scalar)=true∧((ie.zero.map fun z=>z.cells.size)=some ie.size)∧ie.bytes=u.bytes∧v=u then some (e1,e2,el,u,ie.bytes) else none
    |_,_=>none
   |_,_,_=>none
  |_,_=>none
 |_=>none
def SC.akZ:SC→Bool
 |.xo .. =>true
 |_=>false
def SV.abK:SV→Bool
 |.one c=>c.akZ
 |.agg l=>l.any SC.akZ
 |.fx _=>false
def tN(σ:St)(g:Tag)(t:Ty):Option (E×TypeId):=
 match σ.live g with
 |some (e,T,t')=>if t'=t∧g.ex=true∧0<t.cells.length then some (e,T) else none
 |none=>none
def Mq(u:Ty)(el:E)(off:Nat)(es:List E):Option E:=
 match u,es with
 |.agg fs,es=>some (.un .agg (.dJ (((kK el 0 fs.aV).map (·.1)).take off++es++((kK el 0 fs.aV).map (·.1)).drop (off+es.length))))
 |u,[x] =>if off=0∧u.scalar=true then some x else none
 |_,_=>none
def yC(e i x:E):E:=.bin .cat (.bin .take e i) (.cons x (.bin .drop (.bin .drop e i) (.aT .i64 1)))
def Oc(P:Program)(σ:St)(o:Oper):Option jI:=
 match o.op with
 |.load t x=>
  if(P.underlying t).isNone then none else
  match gu P σ [] x t with
  |some (.one (.xC g i u off))=>match tN σ g u with
   |some (e,T)=>(rV P t (.bin .idx e i) u off).map fun s=>⟨o.dst,([],s.1),[],[(g,some (e,T,u))],[],[]⟩
   |none=>none
  |_=>none
 |_=>none
def HD(P:Program)(σ:St)(o:Oper):Option jI:=
 match o.op with
 |.store t x y=>
  match gu P σ [] x t,((gu P σ [] y t).bind oc).bind iO,jF P t with
  |some (.one (.xC g i u off)),some (es,ts),some n=>match tN σ g u with
   |some (e,T)=>
    if es.length=n∧off+n≤u.cells.length∧ts=(u.cells.drop off).take n∧(ts.all Ty.scalar)=true∧o.dst=none then
     (Mq u (.bin .idx e i) off es).map fun x=>⟨none,([],.agg []),[],[(g,some (yC e i x,T,u))],[],[]⟩
    else none
   |none=>none
  |_,_,_=>none
 |_=>none
def XV(P:Program)(σ:St)(o:Oper):Option jI:=
 match o.op with
 |.call {callee:=.builtin .len,args,argTypes}=>
  match args.toList,argTypes[0]? with
  | [x],some t=>match P.underlying t,gu P σ [] x t with
   |some (.slice _),some (.one (.xo g u))=>match tN σ g u with
    |some (e,T)=>some ⟨o.dst,([],.one (.iW (.un .len e) (.int .i64))),[],[(g,some (e,T,u))],[],[]⟩
    |none=>none
   |_,_=>none
  |_,_=>none
 |_=>none
def HF(P:Program)(σ:St)(o:Oper):Option jI:=
 match o.op with
 |.indexAddr t x i=>
  match P.underlying t,gu P σ [] x t,fK P σ [] i t with
  |some (.slice el),some (.one (.xo g u)),some (ie,.int k)=>match tN σ g u with
   |some (e,T)=>
    if jF P el=some u.cells.length then
     some ⟨o.dst,([],.one (.xC g ie u 0)),[],[(g,some (e,T,u))],[],[.lM [] (.bin .and (.bin .le (.aT k 0) ie) (.bin .lt ie (.un .len e)))]⟩
    else none
   |none=>none
  |_,_,_=>none
 |_=>none
def Dw(P:Program)(σ:St)(o:Oper):Option (Option Tag×E×E×TypeId×Ty×Nat):=
 match o.op with
 |.call {callee:=.builtin .append,args,argTypes}=>
  match args.toList,argTypes.toList with
  | [s,x],[t,t'] =>
   match P.underlying t,gu P σ [] s t,fK P σ [] x t with
   |some (.slice el),some sv,some (e2,.list u)=>
    match P.info? el,tyV P el with
    |some ie,some u'=>
     if t=t'∧u=u'∧u.cells.length=ie.size∧0<ie.size∧(u.cells.all Ty.scalar)=true∧((ie.zero.map fun z=>z.cells.size)=some ie.size)∧ie.bytes=u.bytes then
      match sv with
      |.one (.po v)=>if v=u then some (none,.nil,e2,el,u,ie.bytes) else none
      |.one (.xo g v)=>match tN σ g v with
       |some (e1,T)=>if v=u∧T=el then some (some g,e1,e2,el,u,ie.bytes) else none
       |none=>none
      |_=>none
     else none
    |_,_=>none
   |_,_,_=>none
  |_,_=>none
 |_=>none
def Ib(P:Program)(σ:St)(p:Nat)(o:Oper):Option jI:=
 match Dw P σ o with
 |some (g,e1,e2,T,t,b)=>some ⟨o.dst,([],.one (.xo (p,1000) t)),[],(match g with|some g=> [(g,none)] |none=> [])++[((p,1000),some (.bin .cat e1 e2,T,t))],[],[.room [] (.bin .cat e1 e2) b]⟩
 |none=>none
def XU(P:Program)(σ:St)(p:Nat)(o:Oper):Option jI:=
 match Am P σ o with
 |some (e,T,t,_)=>some ⟨o.dst,([],.one (.xo (p,1000) t)),[],[((p,1000),some (e,T,t))],[],[]⟩
 |none=>none
def pz(σ:St):SC→Option ((E×Ty)×List (Tag×Option (E×TypeId×Ty)))
 |.xo g t=>match tN σ g t with
  |some (e,T)=>some ((e,.list t),[(g,some (e,T,t))])
  |none=>none
 |c=>(asData c).map fun x=>(x,[])
def lf(σ:St):List SC→Option ((List E×List Ty)×List (Tag×Option (E×TypeId×Ty)))
 | [] =>some (([],[]),[])
 |c::r=>match pz σ c,lf σ r with
  |some ((e,t),l),some ((es,ts),ls)=>some ((e::es,t::ts),l++ls)
  |_,_=>none
def oU(σ:St):SV→Option ((E×Ty)×List (Tag×Option (E×TypeId×Ty)))
 |.one c=>pz σ c
 |.agg l=>match lf σ l with
  |some ((es,ts),ls)=>some ((.un .agg (.dJ es),.agg (.dJ ts)),ls)
  |none=>none
 |.fx _=>none
def tP(P:Program)(σ:St)(pc:dI):List Operand→List TypeId→Option (List (E×Ty)×List (Tag×Option (E×TypeId×Ty)))
 | [],[] =>some ([],[])
 |x::r,t::ts=>match (gu P σ pc x t).bind (oU σ),tP P σ pc r ts with
  |some (e,l),some (es,ls)=>some (e::es,l++ls)
  |_,_=>none
 |_,_=>none
def Oe(P:Program)(cs:o3)(σ:St)(p:Nat)(o:Oper):Option jI:=
 match o.op with
 |.call {callee:=.value f,args,argTypes}=>
  match gu P σ [] f 0,tP P σ [] args.toList argTypes.toList with
  |some (.one (.iW _ (.fn k .nil))),some (es,l)=>
   match lk cs.l k with
   |some sig=>
    if sig.ob.isNone=true∧es.map (·.2)=sig.params∧(cO sig.res).Nodup∧(sig.res.all fun c=>c.1||c.2.length==1)=true∧(sig.res.all fun c=>c.2.all bD.bare)=true then
     some ⟨o.dst,([],ny true p sig.res),[],l++iy p sig.res,[],[.call p k (.dJ (es.map (·.1))) []]⟩
    else none
   |none=>none
  |_,_=>none
 |_=>none
def Aj(P:Program)(cs:o3)(σ:St)(pc:dI)(p:Nat)(o:Oper):Option jI:=
 match o.op with
 |.call {callee:=.value f,args,argTypes}=>
  match gu P σ [] f 0,tP P σ pc args.toList argTypes.toList with
  |some (.one (.iW _ (.fn k .nil))),some (es,l)=>
   match lk cs.l k with
   |some sig=>
    if sig.ob.isNone=true∧es.map (·.2)=sig.params∧cO sig.res=[] ∧L0 sig.res=true∧(sig.res.all fun c=>c.1||c.2.length==1)=true∧(sig.res.all fun c=>c.2.all bD.bare)=true then
     some ⟨o.dst,(pc,ny false p sig.res),[],l,[],[.call p k (.dJ (es.map (·.1))) pc]⟩
    else none
   |none=>none
  |_,_=>none
 |_=>none
def Gc(P:Program)(σ:St)(x:Operand×TypeId):Bool:=match gu P σ [] x.1 x.2 with|some s=>s.abK|none=>false
def H9(P:Program)(σ:St)(pc:dI)(x:Operand×TypeId):Bool:=match gu P σ pc x.1 x.2 with|some s=>s.abK|none=>false
def HE(P:Program)(σ:St)(pc:dI)(o:Oper):Bool:=
 match o.op with
 |.call {callee:=.value _,args,argTypes}=>(args.toList.zip argTypes.toList).any (H9 P σ pc)
 |_=>false
def Od(P:Program)(cs:o3)(σ:St)(o:Oper):Nat:=
 match o.op with
 |.load t x=>match gu P σ [] x t with|some (.one (.xC ..))=>1|_=>0
 |.store t x _=>match gu P σ [] x t with|some (.one (.xC ..))=>2|_=>0
 |.indexAddr t x _=>match gu P σ [] x t with|some (.one (.xo ..))=>4|_=>0
 |.call {callee:=.builtin .len,args,argTypes}=>match args.toList,argTypes.toList with
  | [x],[t] =>match gu P σ [] x t with|some (.one (.xo ..))=>3|_=>0
  |_,_=>0
 |.call {callee:=.builtin .append,args,argTypes}=>match args.toList,argTypes.toList with
  |x::_,t::_=>match gu P σ [] x t with
   |some (.one (.xo ..))=>5
   |some (.one (.po _))=>match o.dst with|some d=>if cs.ex.contains d then 5 else 0|none=>0
   |_=>0
  |_,_=>0
 |.buildSlice .. =>match o.dst with|some d=>if cs.ex.contains d then 6 else 0|none=>0
 |.makeSlice .. =>match o.dst with|some d=>if cs.ex.contains d then 6 else 0|none=>0
 |.call {callee:=.value _,args,argTypes}=>if(args.toList.zip argTypes.toList).any (Gc P σ) then 7 else 0
 |_=>0
def Tp(P:Program)(cs:o3)(σ:St)(p:Nat)(o:Oper):Nat→Option jI
 |1=>Oc P σ o
 |2=>HD P σ o
 |3=>XV P σ o
 |4=>HF P σ o
 |5=>Ib P σ p o
 |6=>XU P σ p o
 |_=>Oe P cs σ p o
def Mu:Op→Nat
 |.alloc _| .box .. =>1
 |.store .. =>2
 |.makeFunc .. =>3
 |.call {callee:=.value _,.. }=>4
 |.call {callee:=.builtin .append,.. }=>5
 |.buildSlice .. =>6
 |.makeMap .. =>7
 |.mapUpdate .. =>8
 |_=>0
def sY(P:Program)(cs:o3)(ops:Array Oper)(σ:St)(p:Nat)(o:Oper):Option jI:=
 match guardOf ops σ o with
 |none=>none
 |some pc=>
  match Mu o.op with
  |1=>match Dd P σ pc o with
   |some l=>if pc=[] ∧l.all SC.scalar=true then some ⟨o.dst,(pc,.one (.r9 p 0)),[(p,some (false,l))],[],[],[]⟩ else none
   |none=>none
  |2=>match yQ P σ pc o with
   |some (id,l)=>if pc=[] ∧l.all SC.scalar=true∧o.dst=none then some ⟨none,([],.agg []),[(id,some (false,l))],[],[id],[]⟩ else none
   |none=>none
  |3=>match SE P σ pc o with
   |some (e,t,fz)=>some ⟨o.dst,(pc,.one (.iW e t)),fz.map fun x=>(x.1,some (true,x.2)),[],fz.map (·.1),[]⟩
   |none=>none
  |4=>match An P cs σ pc o with
   |some (k,e,sig)=>some ⟨o.dst,(pc,ny pc.isEmpty p sig.res),[],if pc.isEmpty then iy p sig.res else [],[],[.call p k e pc]⟩
   |none=>match jP P cs σ [] o with
    |some x=>if pc=[] then some (x.Hj p o.dst) else none
    |none=>match qM P cs σ pc o with
     |some (k,e,sig,rd)=>if cs.fr=0 then some ⟨o.dst,(pc,ny pc.isEmpty p sig.res),[],if pc.isEmpty then iy p sig.res else [],rd,[.call p k e pc]⟩ else none
     |none=>none
  |5=>match pL P σ o with
   |some (e1,e2,T,t,b)=>
    if pc=[] then some ⟨o.dst,([],.one (.own (p,0) (.bin .cat e1 e2) t)),[],[((p,0),some (.bin .cat e1 e2,T,t))],[],[.room [] (.bin .cat e1 e2) b,.lM [] (.bin .lt (.aT .i64 0) (.un .len e2))]⟩ else none
   |none=>match uY P σ pc o with
    |some (g,e1,e2,T,t,b)=>
     if pc=[] then
      some ⟨o.dst,(pc,.one (.own (p,0) (.bin .cat e1 e2) t)),[],(match g with|some g=> [(g,none)] |none=> [])++[((p,0),some (.bin .cat e1 e2,T,t))],[],[.room pc (.bin .cat e1 e2) b]⟩
     else none
    |none=>none
  |6=>match tM P σ pc o with
   |some (e,T,t,_)=>
    if pc.isEmpty then some ⟨o.dst,(pc,.one (.own (p,0) e t)),[],[((p,0),some (e,T,t))],[],[]⟩
    else some ⟨o.dst,(pc,.one (.iW e (.list t))),[],[],[],[]⟩
   |none=>none
  |_=>match tc P σ pc o with
   |some ((s,is),rd)=>some ⟨o.dst,(pc,s),[],[],rd,is⟩
   |none=>none
def Ga(P:Program)(cs:o3)(ops:Array Oper)(σ:St)(p:Nat)(o:Oper):Option jI:=
 match o.guard,Od P cs σ o with
 |none,k+1=>Tp P cs σ p o (k+1)
 |some _,_=>match guardOf ops σ o with
  |some pc=>if HE P σ pc o then Aj P cs σ pc p o else sY P cs ops σ p o
  |none=>none
 |_,_=>sY P cs ops σ p o
def Ir:SC→Bool
 |.iW _ t=>t.bare
 |.po _=>true
 |.own .. =>true
 |_=>false
def D6:SV→Bool
 |.one (.own ..)=>true
 |.one (.po _)=>true
 |.one (.iW _ (.list u))=>u.cells.all Ty.bare
 |.one (.clip _ u)=>u.cells.all Ty.bare
 |_=>false
def sw(P:Program)(σ:St)(pc:dI)(o:Oper):Option (List SC):=
 match o.op with
 |.buildSlice t len parts=>
  match P.underlying t with
  |some (.slice el)=>
   match P.info? el,flat P J9 el,n9 P σ pc (fun _=>el) parts.toList with
   |some ie,some ts,some ps=>
    match ie.zero.bind fun z=>n6 ts z.cells.toList with
    |some zs=>xO (fun i=>some (i*ie.size,ie.size)) ((List.range (len*ie.size)).map fun j=>zs.getD (j % zs.length) (.po .nil)) ps
    |none=>none
   |_,_,_=>none
  |_=>none
 |_=>none
def frN(j:Nat):Bool:=decide (500≤j)&&decide (j<1000)
def bD.fr:bD→Bool
 |(t,none)=>t.bare
 |(t,some (j,_))=>t.cells.all Ty.bare||frN j
def abM(res:List (Bool×List bD)):Bool:=res.all fun c=>c.2.all bD.fr
def SG(res:List (Bool×List bD)):Bool:=(cO res).all fun j=> !frN j
def yy(P:Program)(cs:o3)(σ:St)(pc:dI)(o:Oper):Bool:=
 match o.op with
 |.call {callee:=.value f,.. }=>match gu P σ pc f 0 with
  |some (.one (.iW _ (.fn k _)))=>match F2 cs o.dst k with
   |some sig=>abM sig.res&&sig.ob.isNone&&L0 sig.res
   |none=>false
  |_=>false
 |.call {callee:=.builtin .append,args,argTypes}=>match args.toList,argTypes.toList with
  | [s,x],[_,t'] =>match gu P σ pc s t',gu P σ pc x t' with
   |some (.one (.clip _ u)),_=>u.cells.all Ty.bare
   |_,some sv=>D6 sv
   |_,_=>false
  |_,_=>false
 |.buildSlice .. =>match sw P σ pc o with
  |some cs=>cs.all Ir
  |none=>false
 |_=>true
def Ar(P:Program)(cs:o3)(ops:Array Oper)(σ:St)(p:Nat)(o:Oper):Option jI:=
 match cs.fr with
 |0=>Ga P cs ops σ p o
 |1=>match guardOf ops σ o with
  |some pc=>if yy P cs σ pc o then sY P cs ops σ p o else none
  |none=>none
 |_=>if Mu o.op<3 then sY P cs ops σ p o else none
structure xJ(ex:Bool)(w:World)(base:Nat)(S:bU)(T:TypeId)(t:Ty)(v:Value)(d:D):Prop where
 has:Has (.list t) d
 sz:0<t.cells.length
 own: ∃xs l,d= .list l∧w.ownsRow base T t.cells.length v l.length xs∧(∀b,v.ownBlock=some b→ ∀o,S b o↔ex=false∧o<xs.length)∧
  ∀(i:Nat) d (j:Nat) v c,l[i]? =some d→d.cells[j]? =some c→xs[i*t.cells.length+j]? =some v→cH w S v c
def k7(w:World)(base:Nat)(S:bU)(τ:Nat→Value):bD→Value→D→Prop
 |(t,none),v,d=>cH w S v d∧Has t d
 |(t,some (j,T)),v,d=>v=τ j∧xJ (Fe j) w base S T t (τ j) d
def hH(w:World)(base:Nat)(S:bU)(τ:Nat→Value)(c:Bool×List bD)(v:Value)(d:D):Prop:=
 if c.1 then∃(vs:List Value) (ds:List D),v= .agg vs.toArray∧d= .agg ds∧vs.length=c.2.length∧ds.length=c.2.length∧
  ∀(i:Nat) x u y,c.2[i]? =some x→vs[i]? =some u→ds[i]? =some y→k7 w base S τ x u y
 else∃x,c.2=[x] ∧k7 w base S τ x v d
def iL(w:World)(base:Nat)(S:bU)(τ:Nat→Value)(res:List (Bool×List bD))(v:Value)(d:D):Prop:=
 (∃c,res=[c] ∧hH w base S τ c v d)∨
 (res.length≠1∧ ∃(vs:List Value) (ds:List D),v= .tuple vs.toArray∧d= .fx ds∧vs.length=res.length∧ds.length=res.length∧
  ∀(i:Nat) x u y,res[i]? =some x→vs[i]? =some u→ds[i]? =some y→hH w base S τ x u y)
def Gd(w:World)(S:bU)(τ:Nat→Value)(rc:List bD)(b:Nat)(cells:List D):Prop:=
 ∃(jZ:List Value) (T:TypeId),w.heap[b]? =some (.cells jZ.toArray T (0,0))∧jZ.length=rc.length∧cells.length=rc.length∧
  (∀(i:Nat) r v d,rc[i]? =some r→jZ[i]? =some v→cells[i]? =some d→k7 w 0 S τ r v d)∧ ∀o,¬S b o
def uN(w:World)(S:bU)(β:Nat→Nat):List Bool→Nat→List Value→List D→Prop
 | [],_,[],[] =>True
 |true::sh,o,v::vs,ds=>v= .pointer (some ⟨β o,0,none⟩)∧uN w S β sh (o+1) vs ds
 |false::sh,o,v::vs,d::ds=>cH w S v d∧uN w S β sh o vs ds
 |_,_,_,_=>False
def xB(ob:Ob)(β:Nat→Nat)(τ:Nat→Value)(b:Nat):Prop:=(∃o,o<ob.cC.length∧b=β o)∨ ∃j,j∈ob.kU∧(τ j).ownBlock=some b
structure Ge(w:World)(S:bU)(ob:Ob)(β:Nat→Nat)(τ:Nat→Value)(vs:List Value)(dd:List D)(oo:List (List D)):Prop where
 lt: ∀b o,S b o→b<w.heap.size
 args:uN w S β ob.shape 0 vs dd
 len:oo.length=ob.cC.length
 cC: ∀(o:Nat) rc cells,ob.cC[o]? =some rc→oo[o]? =some cells→Gd w S τ rc (β o) cells
 inj: ∀i j,i<ob.cC.length→j<ob.cC.length→β i=β j→i=j
 own: ∀j k b,j∈ob.kU→k∈ob.kU→(τ j).ownBlock=some b→(τ k).ownBlock=some b→j=k
 eV: ∀j o b,j∈ob.kU→o<ob.cC.length→(τ j).ownBlock=some b→b≠β o
 link:ja ob.shape<ob.cC.length→ ∀(o c:Nat) rc,ob.cC[o]? =some rc→rc[c]? =some NY→w.cell? ⟨β o,c,none⟩=some (.pointer (some ⟨β (ob.cC.length-1),0,none⟩))
def lF(ob:Ob)(β:Nat→Nat)(βn:Nat)(o:Nat):Nat:=if o<ob.cC.length∧ ¬(ob.mv=true∧o=ob.cC.length-1) then β o else βn
structure VT(w:World)(S:bU)(sig:dQ)(ob:Ob)(β:Nat→Nat)(τ:Nat→Value)(v:Value)(d:D)(w':World)(S':bU)(τ':Nat→Value)(βn:Nat):Prop where
 below:hU (xB ob β τ) w w'
 kJ: ∀b o,S b o→S' b o
 lt: ∀b o,S' b o→b<w'.heap.size
 new: ∀b o,S' b o→S b o∨w.heap.size≤b∨xB ob β τ b
 keep: ∀b o,S b o→w'.cell? ⟨b,o,none⟩=w.cell? ⟨b,o,none⟩
 res: ∃(d0:D) (outs:List (List D)),d= .fx (d0::outs.map .agg)∧outs.length=ob.outs.length∧
  (if ob.new then v= .pointer (some ⟨βn,0,none⟩)∧w.heap.size≤βn else iL w' 0 S' τ' sig.res v d0)∧
  ∀(o:Nat) rc cells,ob.outs[o]? =some rc→outs[o]? =some cells→Gd w' S' τ' rc (lF ob β βn o) cells
 gS: ∀j b,j∈mn sig ob→(τ' j).ownBlock=some b→w.heap.size≤b∨xB ob β τ b
 own: ∀j k b,j∈mn sig ob→k∈mn sig ob→(τ' j).ownBlock=some b→(τ' k).ownBlock=some b→j=k
 eV: ∀j o b,j∈mn sig ob→o<ob.outs.length→(τ' j).ownBlock=some b→b≠lF ob β βn o
 link:ja ob.shape<ob.cC.length→ ∀(o c:Nat) rc,ob.outs[o]? =some rc→rc[c]? =some NY→w'.cell? ⟨lF ob β βn o,c,none⟩=some (.pointer (some ⟨lF ob β βn (ob.cC.length-1),0,none⟩))
 mvd:ob.mv=true→βn=β (ob.cC.length-1)∨w.heap.size≤βn
structure acU(w:World)(T:TypeId)(v:Value)(unit:Bool)(ys:List Int)(u v':Value)(w':World):Prop where
 res:if unit then v'=v else u=v'
 own:w'.ownsRow 0 T 1 v' ys.length (ys.map (Value.int .i64))
 CJ:v'.ownBlock=v.ownBlock
 below:hU (fun b=>v.ownBlock=some b) w w'
structure bh(P:Program)(f:Nat)(sig:dQ)(Pre:List D→Prop)(Φ:List D→D):Prop where
 enter: ∀(args:Array Value) (w:World),(callFunc f args).run P w= .ok (.enter f args) w
 calls:sig.ob=none→ ∀(w:World) (S:bU) (vs:List Value) (ds:List D),(∀b o,S b o→b<w.heap.size)→vs.length=ds.length→(∀(i:Nat) v d,vs[i]? =some v→ds[i]? =some d→cH w S v d)→
  dK (.dJ sig.params) ds→Pre ds→
  Calls P f vs.toArray w fun e w'=> ∃v S' τ,e= .returned v∧Below w.heap.size w w'∧(∀b o,S b o→S' b o)∧(∀b o,S' b o→b<w'.heap.size)∧(∀b o,S' b o→S b o∨w.heap.size≤b)∧
   iL w' 0 S' τ sig.res v (Φ ds)∧(∀j b,j∈cO sig.res→(τ j).ownBlock=some b→w.heap.size≤b)∧(∀j k b,j∈cO sig.res→k∈cO sig.res→(τ j).ownBlock=some b→(τ k).ownBlock=some b→j=k)∧
   ∀j,j∈cO sig.res→frN j=true→Cl (fun b=>w.heap.size≤b) w' S' (τ j)
 Dx: ∀ob,sig.ob=some ob→ob.Ae=false→ ∀(w:World) (S:bU) (β:Nat→Nat) (τ:Nat→Value) (vs:List Value) (dd:List D) (oo:List (List D)),Ge w S ob β τ vs dd oo→
  dK (.dJ sig.params) (dd++oo.flatten)→Pre (dd++oo.flatten)→
  Calls P f vs.toArray w fun e w'=> ∃v S' τ' βn,e= .returned v∧VT w S sig ob β τ v (Φ (dd++oo.flatten)) w' S' τ' βn
 Mt: ∀ob,sig.ob=some ob→ob.Ae=true→ ∀(w:World) (T:TypeId) (v:Value) (zs:List Int),w.ownsRow 0 T 1 v zs.length (zs.map (Value.int .i64))→Has (.list (.int .i64)) (.list (zs.map (D.int .i64)))→Pre [.list (zs.map (D.int .i64))] →
  Calls P f #[v] w fun e w'=> ∃(u v':Value) (ys:List Int),e= .returned u∧Φ [.list (zs.map (D.int .i64))] = .list (ys.map (D.int .i64))∧Has (.list (.int .i64)) (.list (ys.map (D.int .i64)))∧acU w T v sig.res.isEmpty ys u v' w'
structure ao4(P:Program)(f:Nat)(sg:DO)(Pre:List D→Prop)(Φ:List D→D):Prop where
 enter: ∀(args:Array Value) (w:World),(callFunc f args).run P w= .ok (.enter f args) w
 calls: ∀(w:World) (S:bU) (vs:List Value) (ds:List D) (vo:Value) (lo:D) (bm:Nat) (lm:D),(∀b o,S b o→b<w.heap.size)→vs.length=ds.length→(∀(i:Nat) v d,vs[i]? =some v→ds[i]? =some d→cH w S v d)→
  dK (.dJ sg.ps) ds→xJ true w 0 S sg.T sg.t vo lo→Has (.list sg.kt) lm→yN P w bm sg.TM sg.kt lm.aV→(∀o,¬S bm o)→Pre (ds++[lo,lm])→
  Calls P f (vs++[vo,.map (some bm)]).toArray w fun e w'=> ∃v S',e= .returned v∧hU (fun b=>vo.ownBlock=some b∨b=bm) w w'∧(∀b o,S b o→S' b o)∧(∀b o,S' b o→b<w'.heap.size)∧
   (∀b o,S' b o→S b o∨w.heap.size≤b∨vo.ownBlock=some b∨b=bm)∧(∀b o,S b o→w'.cell? ⟨b,o,none⟩=w.cell? ⟨b,o,none⟩)∧xJ true w' 0 S' sg.T sg.t v (Φ (ds++[lo,lm]))∧
   ∀b,v.ownBlock=some b→w.heap.size≤b∨vo.ownBlock=some b∨b=bm
structure YA(P:Program)(f:Nat)(sF:dQ)(Pre:List D→Prop)(Φ:List D→D):Prop where
 new:bh P f sF (fun ds=>Pre ds∧((Φ ds).aV.getD 0 .top).ic=false) Φ
 nil: ∀ob,sF.ob=some ob→ ∀(w:World) (S:bU) (β:Nat→Nat) (τ:Nat→Value) (vs:List Value) (dd:List D) (oo:List (List D)),Ge w S ob β τ vs dd oo→dK (.dJ sF.params) (dd++oo.flatten)→Pre (dd++oo.flatten)→
  ((Φ (dd++oo.flatten)).aV.getD 0 .top).ic=true→Calls P f vs.toArray w fun e w'=>e= .returned (.pointer none)∧Below w.heap.size w w'
structure Mh(P:Program)(cs:o3)(S0:iu)(Φ:Nat→List D→D)(Pre:Nat→List D→Prop):Prop where
 fr:S0.fr→cs.fr=1
 wz:S0.wz→cs.fr=2
 prog:S0.prog=P
 keys: ∀T kt,lk cs.mp T=some kt→acV P T kt
 eat: ∀k sg,lk cs.et k=some sg→sg.nn=none→ao4 P k sg (Pre k) (Φ k)
 nn: ∀k sg sF t,lk cs.et k=some sg→sg.nn=some (sF,t)→YA P k sF (Pre k) (Φ k)
theorem Ko{w w':World}{S S':bU}{t:Ty}{v:Value}{d:D}(hb:t.bare=true)(ht:Has t d)(h:cH w S v d):cH w' S' v d:=by
 cases t<;>simp[Ty.bare]at hb
 ·obtain⟨n,rfl,_⟩:=dA.1 ht;rw[h.cX];exact .int _ _
 ·obtain⟨n,rfl⟩:=dz.1 ht;rw[h.iE];exact .bool _
 ·obtain⟨n,rfl⟩:=oa.1 ht;rw[h.Io];exact .str _
theorem ZB(j:Nat):Fe (j+1000)=true:=by unfold Fe;exact decide_eq_true (by omega)
theorem pG(res:List (Bool×List bD)):cO (yK res)=(cO res).map (· +1000):=by
 induction res with
 |nil=>rfl
 |cons c r ih=>
  have h1: ∀l:List bD,(l.map sW).filterMap (fun x=>x.2.map (·.1))=(l.filterMap (fun x=>x.2.map (·.1))).map (· +1000):=by
   intro l
   induction l with
   |nil=>rfl
   |cons a l Xw=>
    obtain⟨t,o⟩:=a
    cases o with
    |none=>simpa [sW]using Xw
    |some y=>simp only[cZ,sW,List.filterMap_cons,aP,Xw]
  have e1:cO (yK (c::r))=(c.2.map sW).filterMap (fun x=>x.2.map (·.1))++cO (yK r):=rfl
  have e2:cO (c::r)=c.2.filterMap (fun x=>x.2.map (·.1))++cO r:=rfl
  rw[e1,e2,ih,h1,cz]
theorem GW{w w0:World}{S S':bU}{τ:Nat→Value}{c:bD}{v:Value}{d:D}(hb:c.bare=true)(hS: ∀b o,S b o→b<w0.heap.size)
  (jN: ∀T j,c.2=some (j,T)→ ∀b,(τ j).ownBlock=some b→w0.heap.size≤b) (h:k7 w 0 S' τ c v d):
  k7 w 0 S (fun j=>τ (j-1000)) (sW c) v d:=by
 obtain⟨t,o⟩:=c
 cases o with
 |none=>
  obtain⟨h1,h2⟩:=h
  exact⟨Ko hb h2 h1,h2⟩
 |some y=>
  obtain⟨j,T⟩:=y
  obtain⟨h1,h2⟩:=h
  have ju:t.cells.all Ty.bare=true:=hb
  rw[cn]at ju
  refine⟨by rw[h1];simp,?_⟩
  have e1:(fun j=>τ (j-1000)) (j+1000)=τ j:=by simp
  rw[e1,ZB]
  obtain⟨k1,k2,xs,l,hl,dm,hf,hr⟩:=h2
  refine⟨k1,k2,xs,l,hl,dm,?_,?_⟩
  ·intro b xz o
   refine⟨fun hs=> ?_,fun hs=>Bool.noConfusion hs.1⟩
   have h3:=hS b o hs
   have h4:=jN T j rfl b xz
   omega
  ·intro i x k u y h3 h4 h5
   obtain⟨l',lD,_,hx⟩:=bK.1 k1
   rw[hl]at lD
   injection lD with lD
   subst lD
   have hxt:=hx x (ca h3)
   obtain⟨h6,h7⟩:=cN hxt
   have hk:k<t.cells.length:=by rw[←h6];exact(aH.1 h4).1
   have hu:t.cells[k]? =some t.cells[k] :=aW hk
   obtain⟨z,hz,hzt⟩:=h7 k _ hu
   rw[h4]at hz
   injection hz with hz
   subst hz
   exact Ko (ju _ (aX hk)) hzt (hr i x k u y h3 h4 h5)
theorem GV{w w0:World}{S S':bU}{τ:Nat→Value}{c:Bool×List bD}{v:Value}{d:D}(hb:(c.2.all bD.bare)=true)(hS: ∀b o,S b o→b<w0.heap.size)
  (jN: ∀x∈c.2,∀T j,x.2=some (j,T)→ ∀b,(τ j).ownBlock=some b→w0.heap.size≤b) (h:hH w 0 S' τ c v d):
  hH w 0 S (fun j=>τ (j-1000)) (c.1,c.2.map sW) v d:=by
 rw[cn]at hb
 unfold hH at*
 split
 ·rename_i hc
  rw[if_pos hc]at h
  obtain⟨vs,ds,h1,h2,h3,h4,h5⟩:=h
  refine⟨vs,ds,h1,h2,by simpa using h3,by simpa using h4,fun i x u y hx hu hy=> ?_⟩
  simp only[ah,da]at hx
  obtain⟨x0,jL,rfl⟩:=hx
  exact GW (hb _ (ca jL)) hS (jN x0 (ca jL)) (h5 i x0 u y jL hu hy)
 ·rename_i hc
  rw[if_neg hc]at h
  obtain⟨x,hx,h1⟩:=h
  refine⟨sW x,by simp[hx],?_⟩
  have hm:x∈c.2:=by rw[hx];simp
  exact GW (hb x hm) hS (jN x hm) h1
theorem iL.auo{w:World}{base:Nat}{S:bU}{τ:Nat→Value}{res:List (Bool×List bD)}{v:Value}{d:D}(h:iL w base S τ res v d){j:Nat}(hj:j∈cO res):
  ∃(t:Ty) (T:TypeId) (d':D),xJ (Fe j) w base S T t (τ j) d'∧ ∃c∈res,(t,some (j,T))∈c.2:=by
 obtain⟨c,hc,hj⟩:=dh.1 hj
 obtain⟨⟨t,x⟩,hx,hxj⟩:=bH.1 hj
 simp only[da]at hxj
 obtain⟨⟨j',T⟩,rfl,rfl⟩:=hxj
 have comp: ∀v d,hH w base S τ c v d→ ∃d',xJ (Fe j') w base S T t (τ j') d':=by
  intro v d h
  unfold hH at h
  split at h
  ·obtain⟨vs,ds,_,_,h1,h2,h3⟩:=h
   obtain⟨i,hi⟩:=aE hx
   have iJ:i<c.2.length:=(aH.1 hi).1
   exact⟨_,(h3 i _ _ _ hi (aW (by omega)) (aW (by omega))).2⟩
  ·obtain⟨y,hy,h3⟩:=h
   rw[hy]at hx
   simp only[aA]at hx
   subst hx
   exact⟨_,h3.2⟩
 rcases h with⟨c',Hi,h⟩|⟨_,vs,ds,_,_,h1,h2,h3⟩
 ·rw[Hi]at hc
  simp only[aA]at hc
  subst hc
  obtain⟨d',h'⟩:=comp _ _ h
  exact⟨t,T,d',h',c,by rw[Hi];simp,hx⟩
 ·obtain⟨i,hi⟩:=aE hc
  have iJ:i<res.length:=(aH.1 hi).1
  obtain⟨d',h'⟩:=comp _ _ (h3 i _ _ _ hi (aW (by omega)) (aW (by omega)))
  exact⟨t,T,d',h',c,hc,hx⟩
def rh(res:List (Bool×List bD))(τ:Nat→Value):Nat→Value:=fun j=>if j∈cO res then τ j else .nilIface
theorem iL.akw{w:World}{base:Nat}{S:bU}{τ:Nat→Value}{res:List (Bool×List bD)}{v:Value}{d:D}(h:iL w base S τ res v d):iL w base S (rh res τ) res v d:=by
 have comp: ∀c∈res,∀v d,hH w base S τ c v d→hH w base S (rh res τ) c v d:=by
  intro c hc v d h
  have cell: ∀x∈c.2,∀v d,k7 w base S τ x v d→k7 w base S (rh res τ) x v d:=by
   rintro⟨t,x⟩ hx v d h
   cases x with
   |none=>exact h
   |some y=>
    obtain⟨j,T⟩:=y
    have hj:j∈cO res:=dh.2 ⟨c,hc,bH.2 ⟨_,hx,rfl⟩⟩
    have e1:rh res τ j=τ j:=if_pos hj
    show v=rh res τ j∧xJ (Fe j) w base S T t (rh res τ j) d
    rw[e1];exact h
  unfold hH at*
  split
  ·rename_i h1
   rw[if_pos h1]at h
   obtain⟨vs,ds,a1,a2,a3,a4,a5⟩:=h
   exact⟨vs,ds,a1,a2,a3,a4,fun i x u y hx hu hy=>cell x (ca hx) u y (a5 i x u y hx hu hy)⟩
  ·rename_i h1
   rw[if_neg h1]at h
   obtain⟨x,hx,h2⟩:=h
   exact⟨x,hx,cell x (by rw[hx];simp) _ _ h2⟩
 rcases h with⟨c,hc,h⟩|⟨h0,vs,ds,a1,a2,a3,a4,a5⟩
 ·exact .inl ⟨c,hc,comp c (by rw[hc];simp) _ _ h⟩
 ·exact .inr ⟨h0,vs,ds,a1,a2,a3,a4,fun i x u y hx hu hy=>comp x (ca hx) u y (a5 i x u y hx hu hy)⟩
theorem Ei{w:World}{S:bU}{X:Nat→Prop}{t:Ty}{v:Value}{d:D}(hb:t.bare=true)(ht:Has t d)(h:cH w S v d):oJ X v:=by
 cases t<;>simp[Ty.bare]at hb
 ·obtain⟨n,rfl,_⟩:=dA.1 ht;rw[h.cX];trivial
 ·obtain⟨n,rfl⟩:=dz.1 ht;rw[h.iE];trivial
 ·obtain⟨n,rfl⟩:=oa.1 ht;rw[h.Io];trivial
theorem qQ{w:World}{S:bU}{X:Nat→Prop}{t:Ty}{l:List D}{xs:List Value}(hb:(t.cells.all Ty.bare)=true)(ir:0<t.cells.length)(iG: ∀x∈l,Has t x)(hlen:xs.length=l.length*t.cells.length)
  (hr: ∀(i:Nat) d (j:Nat) v c,l[i]? =some d→d.cells[j]? =some c→xs[i*t.cells.length+j]? =some v→cH w S v c): ∀u∈xs,oJ X u:=by
 intro u hu
 obtain⟨q,hq⟩:=aE hu
 have FU:q<xs.length:=(aH.1 hq).1
 have hi:q/t.cells.length<l.length:=by rw[fL ir,←hlen];exact FU
 have hj:q % t.cells.length<t.cells.length:=Nat.mod_lt _ ir
 have hd:l[q/t.cells.length]? =some (l[q/t.cells.length]'hi):=aW hi
 have jA:t.cells[q % t.cells.length]? =some (t.cells[q % t.cells.length]'hj):=aW hj
 obtain⟨cc,qt,Hw⟩:=(cN (iG _ (ca hd))).2 _ _ jA
 have XF:q/t.cells.length*t.cells.length+q % t.cells.length=q:=by rw[Nat.mul_comm];exact Nat.div_add_mod _ _
 exact Ei (cn.1 hb _ (aX hj)) Hw (hr _ _ _ u cc hd qt (by rw[XF];exact hq))
theorem WB{w w0:World}{S0:iu}{S:bU}{T:TypeId}{t:Ty}{v:Value}{d:D}(hb:(t.cells.all Ty.bare)=true)(jN: ∀b,v.ownBlock=some b→kA w0 S0 b)(h:xJ false w 0 S T t v d):Cl (kA w0 S0) w S v:=by
 intro a n cap hv
 obtain⟨iR,iY,xs,l,rfl,dm,hS,hr⟩:=h
 obtain⟨l',lD,_,iG⟩:=bK.1 iR
 injection lD with lD;subst lD
 rcases dm.2 with⟨hn,_⟩|⟨b,HB,cur,pn,_⟩
 ·rw[hn];exact .inl rfl
 ·have fX:v.ownBlock=some b:=by rw[pn];rfl
  rw[pn]
  by_cases hl:l.length=0
  ·exact .inl hl
  ·refine .inr ⟨b,0,rfl,fun b'=>b'=b,?_,rfl⟩
   rintro b' rfl
   have ir:0<xs.length:=by rw[dm.1];exact Nat.mul_pos (by omega) iY
   have hcz: ∃cur T,w.heap[b']? =some (.cells cur T (0,0)):=by
    rcases dm.2 with⟨hn,_⟩|⟨b2,awy,awv,Jo,_,AV,_⟩
    ·rw[hn]at fX;cases fX
    ·rw[Jo]at fX
     simp only[Value.ownBlock,ae]at fX
     subst fX
     exact⟨_,_,AV⟩
   refine⟨jN b' fX,⟨0,(hS b' fX 0).2 ⟨rfl,ir⟩⟩,hcz,fun o u hs hu=> ?_⟩
   have ho:=((hS b' fX o).1 hs).2
   have h3:=dm.cells (g:=b') fX o xs[o] (aW ho)
   rw[gF,ay,hu]at h3
   injection h3 with h3
   subst h3
   exact qQ hb iY iG dm.1 hr _ (aX ho)
theorem iL.fresh{w w0:World}{S0:iu}{S:bU}{τ:Nat→Value}{res:List (Bool×List bD)}{v:Value}{d:D}(h:iL w 0 S τ res v d)(hb:abM res=true)(hx:L0 res=true)
  (jN: ∀j b,j∈cO res→(τ j).ownBlock=some b→kA w0 S0 b) (afl: ∀j,j∈cO res→frN j=true→Cl (kA w0 S0) w S (τ j)): ∀j,Cl (kA w0 S0) w S (rh res τ j):=by
 intro j
 unfold rh
 split
 ·rename_i hj
  obtain⟨t,T,d',h1,c,hc,hm⟩:=h.auo hj
  have Aa:=cn.1 (cn.1 hb c hc) _ hm
  have hxt:=cn.1 (cn.1 hx c hc) _ hm
  have hex:Fe j=false:=by simpa using hxt
  rw[hex]at h1
  have Tl:(t.cells.all Ty.bare||frN j)=true:=Aa
  rcases (fB _ _).mp Tl with Tl|Tl
  ·exact WB Tl (fun b ju=>jN j b hj ju) h1
  ·exact afl j hj Tl
 ·exact Cl.nilIface
theorem vz{C:Cx}{w:World}{G:Gh}{N:Nat→Prop}{c:SC}{v:Value}(hf:Ir c=true)(nk: ∀g,Cl N w G.S (G.τ g))(hr:tJ C w G c v):oJ (Cm N w G.S) v:=by
 cases c with
 |iW e t=>exact Ei hf hr.2.2 hr.2.1
 |po t=>simp only[tJ]at hr;subst hr;exact .inl rfl
 |own g e t=>
  obtain⟨_,_,h3,h4,h5⟩:=hr
  obtain⟨l,hl,_⟩:=bK.1 h4
  rw[hl]at h3
  obtain⟨a,cap,hv⟩:=h3.qd
  exact h5▸nk g a _ cap (by rw[←h5];exact hv)
 |_=>cases hf
theorem Na{w:World}{S:bU}{N:Nat→Prop}{v:Value}{l:List D}{A:Option Addr}{k c:Nat}{news:List Value}(hv:oJ (Cm N w S) v)(h:cH w S v (.list l))(hk: ∀d∈l,d.cells.length=k)(E7:v= .slice A l.length c)
  (yo:news.length=l.length*k) (zZ: ∀ad,A=some ad→ ∀(j:Nat) u,news[j]? =some u→w.cell? (ad.add j)=some u): ∀u∈news,oJ (Cm N w S) u:=by
 intro u hu
 obtain⟨q,hq⟩:=aE hu
 have FU:q<news.length:=(aH.1 hq).1
 cases h with
 |nil ad cap=>rw[yo]at FU;simp at FU
 |list b off cap sz xs _ iY fY ke hl hS hc hw hr=>
  have aeW:sz=k:=by
   cases qC:l with
   |nil=>exact absurd qC fY
   |cons d r=>rw[←hw 0 d (by rw[qC];rfl)];exact hk d (by rw[qC];simp)
  subst aeW
  injection E7 with h1 h2 h3
  rcases hv with hv|⟨b',o',h5,h6⟩
  ·exact absurd (au hv) fY
  ·simp only[ae,Addr.mk.injEq]at h5
   obtain⟨rfl,rfl,_⟩:=h5
   have h7:=zZ _ h1.symm q u hq
   rw[gF]at h7
   exact(Cm.set N w S b h6).2.2.2 _ u (hS q (by omega)) h7
theorem NA{res:List (Bool×List bD)}{c:Bool×List bD}{x:bD}{j:Nat}{T:TypeId}(hc:c∈res)(hx:x∈c.2)(h:x.2=some (j,T)):j∈cO res:=
 dh.2 ⟨c,hc,bH.2 ⟨x,hx,by rw[h];rfl⟩⟩
theorem bh.atG{P:Program}{f:Nat}{sig:dQ}{Pre:List D→Prop}{Φ:List D→D}(h:bh P f sig Pre Φ)(fX:sig.ob=none)(hb:CC sig.res=true):bh P f (Dq sig) Pre Φ:=by
 refine⟨h.enter,fun _ w S vs ds hS hlen jf jA ks=> ?_,fun ob h1=> ?_,fun ob h1=> ?_⟩
 ·refine(h.calls fX w S vs ds hS hlen jf jA ks).mono ?_
  rintro e w' ⟨v,S',τ,rfl,lG,h1,h2,h3,h4,h5,h6,_⟩
  unfold CC at hb
  rw[cn]at hb
  refine⟨v,S,fun j=>τ (j-1000),rfl,lG,fun _ _ h=>h,fun b o hs=>ar (hS b o hs) lG.size,fun _ _ h=>.inl h,?_,?_,?_,?_⟩
  ·have jN: ∀c∈sig.res,∀x∈c.2,∀T j,x.2=some (j,T)→ ∀b,(τ j).ownBlock=some b→w.heap.size≤b:=
    fun c hc x hx T j hj b xz=>h5 j b (NA hc hx hj) xz
   rcases h4 with⟨c,hc,h4⟩|⟨fY,G4,ds',h7,h8,h9,RR,XS⟩
   ·refine .inl ⟨(c.1,c.2.map sW),by simp[Dq,yK,hc],?_⟩
    have hm:c∈sig.res:=by rw[hc];simp
    exact GV (hb c hm) hS (jN c hm) h4
   ·refine .inr ⟨by simpa [Dq,yK]using fY,G4,ds',h7,h8,by simpa [Dq,yK]using h9,by simpa [Dq,yK]using RR,fun i x u y hx hu hy=> ?_⟩
    simp only[Dq,yK,ah,da]at hx
    obtain⟨c,hc,rfl⟩:=hx
    have hm:=ca hc
    exact GV (hb c hm) hS (jN c hm) (XS i c u y hc hu hy)
  ·intro j b hj hjb
   have BT:j∈(cO sig.res).map (· +1000):=by rw[←pG];exact hj
   obtain⟨k,hk,rfl⟩:=bB.1 BT
   exact h5 k b hk (by simpa using hjb)
  ·intro j k b hj hk hjb hkb
   have BT:j∈(cO sig.res).map (· +1000):=by rw[←pG];exact hj
   have N5:k∈(cO sig.res).map (· +1000):=by rw[←pG];exact hk
   obtain⟨j0,XL,rfl⟩:=bB.1 BT
   obtain⟨k0,RM,rfl⟩:=bB.1 N5
   rw[h6 j0 k0 b XL RM (by simpa using hjb) (by simpa using hkb)]
  ·intro j hj hfj
   have BT:j∈(cO sig.res).map (· +1000):=by rw[←pG];exact hj
   obtain⟨k,_,rfl⟩:=bB.1 BT
   exfalso
   unfold frN at hfj
   simp only[bc,bQ]at hfj
   omega
 ·exact absurd h1 (by show sig.ob≠some ob;rw[fX];simp)
 ·exact absurd h1 (by show sig.ob≠some ob;rw[fX];simp)
theorem V0{P:Program}{cs:o3}{Φ:Nat→List D→D}{Pre:Nat→List D→Prop}{dst:Option Nat}{k:Nat}{sig:dQ}(h:F2 cs dst k=some sig)(iF: ∀k sig,lk cs.l k=some sig→bh P k sig (Pre k) (Φ k)):bh P k sig (Pre k) (Φ k):=by
 unfold F2 at h
 split at h
 ·rename_i s hs
  split at h
  ·rename_i hc
   injection h with h;subst h
   exact(iF k s hs).atG hc.2.1 hc.2.2
  ·injection h with h;subst h;exact iF k _ hs
 ·cases h
section
variable{P:Program}{C:Cx}{w w0:World}{S0:iu}{G:Gh}{σ:St}{a:Act}{o:Oper}{pc:dI}{s:SV}{is:List Item}{Φ:Nat→List D→D}{Pre:Nat→List D→Prop}{n p:Nat}
theorem QN{rd:List Nat}(hm:fp w0 S0 C G σ w)(ht:jO C w G σ.tm a)(eu:aU C.ρ pc=true)(hP:S0.prog=P)(h:HL P σ pc o=some ((s,is),rd)):kX P C w G a o s:=by
 unfold HL at h
 split at h
 ·rename_i T m x ho
  split at h
  ·rename_i id ek kt hgm hgx
   split at h
   ·rename_i ro cs fD
    split at h
    ·rename_i e kt' T' BZ
     split at h
     ·rename_i hc
      obtain⟨rfl,rfl⟩:=hc
      injection h with h;simp only[ai]at h;obtain⟨⟨rfl,rfl⟩,rfl⟩:=h
      obtain⟨_,_,fZ,_⟩:=hm.box _ _ _ fD
      unfold kY at fZ
      rw[BZ]at fZ
      obtain⟨k1,k2,k3⟩:=fZ
      obtain⟨q1,q2,q3⟩:=dX ht eu hgx
      have hv:=(cK ht eu hgm).2
      rw[hP]at k3
      have fh:=k3.lookup q2 q3
      refine⟨.bool ((den C.ρ e).aV.any fun z=>z.keq (den C.ρ ek)),?_,?_⟩
      ·unfold execOp;simp only[ho,hv]
       rw[bA,fh];rfl
      ·exact⟨by simp[E.lt,k1,q1],.bool _,dz.2 ⟨_,rfl⟩⟩
     ·cases h
    ·cases h
   ·cases h
  ·cases h
 ·cases h
end
section
variable{α β:Type}[DecidableEq α]
theorem dM(h:α→β):fg h [] =h:=by funext x;rfl
theorem vY(h:α→β)(k:α)(v:β)(l:List (α×β)):fg h ((k,v)::l)=fun x=>if x=k then v else fg h l x:=by
 funext x
 simp only[fg,lk]
 split<;>rename_i h1
 ·by_cases hx:x=k
  ·rw[if_pos hx]at h1;injection h1 with h1;rw[if_pos hx,h1]
  ·rw[if_neg hx]at h1;rw[if_neg hx,h1]
 ·by_cases hx:x=k
  ·rw[if_pos hx]at h1;cases h1
  ·rw[if_neg hx]at h1;rw[if_neg hx,h1]
theorem Kg(h:Nat→β)(k:Nat)(v:β):fg h [(k,v)] =fU h k v:=by
 rw[vY];funext x;simp only[dM,fU]
theorem jK: ∀{l:List (α×β)} {x:α} {v:β},lk l x=some v→(x,v)∈l
 | [],_,_,h=>by cases h
 |(k,u)::r,x,v,h=>by
  simp only[lk]at h
  split at h
  ·rename_i hx;injection h with h;subst h;subst hx;simp
  ·exact aI _ (jK h)
end
section
variable{P:Program}{C:Cx}{w w0:World}{S0:iu}{G:Gh}{σ:St}{a:Act}{o:Oper}{pc:dI}{s:SV}{is:List Item}{Φ:Nat→List D→D}{Pre:Nat→List D→Prop}{n p:Nat}
theorem fp.congr{σ':St}(h:fp w0 S0 C G σ w)(h1:σ'.hp=σ.hp)(h2:σ'.live=σ.live):fp w0 S0 C G σ' w:=by
 obtain⟨tm,hp,live⟩:=σ
 obtain⟨tm',XG,live'⟩:=σ'
 simp only at h1 h2
 subst h1;subst h2
 exact⟨h.below,h.kW,h.keep,h.si,h.mQ,h.dO,h.iN,h.pb,h.box,h.inj,h.own,h.gS,h.kM,h.eV,h.fresh,h.wz⟩
theorem Nr{rd:List Nat}(hm:fp w0 S0 C G σ w)(ht:jO C w G σ.tm a)(eu:aU C.ρ pc=true)(hP:S0.prog=P)(h:tc P σ pc o=some ((s,is),rd))(iw: ∀it∈is,eU C Φ Pre it):kX P C w G a o s:=by
 unfold tc at h
 have strip: ∀{x:Option Pl},x.map (·,([] :List Nat))=some ((s,is),rd)→x=some (s,is):=by
  intro x hx
  simp only[da,ai]at hx
  obtain⟨y,h1,h2,_⟩:=hx
  rw[h1,h2]
 split at h
 ·exact QO hm ht eu h
 ·exact Gu ht eu (strip h)
 ·exact Gu ht eu (strip h)
 ·exact QM ht eu (strip h)
 ·exact QQ ht eu (strip h) iw
 ·exact O7 ht eu (strip h)
 ·exact O7 ht eu (strip h)
 ·exact IN ht eu (strip h)
 ·exact ER ht eu (strip h)
 ·exact Ns ht eu (strip h)
 ·exact EP ht eu (strip h) iw
 ·exact Wd ht eu (strip h) iw
 ·exact Nq ht eu (strip h) iw
 ·exact K2 ht eu (strip h) iw
 ·exact Nt ht eu (strip h)
 ·exact QN hm ht eu hP h
 ·exact DX ht eu (strip h)
 ·exact DX ht eu (strip h)
 ·exact DX ht eu (strip h)
 ·cases h
def ahh:Value→Option Bool
 |.bool b=>some b
 |_=>none
theorem gg{ops:Array Oper}(ht:jO C w G σ.tm a)(h:guardOf ops σ o=some pc):Region.wanted o (yielded ops a.tmps)=aU C.ρ pc∧ ∀x∈pc,x.1.lt C.N=true:=by
 unfold guardOf at h
 unfold Region.wanted
 split at h
 ·rename_i hg
  injection h with h;subst h
  rw[hg];exact⟨rfl,by simp⟩
 ·rename_i j want hg
  rw[hg]
  split at h
  ·rename_i t hj
   split at h
   ·rename_i c e yd
    injection h with h;subst h
    obtain⟨v,h1,h2,h0,h3⟩:=ht t c _ yd
    have hy:yielded ops a.tmps j=ahh v:=by
     unfold yielded;rw[hj];simp only[cu,h1]
     cases v<;>rfl
    refine⟨?_,fun x hx=> ?_⟩
    ·show(yielded ops a.tmps j==some want)=aU C.ρ ((e,want)::c)
     rw[hy]
     have aoD:aU C.ρ ((e,want)::c)=(((den C.ρ e).gV==want)&&aU C.ρ c):=rfl
     rw[aoD]
     by_cases hc:aU C.ρ c=true
     ·rw[if_pos hc]at h3
      obtain⟨_,k2,k3⟩:=h3
      obtain⟨b,hb⟩:=dz.1 k3
      have hv:=(hb▸k2).iE
      rw[hv,hb,hc,Bool.and_true]
      show(some b==some want)=(b==want)
      cases b<;>cases want<;>rfl
     ·rw[if_neg hc]at h3
      have:aU C.ρ c=false:=by simpa using hc
      rw[this,Bool.and_false,h3];rfl
    ·rcases aM.1 hx with rfl|hx
     ·exact h0
     ·exact h2 x hx
   ·cases h
  ·cases h
def fQ(P:Program)(n:Nat)(w0:World)(S0:iu)(C:Cx)(σ':St)(p:Nat)(ops:Array Oper)(a:Act)(w:World)(o:Oper):Prop:=
 ∀(K:Act→World→Prop) (Q:Exit→Act→World→Prop),(∀a' w' G',iq n w0 S0 (C.add p) G' σ' a' w'→K a' w')→
  if Region.wanted o (yielded ops a.tmps) then o.wp P a w K Q else K (a.put o.dst undef) w
theorem Act.DW(a:Act)(d:Option Nat)(v:Value):(a.put d v).tmps.size=a.tmps.size:=by
 cases d<;>simp[Act.put]
theorem Act.O5(a:Act)(d:Option Nat)(v:Value):(a.put d v).defers=a.defers:=by
 cases d<;>rfl
theorem iq.step{e:jI}{w':World}{G':Gh}{v:Value}(hs:iq n w0 S0 C G σ a w)(cp:dT C w G (C.add p) w' G')(hm:fp w0 S0 (C.add p) G' (e.app σ) w')
  (hd:e.dst=o.dst) (bP:e.yh.2.lt C.N=true) (hc: ∀x∈e.yh.1,x.1.lt C.N=true) (hv:(∃d,o.dst=some d)→if aU C.ρ e.yh.1 then Ab (C.add p) w' G' e.yh.2 v else v=undef)
  (eT: ∀d,o.dst=some d→d<n):iq n w0 S0 (C.add p) G' (e.app σ) (a.put o.dst v) w':=by
 refine⟨hm,?_,by rw[Act.DW];exact hs.sz,by rw[Act.O5];exact hs.defers⟩
 cases z8:o.dst with
 |none=>
  have yd:(e.app σ).tm=σ.tm:=by unfold jI.app;rw[hd,z8]
  rw[yd];exact hs.t.later cp
 |some d=>
  have yd:(e.app σ).tm=fU σ.tm d (some (e.yh.1,e.yh.2)):=by unfold jI.app;rw[hd,z8]
  rw[yd]
  exact(hs.t.later cp).put (some d) v e.yh.1 e.yh.2 hc bP (hv ⟨d,z8⟩) (fun i hi=>by rw[hs.sz];exact eT i (by rw[z8];exact hi))
theorem FD{ops:Array Oper}{rd:List Nat}(hs:iq n w0 S0 C G σ a w)(hg:guardOf ops σ o=some pc)(h:tc P σ pc o=some ((s,is),rd))(bP:s.lt C.N=true)
  (iw: ∀it∈is,eU C Φ Pre it) (eT: ∀d,o.dst=some d→d<n) (hP:S0.prog=P):
  fQ P n w0 S0 C ((⟨o.dst,(pc,s),[],[],rd,is⟩:jI).app σ) p ops a w o:=by
 intro K Q hK
 obtain⟨hw,hc⟩:=gg hs.t hg
 have hm:fp w0 S0 (C.add p) G ((⟨o.dst,(pc,s),[],[],rd,is⟩:jI).app σ) w:=(hs.m.pV p).congr (dM _) (dM _)
 have cp:=dT.pV C w G p
 rw[hw]
 cases eu:aU C.ρ pc with
 |true=>
  obtain⟨v,h1,h2⟩:=Nr hs.m hs.t eu hP h iw
  simp only[if_true]
  unfold Oper.wp
  rw[h1]
  exact hK _ _ _ (hs.step (o:=o) (e:=⟨o.dst,(pc,s),[],[],rd,is⟩) cp hm rfl bP hc (by intro _;simp only[eu,if_true];exact h2.later cp) eT)
 |false=>
  simp only[ak,if_false]
  exact hK _ _ _ (hs.step (o:=o) (e:=⟨o.dst,(pc,s),[],[],rd,is⟩) cp hm rfl bP hc (by intro _;simp only[eu,ak,if_false]) eT)
theorem QF{l:List SC}(ht:jO C w G σ.tm a)(eu:aU C.ρ pc=true)(h:Dd P σ pc o=some l)(mf:l.all SC.scalar=true):
  ∃(vs:List Value) (T:TypeId),(execOp a.eval o).run P w= .ok (.value (.pointer (some ⟨w.heap.size,0,none⟩))) (w.alloc (.cells vs.toArray T))∧lA C w G l vs:=by
 unfold Dd at h
 split at h
 ·rename_i t ho
  split at h
  ·rename_i ts z rH hz
   refine⟨z.cells.toList,t,?_,td h⟩
   cases hi:P.info? t with
   |none=>simp[hi]at hz
   |some it=>
    simp[hi]at hz
    unfold execOp;simp only[ho,Instr.alloc]
    simp[zeroValue,typeInfo,hi,hz,newVar,newRow]
  ·rename_i z rH hz
   split at h
   ·rename_i hzc
    injection h with h;subst h
    refine⟨z.cells.toList,t,?_,by rw[hzc];rfl,?_⟩
    ·cases hi:P.info? t with
     |none=>simp[hi]at hz
     |some it=>
      simp[hi]at hz
      unfold execOp;simp only[ho,Instr.alloc]
      simp[zeroValue,typeInfo,hi,hz,newVar,newRow]
    ·rw[hzc]
     intro i c v hc hv
     match i,hc,hv with
     |0,hc,hv=>
      simp at hc hv
      subst hc hv
      exact .inl rfl
     |k+1,hc,hv=>simp at hc
   ·cases h
  ·cases h
 ·rename_i t x ho
  cases hg:gu P σ pc x t with
  |none=>simp[hg]at h
  |some sv=>
   simp only[hg,cu]at h
   obtain⟨vs,hv,hr⟩:=tk h (cK ht eu hg) mf
   refine⟨vs,t,?_,hr⟩
   unfold execOp;simp only[ho,Instr.box]
   simp[newVar,newRow,hv]
 ·cases h
theorem KU{ops:Array Oper}{l:List SC}(hs:iq n w0 S0 C G σ a w)(hp: ¬C.M p)(hg:guardOf ops σ o=some [])(h:Dd P σ [] o=some l)(mf:l.all SC.scalar=true)
  (eT: ∀d,o.dst=some d→d<n):
  fQ P n w0 S0 C ((⟨o.dst,([],.one (.r9 p 0)),[(p,some (false,l))],[],[],[]⟩:jI).app σ) p ops a w o:=by
 intro K Q hK
 obtain⟨hw,_⟩:=gg hs.t hg
 rw[hw]
 simp only[aU,bW,if_true]
 obtain⟨vs,T,h1,h2⟩:=QF hs.t (pc:=[]) rfl h mf
 unfold Oper.wp
 rw[h1]
 obtain⟨cp,hm⟩:=hs.m.alloc hp h2 mf T
 exact hK _ _ _ (hs.step (o:=o) (e:=⟨o.dst,([],.one (.r9 p 0)),[(p,some (false,l))],[],[],[]⟩) cp (hm.congr (Kg _ _ _) (dM _)) rfl rfl (by simp)
  (by intro _;simp only[aU,bW,if_true];exact⟨.inr rfl,by simp[fU]⟩) eT)
theorem FC{ops:Array Oper}{id:Nat}{l:List SC}(hs:iq n w0 S0 C G σ a w)(hg:guardOf ops σ o=some [])(h:yQ P σ [] o=some (id,l))(mf:l.all SC.scalar=true)(hd:o.dst=none):
  fQ P n w0 S0 C ((⟨none,([],.agg []),[(id,some (false,l))],[],[id],[]⟩:jI).app σ) p ops a w o:=by
 intro K Q hK
 obtain⟨hw,_⟩:=gg hs.t hg
 rw[hw]
 simp only[aU,bW,if_true]
 unfold yQ at h
 split at h
 ·rename_i t x y ho
  split at h
  ·rename_i Xx off cs sz hx hy iY
   split at h
   ·rename_i BQ fD
    split at h
    ·rename_i lQ
     obtain⟨E2,hl,hle⟩:=lQ
     obtain⟨rfl,rfl⟩:=jC h
     obtain⟨_,aBC,fZ,_⟩:=hs.m.box _ _ _ fD
     obtain⟨vs,T,z6,hr⟩:=fZ.cells E2
     have E7:=(cK hs.t (pc:=[]) rfl hx).2
     cases hgy:gu P σ [] y t with
     |none=>simp[hgy]at hy
     |some sv=>
      simp only[hgy,cu]at hy
      have P5:cs.all SC.scalar=true:=by
       rw[List.all_append,List.all_append]at mf
       simp only[bc]at mf;exact mf.1.2
      obtain⟨us,hv,XD⟩:=tk hy (cK hs.t (pc:=[]) rfl hgy) P5
      have jN:=hr.UZ XD hle
      have kv: ∀u∈us,u.oneCell'=true:=by
       intro u hu
       obtain⟨i,hi⟩:=aE hu
       have iJ:i<us.length:=(aH.1 hi).1
       have N9:cs[i]? =some (cs[i]'(by rw[←XD.1];exact iJ)):=aW _
       exact(XD.2 i _ u N9 hi).ko (cn.1 P5 _ (ca N9))
      have oZ:=run_storeCells_at P (G.β Xx) off T us 0 vs.toArray w z6 (by simp[XD.1,hr.1];exact hle) kv
      simp only[ep]at oZ
      have fh:(execOp a.eval o).run P w= .ok .skip (w.setRow (G.β Xx) (vs.take off++us++vs.drop (off+us.length)).toArray):=by
       have h1:=jd (P:=P) (w:=w) iY
       unfold execOp;simp only[ho,E7,Instr.storeAt,Instr.sureAddr]
       simp[storeVar,h1,hv,XD.1,hl,oZ]
      unfold Oper.wp
      rw[fh]
      obtain⟨cp,hm⟩:=hs.m.afG fD E2 jN mf
      have J3:=cp.trans (dT.pV C _ G p)
      exact hK _ _ _ (hs.step (o:=o) (e:=⟨none,([],.agg []),[(Xx,some (false,BQ.take off++cs++BQ.drop (off+cs.length)))],[],[Xx],[]⟩) J3 ((hm.pV p).congr (Kg _ _ _) (dM _)) hd.symm rfl (by simp)
       (v:=undef) (by rintro⟨d,kO⟩;rw[hd]at kO;cases kO) (by intro d kO;rw[hd]at kO;cases kO))
    ·cases h
   ·cases h
  ·cases h
 ·cases h
end
section
variable{P:Program}{C:Cx}{w w0:World}{S0:iu}{G:Gh}{σ:St}{a:Act}{o:Oper}{pc:dI}{s:SV}{is:List Item}{Φ:Nat→List D→D}{Pre:Nat→List D→Prop}{n p:Nat}
theorem fp.Pg(hm:fp w0 S0 C G σ w): ∀(fz:List (Nat×List SC)),(∀x∈fz,∃ro,σ.hp x.1=some (ro,x.2)∧mapOf x.2=none)→
  ∃G',dT C w G C w G'∧fp w0 S0 C G' {σ with hp:=fg σ.hp (fz.map fun x=>(x.1,some (true,x.2)))} w∧(∀x∈fz,∀o,o<x.2.length→G'.S (G.β x.1) o)∧G'.β=G.β
 | [],_=>⟨G,dT.refl C w G,hm.congr (dM _) rfl,by simp,rfl⟩
 |(id,cs)::fz,h=>by
  obtain⟨G1,l1,m1,c1,b1⟩:=fp.Pg hm fz (fun x hx=>h x (aI _ hx))
  obtain⟨ro,fD,E2⟩:=h (id,cs) (by simp)
  simp only at fD E2
  have afg: ∃Ji,fg σ.hp (fz.map fun x=>(x.1,some (true,x.2))) id=some (Ji,cs):=by
   unfold fg
   cases hl:lk (fz.map fun x=>(x.1,some (true,x.2))) id with
   |none=>exact⟨ro,fD⟩
   |some v=>
    have:=jK hl
    simp only[bB,ai]at this
    obtain⟨x,hx,rfl,rfl⟩:=this
    obtain⟨ro2,h2,_⟩:=h x (aI _ hx)
    rw[fD]at h2
    injection h2 with h2;simp only[ai]at h2
    exact⟨true,by rw[h2.2]⟩
  obtain⟨Ji,afg⟩:=afg
  obtain⟨G2,l2,m2,c2,b2,_⟩:=m1.freeze (id:=id) (ro:=Ji) (cs:=cs) afg E2
  refine⟨G2,l1.trans l2,?_,?_,by rw[b2,b1]⟩
  ·refine m2.congr ?_ rfl
   show fg σ.hp ((id,some (true,cs))::fz.map fun x=>(x.1,some (true,x.2)))=fU (fg σ.hp (fz.map fun x=>(x.1,some (true,x.2)))) id (some (true,cs))
   rw[vY];rfl
  ·intro x hx o ho
   rcases aM.1 hx with rfl|hx
   ·rw[←b1];exact c2 o ho
   ·exact l2.S _ _ (c1 x hx o ho)
theorem Ed: ∀{l:List Operand} {es:List (E×Ty)} {fz:List (Nat×List SC)},uM P σ pc l=some (es,fz)→ ∀x∈fz,∃ro,σ.hp x.1=some (ro,x.2)∧mapOf x.2=none
 | [],es,fz,h=>by simp only[uM,ae,ai]at h;obtain⟨rfl,rfl⟩:=h;simp
 |y::l,es,fz,h=>by
  simp only[uM]at h
  split at h
  ·rename_i id wY Xn hg hr
   split at h
   ·rename_i ro cs fD
    split at h
    ·rename_i qC
     obtain⟨rfl,rfl⟩:=jC h
     intro x hx
     rcases aM.1 hx with rfl|hx
     ·exact⟨ro,fD,jV qC⟩
     ·exact Ed hr x hx
    ·cases h
   ·cases h
  ·rename_i e fs wY Xn hg hr
   obtain⟨rfl,rfl⟩:=jC h
   exact Ed hr
  ·cases h
theorem Ec(hm:fp w0 S0 C G σ w)(ht:jO C w G σ.tm a)(eu:aU C.ρ pc=true){G':Gh}(cp:dT C w G C w G'): ∀{l:List Operand} {es:List (E×Ty)} {fz:List (Nat×List SC)},uM P σ pc l=some (es,fz)→
  (∀x∈fz,∀o,o<x.2.length→G'.S (G.β x.1) o)→es.length=l.length∧ ∀(i:Nat) x e,l[i]? =some x→es[i]? =some e→e.1.lt C.N=true∧cH w G'.S (a.eval x) (den C.ρ e.1)∧Has e.2 (den C.ρ e.1)
 | [],es,fz,h,_=>by simp only[uM,ae,ai]at h;obtain⟨rfl,rfl⟩:=h;exact⟨rfl,by intro i x e hi;simp at hi⟩
 |y::l,es,fz,h,hS=>by
  simp only[uM]at h
  split at h
  ·rename_i id wY Xn hg hr
   split at h
   ·rename_i ro cs fD
    split at h
    ·rename_i ds ts qC
     obtain⟨rfl,rfl⟩:=jC h
     obtain⟨k1,k2⟩:=Ec hm ht eu cp hr (fun x hx=>hS x (aI _ hx))
     refine⟨by simp[k1],fun i x e hi he=> ?_⟩
     cases i with
     |succ i=>exact k2 i x e (by simpa using hi) (by simpa using he)
     |zero=>
      simp at hi he;subst hi;subst he
      have hv:=(cK ht eu hg).2
      obtain⟨_,_,fZ,_⟩:=hm.box _ _ _ fD
      obtain⟨vs,T,jq,pT⟩:=fZ.cells (jV qC)
      obtain⟨m1,m2,m3,m4,m5⟩:=n4 qC pT
      have hd:den C.ρ (.un .so (.dJ ds))= .ptr (ds.map (den C.ρ)):=by simp only[den,gG,U.den,D.aV]
      refine⟨by simpa [E.lt]using m1,?_,?_⟩
      ·rw[hd,hv]
       refine .ptr _ vs _ (by simp[m2]) (fun i hi=>hS (id,cs) (by simp) i (by simp[m2,pT.1]at hi;exact hi)) (fun i v hi=> ?_) (fun i v d hi z8=> ?_)
       ·rw[cell_of_row w _ i _ T _ jq];simpa using hi
       ·simp only[ah,da]at z8
        obtain⟨e,he,rfl⟩:=z8
        exact(m4 i v e hi he).keep cp.S cp.cell
      ·rw[hd];exact jH.2 ⟨_,rfl,m5⟩
    ·cases h
   ·cases h
  ·rename_i e fs wY Xn hg hr
   obtain⟨rfl,rfl⟩:=jC h
   obtain⟨k1,k2⟩:=Ec hm ht eu cp hr hS
   refine⟨by simp[k1],fun i x e' hi he=> ?_⟩
   cases i with
   |succ i=>exact k2 i x e' (by simpa using hi) (by simpa using he)
   |zero=>
    simp at hi he;subst hi;subst he
    obtain⟨q1,q2,q3⟩:=cK ht eu hg
    exact⟨q1,q2.keep cp.S cp.cell,q3⟩
  ·cases h
theorem Nd{ops:Array Oper}{e:E}{t:Ty}{fz:List (Nat×List SC)}(hs:iq n w0 S0 C G σ a w)(hg:guardOf ops σ o=some pc)(h:SE P σ pc o=some (e,t,fz))(bP:e.lt C.N=true)
  (eT: ∀d,o.dst=some d→d<n):
  fQ P n w0 S0 C ((⟨o.dst,(pc,.one (.iW e t)),fz.map fun x=>(x.1,some (true,x.2)),[],fz.map (·.1),[]⟩:jI).app σ) p ops a w o:=by
 intro K Q hK
 obtain⟨hw,hc⟩:=gg hs.t hg
 rw[hw]
 unfold SE at h
 split at h
 ·rename_i f first captured ho
  split at h
  ·rename_i ag7
   split at h
   ·rename_i es Xn OM
    obtain⟨hE,hT,hF⟩:=RA h
    subst hF
    obtain⟨G',cp,hm,Qd,Lo⟩:=hs.m.Pg Xn (Ed OM)
    have J3:=cp.trans (dT.pV C w G' p)
    have hm':=(hm.pV p)
    have fin:=fun(v:Value) hv=>hs.step (o:=o) (v:=v) (e:=(⟨o.dst,(pc,.one (.iW e t)),Xn.map fun x=>(x.1,some (true,x.2)),[],Xn.map (·.1),[]⟩:jI)) J3 (hm'.congr rfl (dM _)) rfl bP hc hv eT
    cases eu:aU C.ρ pc with
    |false=>
     simp only[ak,if_false]
     exact hK _ _ _ (fin _ (by intro _;simp only[eu,ak,if_false]))
    |true=>
     simp only[if_true]
     obtain⟨k1,k2⟩:=Ec hs.m hs.t eu cp OM Qd
     have hf0:first= #[] :=by apply dg;simpa using ag7
     have fh:(execOp a.eval o).run P w= .ok (.value (.func (.func f) #[] (captured.toList.map a.eval).toArray)) w:=by
      have RL:(captured.toList.map a.eval).toArray=captured.map a.eval:=by apply dg;simp
      unfold execOp;simp only[ho,Instr.makeFunc,hf0,RL]
      simp
     unfold Oper.wp
     rw[fh]
     refine hK _ _ _ (fin _ ?_)
     intro _;simp only[eu,if_true]
     have hd:den C.ρ e= .fn f ((es.map (·.1)).map (den C.ρ)):=by rw[←hE];simp only[den,gG,U.den,D.aV]
     refine⟨bP,?_,?_⟩
     ·show cH w G'.S _ (den C.ρ _)
      rw[hd]
      refine .fn f _ _ (by simp[k1]) fun i v d hi z8=> ?_
      simp only[ah,da]at hi z8
      obtain⟨x,hx,rfl⟩:=hi
      obtain⟨e1,⟨e2,Xk,rfl⟩,rfl⟩:=z8
      exact(k2 i x e2 hx Xk).2.1
     ·show Has _ (den C.ρ _)
      rw[hd,←hT]
      refine mo.2 ⟨_,rfl,jQ (by simp) fun j u x hj hx=> ?_⟩
      simp only[ah,da]at hj hx
      obtain⟨e1,Ci,rfl⟩:=hj
      obtain⟨_,⟨e2,Xk,rfl⟩,rfl⟩:=hx
      rw[Ci]at Xk;injection Xk with Xk;subst Xk
      have hlen:j<captured.toList.length:=by rw[←k1];exact(aH.1 Ci).1
      exact(k2 j _ e1 (aW hlen) Ci).2.2
   ·cases h
  ·cases h
 ·cases h
theorem KQ(ht:jO C w G σ.tm a)(eu:aU C.ρ pc=true): ∀{l:List Operand} {ts:List TypeId} {es:List (E×Ty)},Bc P σ pc l ts=some es→
  es.length=l.length∧ ∀(i:Nat) x e,l[i]? =some x→es[i]? =some e→cH w G.S (a.eval x) (den C.ρ e.1)∧Has e.2 (den C.ρ e.1)
 | [],[],es,h=>by simp only[Bc,ae]at h;subst h;exact⟨rfl,by intro i x e hi;simp at hi⟩
 |y::l,t::ts,es,h=>by
  simp only[Bc]at h
  split at h
  ·rename_i e wY h1 h2
   injection h with h;subst h
   obtain⟨k1,k2⟩:=KQ ht eu h2
   refine⟨by simp[k1],fun i x e' hi he=> ?_⟩
   cases i with
   |zero=>simp at hi he;subst hi;subst he;exact(dX ht eu h1).2
   |succ i=>exact k2 i x e' (by simpa using hi) (by simpa using he)
  ·cases h
 | [],_::_,_,h=>by cases h
 |_::_,[],_,h=>by cases h
theorem xJ.ok{base:Nat}{S:bU}{T:TypeId}{t:Ty}{v:Value}{d:D}{g:Tag}(h:xJ g.ex w base S T t v d){e:E}(hM:C.M g.1)(he:e.lt C.N=true)(hd:den C.ρ e=d)(hS:G.S=S)(iI:G.τ g=v):
  j7 C w base G g e T t:=by
 obtain⟨h1,h2,h3⟩:=h
 subst hd;subst hS;subst iI
 exact⟨hM,he,h1,h3⟩
theorem qX(own:Bool)(p:Nat)(e:E): ∀(l:List bD) (j i:Nat),(nf own p e j l)[i]? =(l[i]?).map fun c=>p8 own p (.un (.cell (j+i)) e) c
 | [],j,i=>by simp[nf]
 |c::l,j,0=>by simp[nf]
 |c::l,j,i+1=>by simp only[nf,du,qX own p e l (j+1) i];congr 2;funext t;congr 3;omega
theorem vA(own:Bool)(p:Nat)(e:E): ∀(l:List bD) (j:Nat),(nf own p e j l).length=l.length
 | [],_=>rfl
 |_::l,j=>by simp[nf,vA own p e l]
theorem Bw(own:Bool)(p:Nat)(e:E): ∀(l:List (Bool×List bD)) (j i:Nat),(py own p e j l)[i]? =(l[i]?).map fun c=>DJ own p (.un (.cell (j+i)) e) c
 | [],j,i=>by simp[py]
 |c::l,j,0=>by simp[py]
 |c::l,j,i+1=>by simp only[py,du,Bw own p e l (j+1) i];congr 2;funext t;congr 3;omega
theorem Bv(own:Bool)(p:Nat)(e:E): ∀(l:List (Bool×List bD)) (j:Nat),(py own p e j l).length=l.length
 | [],_=>rfl
 |_::l,j=>by simp[py,Bv own p e l]
theorem wI{base:Nat}{τ:Nat→Value}{c:bD}{v:Value}{d:D}{e:E}(h:k7 w base G.S τ c v d)(hM:C.M p)(he:e.lt C.N=true)(hd:den C.ρ e=d)(iI: ∀j,G.τ (p,j)=τ j)(own:Bool)(hx:own=true∨ ∀j T,c.2=some (j,T)→Fe j=false:=by exact .inl rfl):
  tJ C w G (p8 own p e c) v:=by
 obtain⟨t,_|⟨j,T⟩⟩:=c
 ·obtain⟨h1,h2⟩:=h
  exact⟨he,hd▸h1,hd▸h2⟩
 ·obtain⟨rfl,h2⟩:=h
  have cI:=xJ.ok (C:=C) (G:=G) (g:=(p,j)) h2 hM he hd rfl (iI j)
  cases PS:Fe j with
  |true=>
   have ho:own=true:=hx.elim id fun h=>by rw[h j T rfl]at PS;cases PS
   subst ho
   simp only[p8,if_true,PS]
   refine⟨hM,(iI j).symm,?_⟩
   obtain⟨xs,l,_,dm,_⟩:=h2.own
   rcases dm.2 with⟨hv,_⟩|⟨b,cap,cur,hv,_⟩
   ·exact⟨_,_,_,hv⟩
   ·exact⟨_,_,_,hv⟩
  |false=>
   have jf:=cI.rep h2.sz PS
   rw[iI j]at jf
   cases own with
   |true=>simp only[p8,if_true,PS,ak,if_false];exact⟨hM,he,jf,cI.has,(iI j).symm⟩
   |false=>exact⟨he,jf,cI.has⟩
theorem GU{base:Nat}{τ:Nat→Value}{c:Bool×List bD}{v:Value}{d:D}{e:E}(h:hH w base G.S τ c v d)(hM:C.M p)(he:e.lt C.N=true)(hd:den C.ρ e=d)(iI: ∀j,G.τ (p,j)=τ j)(own:Bool)(hx:own=true∨ ∀y∈c.2,∀j T,y.2=some (j,T)→Fe j=false:=by exact .inl rfl):
  nJ C w G (DJ own p e c) v:=by
 have lv:=hx
 clear hx
 unfold hH at h
 unfold nJ DJ
 cases hc:c.1 with
 |true=>
  simp only[hc,if_true]at h⊢
  obtain⟨vs,ds,rfl,rfl,xy,qq,eW⟩:=h
  refine⟨vs,rfl,by rw[vA,xy],fun i x u hx hu=> ?_⟩
  rw[qX]at hx
  simp only[da]at hx
  obtain⟨y,hy,rfl⟩:=hx
  have iJ:i<ds.length:=by rw[qq];exact(aH.1 hy).1
  have Sm:ds[i]? =some ds[i] :=aW iJ
  refine wI (eW i y u _ hy hu Sm) hM (by simpa [E.lt]using he) ?_ iI own (lv.imp id fun h=>h y (ca hy))
  simp only[den,U.den,hd,D.aV,ay];exact hZ Sm
 |false=>
  simp only[hc,ak,if_false]at h⊢
  obtain⟨x,hx,r7⟩:=h
  exact⟨p8 own p e x,by rw[hx];rfl,wI r7 hM he hd iI own (lv.imp id fun h=>h x (by rw[hx];simp))⟩
theorem Gq{base:Nat}{τ:Nat→Value}{res:List (Bool×List bD)}{v:Value}{e:E}(h:iL w base G.S τ res v (den C.ρ e))(hM:C.M p)(he:e.lt C.N=true)(iI: ∀j,G.τ (p,j)=τ j)(own:Bool)(hx:own=true∨L0 res=true:=by exact .inl rfl):
  Ab C w G (xL own p e res) v:=by
 have lv:own=true∨ ∀c∈res,∀y∈c.2,∀j T,y.2=some (j,T)→Fe j=false:=hx.imp id fun h c hc y hy j T hj=>by
  have:=cn.1 (cn.1 h c hc) y hy
  rw[hj]at this;simpa using this
 clear hx
 rcases h with⟨c,rfl,h⟩|⟨fY,vs,ds,rfl,hd,xy,qq,Dn⟩
 ·have:=GU h hM he rfl iI own (lv.imp id fun h=>h c (by simp))
  unfold nJ at this
  simp only[xL]
  split
  ·rename_i l hl
   rw[hl]at this
   simpa [Ab]using this
  ·rename_i l hl
   rw[hl]at this
   simp only[ak,if_false]at this
   obtain⟨c',rfl,Hi⟩:=this
   exact Hi
 ·have hr:xL own p e res= .fx (py own p e 0 res):=by
   match res,fY with
   | [],_=>rfl
   | [c],fY=>exact absurd rfl fY
   |_::_::_,_=>rfl
  rw[hr]
  refine⟨vs,rfl,by rw[Bv,xy],fun i x u hx hu=> ?_⟩
  rw[Bw]at hx
  simp only[da]at hx
  obtain⟨y,hy,rfl⟩:=hx
  have iJ:i<ds.length:=by rw[qq];exact(aH.1 hy).1
  have Sm:ds[i]? =some ds[i] :=aW iJ
  refine GU (Dn i y u _ hy hu Sm) hM (by simpa [E.lt]using he) ?_ iI own (lv.imp id fun h=>h y (ca hy))
  simp only[den,U.den,hd,D.aV,ay];exact hZ Sm
def Au(C:Cx)(w:World)(base:Nat)(G:Gh)(p:Nat)(idx:List Nat)(x:Tag×Option (E×TypeId×Ty)):Prop:=
 x.1.1=p∧x.1.2∈idx∧ ∃e T t,x.2=some (e,T,t)∧j7 C w base G x.1 e T t
theorem vB{base:Nat}{τ:Nat→Value}{c:bD}{v:Value}{d:D}{e:E}{idx:List Nat}(h:k7 w base G.S τ c v d)(hM:C.M p)(he:e.lt C.N=true)(hd:den C.ρ e=d)(iI: ∀j,G.τ (p,j)=τ j)
  (uD: ∀j T,c.2=some (j,T)→j∈idx): ∀x∈lV p e c,Au C w base G p idx x:=by
 obtain⟨t,_|⟨j,T⟩⟩:=c
 ·intro x hx;simp[lV]at hx
 ·intro x hx
  simp only[lV,aA]at hx
  subst hx
  obtain⟨rfl,h2⟩:=h
  exact⟨rfl,uD j T rfl,e,T,t,rfl,xJ.ok (g:=(p,j)) h2 hM he hd rfl (iI j)⟩
theorem rC(p:Nat)(e:E): ∀(l:List bD) (j:Nat) (x),x∈nW p e j l→ ∃(i:Nat) (c:bD),l[i]? =some c∧x∈lV p (.un (.cell (j+i)) e) c
 | [],j,x,h=>by simp[nW]at h
 |c::l,j,x,h=>by
  simp only[nW,aS]at h
  rcases h with h|h
  ·exact⟨0,c,rfl,h⟩
  ·obtain⟨i,c',h1,h2⟩:=rC p e l (j+1) x h
   exact⟨i+1,c',by simpa using h1,by rw[show j+(i+1)=j+1+i by omega];exact h2⟩
theorem xj(p:Nat)(e:E): ∀(l:List (Bool×List bD)) (j:Nat) (x),x∈pP p e j l→ ∃(i:Nat) (c:Bool×List bD),l[i]? =some c∧x∈vh p (.un (.cell (j+i)) e) c
 | [],j,x,h=>by simp[pP]at h
 |c::l,j,x,h=>by
  simp only[pP,aS]at h
  rcases h with h|h
  ·exact⟨0,c,rfl,h⟩
  ·obtain⟨i,c',h1,h2⟩:=xj p e l (j+1) x h
   exact⟨i+1,c',by simpa using h1,by rw[show j+(i+1)=j+1+i by omega];exact h2⟩
theorem Bx{base:Nat}{τ:Nat→Value}{c:Bool×List bD}{v:Value}{d:D}{e:E}{idx:List Nat}(h:hH w base G.S τ c v d)(hM:C.M p)(he:e.lt C.N=true)(hd:den C.ρ e=d)(iI: ∀j,G.τ (p,j)=τ j)
  (uD: ∀y∈c.2,∀j T,y.2=some (j,T)→j∈idx): ∀x∈vh p e c,Au C w base G p idx x:=by
 intro x hx
 unfold hH at h
 unfold vh at hx
 cases hc:c.1 with
 |true=>
  simp only[hc,if_true]at h hx
  obtain⟨vs,ds,rfl,rfl,xy,qq,eW⟩:=h
  obtain⟨i,y,hy,hx⟩:=rC p e _ _ _ hx
  have iJ:i<c.2.length:=(aH.1 hy).1
  have Sm:ds[i]? =some (ds[i]'(by omega)):=aW _
  have Jn:vs[i]? =some (vs[i]'(by omega)):=aW _
  refine vB (eW i y _ _ hy Jn Sm) hM (by simpa [E.lt]using he) ?_ iI (fun j T hj=>uD y (ca hy) j T hj) x hx
  simp only[den,U.den,hd,D.aV,ay];exact hZ Sm
 |false=>
  simp only[hc,ak,if_false]at h hx
  obtain⟨y,hy,zW⟩:=h
  rw[hy]at hx
  simp only[List.flatMap_cons,List.flatMap_nil,cQ]at hx
  exact vB zW hM he hd iI (fun j T hj=>uD y (by rw[hy];simp) j T hj) x hx
theorem Bh{base:Nat}{τ:Nat→Value}{res:List (Bool×List bD)}{v:Value}{e:E}(h:iL w base G.S τ res v (den C.ρ e))(hM:C.M p)(he:e.lt C.N=true)(iI: ∀j,G.τ (p,j)=τ j):
  ∀x∈qa p e res,Au C w base G p (cO res) x:=by
 have uD: ∀c∈res,∀y∈c.2,∀j T,y.2=some (j,T)→j∈cO res:=by
  intro c hc y hy j T hj
  unfold cO
  rw[dh]
  exact⟨c,hc,bH.2 ⟨y,hy,by rw[hj];rfl⟩⟩
 rcases h with⟨c,rfl,h⟩|⟨fY,vs,ds,rfl,hd,xy,qq,Dn⟩
 ·exact Bx h hM he rfl iI (uD c (by simp))
 ·have hr:qa p e res=pP p e 0 res:=by
   match res,fY with
   | [],_=>rfl
   | [c],fY=>exact absurd rfl fY
   |_::_::_,_=>rfl
  rw[hr]
  intro x hx
  obtain⟨i,y,hy,hx⟩:=xj p _ _ _ _ hx
  have iJ:i<res.length:=(aH.1 hy).1
  have Sm:ds[i]? =some (ds[i]'(by omega)):=aW _
  have Jn:vs[i]? =some (vs[i]'(by omega)):=aW _
  refine Bx (Dn i y _ _ hy Jn Sm) hM (by simpa [E.lt]using he) ?_ iI (uD y (ca hy)) x hx
  simp only[den,U.den,hd,D.aV,ay];exact hZ Sm
theorem zb{base:Nat}{τ:Nat→Value}{res:List (Bool×List bD)}{v:Value}(h:iL w base G.S τ res v (C.ρ p))(hM:C.M p)(hp:p<C.N)(iI: ∀j,G.τ (p,j)=τ j)(own:Bool)(hx:own=true∨L0 res=true:=by exact .inl rfl):
  Ab C w G (ny own p res) v:=Gq (e:=.var p) h hM (by simpa [E.lt]using hp) iI own hx
theorem xS{base:Nat}{τ:Nat→Value}{res:List (Bool×List bD)}{v:Value}(h:iL w base G.S τ res v (C.ρ p))(hM:C.M p)(hp:p<C.N)(iI: ∀j,G.τ (p,j)=τ j):
  ∀x∈iy p res,Au C w base G p (cO res) x:=Bh (e:=.var p) h hM (by simpa [E.lt]using hp) iI
end
theorem tv: ∀{l:List (Option Tag)},mB l=true→ ∀(i j:Nat) g,l[i]? =some (some g)→l[j]? =some (some g)→i=j
 | [],_,i,j,g,h,_=>by simp at h
 |x::r,hn,i,j,g,hi,hj=>by
  have hr:mB r=true:=by cases x<;>simp[mB]at hn<;>first|exact hn|exact hn.2
  have hx:x=some g→some g∉r:=by
   rintro rfl
   simp only[mB,bc,gj]at hn
   simpa using hn.1
  cases i with
  |zero=>
   cases j with
   |zero=>rfl
   |succ j=>
    simp at hi hj
    exact absurd (ca hj) (hx hi)
  |succ i=>
   cases j with
   |zero=>
    simp at hi hj
    exact absurd (ca hi) (hx hj)
   |succ j=>rw[tv hr i j g (by simpa using hi) (by simpa using hj)]
section
variable{P:Program}{C:Cx}{w w0:World}{S0:iu}{G:Gh}{σ:St}{a:Act}{n:Nat}
def rJ(G:Gh)(l:mO):Nat→Value:=fun j=>match lk l j with
 |some (some g)=>G.τ g
 |_=>.slice none 0 0
theorem nV{α β:Type}[DecidableEq α] : ∀{l:List (α×β)} {k:α} {v:β},(l.map (·.1)).Nodup→(k,v)∈l→lk l k=some v
 | [],_,_,_,h=>by simp at h
 |(a,b)::l,k,v,hn,h=>by
  simp only[cZ,List.nodup_cons]at hn
  simp only[lk]
  rcases aM.1 h with h|h
  ·simp only[ai]at h;obtain⟨rfl,rfl⟩:=h;simp
  ·have:k≠a:=fun e=>hn.1 (bB.2 ⟨(k,v),h,e⟩)
   rw[if_neg this];exact nV hn.2 h
theorem Nk{r:bD}{c:SC}{e:E}{l L:mO}{v:Value}(hm:fp w0 S0 C G σ w)(h:kN σ r c=some (e,l))(hr:tJ C w G c v)(hL: ∀x∈l,x∈L)(hn:(L.map (·.1)).Nodup):
  k7 w 0 G.S (rJ G L) r v (den C.ρ e):=by
 obtain⟨t,_|⟨j,T⟩⟩:=r
 ·simp only[kN]at h
  split at h
  ·rename_i e' t' hd
   split at h
   ·rename_i Jp
    obtain⟨rfl,rfl⟩:=jC h
    subst Jp
    exact(mE hd hr).2
   ·cases h
  ·split at h
   ·split at h
    ·rename_i Jp
     obtain⟨rfl,rfl⟩:=jC h
     subst Jp
     obtain⟨_,rfl⟩:=hr
     exact⟨.ptr _ [] [] rfl (fun i hi=>by simp at hi) (fun i v hi=>by simp at hi) (fun i v d hi=>by simp at hi),⟨[],rfl,rfl⟩⟩
    ·cases h
   ·cases h
 ·simp only[kN]at h
  split at h
  ·rename_i t'
   split at h
   ·rename_i hc
    obtain⟨rfl,ir⟩:=hc
    obtain⟨rfl,rfl⟩:=jC h
    have iI:rJ G L j= .slice none 0 0:=by unfold rJ;rw[nV hn (hL (j,none) (by simp))]
    refine⟨by rw[iI];exact hr,⟨bK.2 ⟨[],rfl,ft _,by simp⟩,ir,[],[],rfl,?_,?_,by simp⟩⟩
    ·rw[iI];exact eR w _ _ _
    ·rw[iI];intro b hb;cases hb
   ·cases h
  ·rename_i g e0 t'
   split at h
   ·rename_i e1 T' t'' hl
    split at h
    ·rename_i hc
     obtain⟨rfl,rfl,rfl,ir,ou,Jr⟩:=hc
     obtain⟨rfl,rfl⟩:=jC h
     have iI:rJ G L j=G.τ g:=by unfold rJ;rw[nV hn (hL (j,some g) (by simp))]
     have ho:=hm.own _ _ _ _ hl
     refine⟨by rw[iI];exact hr.2.2.2.2,⟨ho.has,ir,?_⟩⟩
     rw[iI];have e:Fe j=g.ex:=by rw[Jr,ou]
     rw[e];exact ho.own
    ·cases h
   ·cases h
  ·rename_i g t'
   split at h
   ·rename_i e1 T' t'' hl
    split at h
    ·rename_i hc
     obtain⟨rfl,rfl,rfl,ir,ou,Jr⟩:=hc
     obtain⟨rfl,rfl⟩:=jC h
     have iI:rJ G L j=G.τ g:=by unfold rJ;rw[nV hn (hL (j,some g) (by simp))]
     have ho:=hm.own _ _ _ _ hl
     refine⟨by rw[iI];exact hr.2.1,⟨ho.has,ir,?_⟩⟩
     rw[iI];have e:Fe j=g.ex:=by rw[Jr,ou]
     rw[e];exact ho.own
    ·cases h
   ·cases h
  ·cases h
theorem lj{L:mO}(hm:fp w0 S0 C G σ w)(hn:(L.map (·.1)).Nodup): ∀{rs:List bD} {cs:List SC} {es:List E} {l:mO} {vs:List Value},ia σ rs cs=some (es,l)→lA C w G cs vs→(∀x∈l,x∈L)→
  es.length=rs.length∧vs.length=rs.length∧ ∀(i:Nat) r v e,rs[i]? =some r→vs[i]? =some v→es[i]? =some e→k7 w 0 G.S (rJ G L) r v (den C.ρ e)
 | [],[],es,l,vs,h,hr,_=>by
  simp only[ia,ae,ai]at h
  obtain⟨rfl,rfl⟩:=h
  exact⟨rfl,by have:=hr.1;simpa using this,by intro i r v e hi;simp at hi⟩
 | [],_::_,_,_,_,h,_,_=>by cases h
 |_::_,[],_,_,_,h,_,_=>by cases h
 |r::rs,c::cs,es,l,vs,h,hr,hL=>by
  simp only[ia]at h
  split at h
  ·rename_i e l1 wY l2 h1 h2
   obtain⟨rfl,rfl⟩:=jC h
   cases vs with
   |nil=>have:=hr.1;simp at this
   |cons v vs=>
    have E0:lA C w G cs vs:=⟨by have:=hr.1;simpa using this,fun i c v hi hv=>hr.2 (i+1) c v (by simpa using hi) (by simpa using hv)⟩
    obtain⟨k1,k2,k3⟩:=lj hm hn h2 E0 (fun x hx=>hL x (by simp[hx]))
    refine⟨by simp[k1],by simp[k2],fun i r' v' e' hi hv he=> ?_⟩
    cases i with
    |zero=>
     simp at hi hv he;subst hi;subst hv;subst he
     exact Nk hm h1 (hr.2 0 c _ rfl rfl) (fun x hx=>hL x (by simp[hx])) hn
    |succ i=>exact k3 i r' v' e' (by simpa using hi) (by simpa using hv) (by simpa using he)
  ·cases h
theorem K1{r:bD}{c:SC}{e:E}{l:mO}(h:kN σ r c=some (e,l)):(r.2.map (·.1)).toList=l.map (·.1):=by
 obtain⟨t,_|⟨j,T⟩⟩:=r
 ·simp only[kN]at h
  split at h
  ·split at h
   ·injection h with h;simp only[ai]at h;rw[←h.2];rfl
   ·cases h
  ·split at h
   ·split at h
    ·injection h with h;simp only[ai]at h;rw[←h.2];rfl
    ·cases h
   ·cases h
 ·simp only[kN]at h
  split at h
  ·split at h
   ·injection h with h;simp only[ai]at h;rw[←h.2];rfl
   ·cases h
  ·split at h
   ·split at h
    ·injection h with h;simp only[ai]at h;rw[←h.2];rfl
    ·cases h
   ·cases h
  ·split at h
   ·split at h
    ·injection h with h;simp only[ai]at h;rw[←h.2];rfl
    ·cases h
   ·cases h
  ·cases h
theorem pF: ∀{rs:List bD} {cs:List SC} {es:List E} {l:mO},ia σ rs cs=some (es,l)→(rs.filterMap fun x=>x.2.map (·.1))=l.map (·.1)
 | [],cs,es,l,h=>by
  cases cs<;>simp[ia]at h
  obtain⟨rfl,rfl⟩:=h;rfl
 |_::_,[],_,_,h=>by cases h
 |r::rs,c::cs,es,l,h=>by
  simp only[ia]at h
  split at h
  ·rename_i q1 q2
   injection h with h;simp only[ai]at h;rw[←h.2,cz,←K1 q1,←pF q2]
   cases hr:r.2 with
   |none=>simp[hr]
   |some x=>simp[hr]
  ·cases h
theorem IG{r:bD}{c:SC}{e:E}{l:mO}{j:Nat}{g:Tag}(h:kN σ r c=some (e,l))(hm:(j,some g)∈l): ∃z,σ.live g=some z:=by
 obtain⟨t,_|⟨j0,T⟩⟩:=r
 ·simp only[kN]at h
  split at h
  ·split at h
   ·injection h with h;simp only[ai]at h;rw[←h.2]at hm;simp at hm
   ·cases h
  ·split at h
   ·split at h
    ·injection h with h;simp only[ai]at h;rw[←h.2]at hm;simp at hm
    ·cases h
   ·cases h
 ·simp only[kN]at h
  split at h
  ·split at h
   ·injection h with h;simp only[ai]at h;rw[←h.2]at hm;simp at hm
   ·cases h
  ·split at h
   ·rename_i hl
    split at h
    ·injection h with h;simp only[ai]at h;rw[←h.2]at hm
     simp at hm;obtain⟨rfl,rfl⟩:=hm;exact⟨_,hl⟩
    ·cases h
   ·cases h
  ·split at h
   ·rename_i hl
    split at h
    ·injection h with h;simp only[ai]at h;rw[←h.2]at hm
     simp at hm;obtain⟨rfl,rfl⟩:=hm;exact⟨_,hl⟩
    ·cases h
   ·cases h
  ·cases h
theorem od: ∀{rs:List bD} {cs:List SC} {es:List E} {l:mO} {j:Nat} {g:Tag},ia σ rs cs=some (es,l)→(j,some g)∈l→ ∃z,σ.live g=some z
 | [],[],es,l,j,g,h,hm=>by simp[ia]at h;obtain⟨rfl,rfl⟩:=h;simp at hm
 | [],_::_,_,_,_,_,h,_=>by cases h
 |_::_,[],_,_,_,_,h,_=>by cases h
 |r::rs,c::cs,es,l,j,g,h,hm=>by
  simp only[ia]at h
  split at h
  ·rename_i q1 q2
   injection h with h;simp only[ai]at h;rw[←h.2]at hm
   rcases aS.1 hm with hm|hm
   ·exact IG q1 hm
   ·exact od q2 hm
  ·cases h
theorem AF{l:mO}(hm:fp w0 S0 C G σ w)(cI:rk l=true)(cJ: ∀j g,(j,some g)∈l→ ∃z,σ.live g=some z){j k b:Nat}(hj:j∈l.map (·.1))(hk:k∈l.map (·.1))
  (Sn:(rJ G l j).ownBlock=some b) (Jv:(rJ G l k).ownBlock=some b):j=k:=by
 unfold rk at cI
 simp only[bc,bQ]at cI
 obtain⟨hnt,Sf⟩:=cI
 obtain⟨x,hx,rfl⟩:=bB.1 hj
 obtain⟨y,hy,rfl⟩:=bB.1 hk
 have ex:lk l x.1=some x.2:=nV Sf hx
 have ey:lk l y.1=some y.2:=nV Sf hy
 unfold rJ at Sn Jv
 rw[ex]at Sn
 rw[ey]at Jv
 obtain⟨jx,_|gx⟩:=x
 ·cases Sn
 ·obtain⟨jy,_|gy⟩:=y
  ·cases Jv
  ·simp only at Sn Jv
   obtain⟨zx,hzx⟩:=cJ _ _ hx
   obtain⟨zy,hzy⟩:=cJ _ _ hy
   have hg:=hm.kM gx gy _ _ b hzx hzy Sn Jv
   subst hg
   obtain⟨i1,hi1⟩:=aE hx
   obtain⟨i2,PN⟩:=aE hy
   have:=tv hnt i1 i2 gx (by rw[ah,hi1];rfl) (by rw[ah,PN];rfl)
   subst this
   rw[hi1]at PN;injection PN with PN
   simp only[ai]at PN
   exact PN.1
theorem yP{l:mO}(cI:rk l=true){j b:Nat}(hj:j∈l.map (·.1))(hb:(rJ G l j).ownBlock=some b): ∃g,(j,some g)∈l∧(G.τ g).ownBlock=some b:=by
 unfold rk at cI
 simp only[bc,bQ]at cI
 obtain⟨x,hx,rfl⟩:=bB.1 hj
 have ex:lk l x.1=some x.2:=nV cI.2 hx
 unfold rJ at hb
 rw[ex]at hb
 obtain⟨jx,_|gx⟩:=x
 ·cases hb
 ·exact⟨gx,hx,hb⟩
end
section
variable{P:Program}{C:Cx}{w w0:World}{S0:iu}{G:Gh}{σ:St}{a:Act}{n p:Nat}
theorem fp.YR(h:fp w0 S0 C G σ w)(hp: ¬C.M p){w':World}{S':bU}{τ':Nat→Value}{βn:Nat}{ids:List Nat}{kill:List Tag}{mu:Nat→Prop}
  (lG:hU mu w w') (yf: ∀b,mu b→(∃id∈ids,b=G.β id)∨ ∃g∈kill,(G.τ g).ownBlock=some b)
  (kz: ∀id∈ids,∃cs,σ.hp id=some (false,cs)) (Us: ∀g∈kill,∃x,σ.live g=some x)
  (hS: ∀b o,G.S b o→S' b o) (bP: ∀b o,S' b o→b<w'.heap.size) (jN: ∀b o,S' b o→G.S b o∨w.heap.size≤b∨mu b) (mT: ∀b o,G.S b o→w'.cell? ⟨b,o,none⟩=w.cell? ⟨b,o,none⟩)
  (XG:Nat→Option (Bool×List SC)) (live':Tag→Option (E×TypeId×Ty)) (G':Gh)
  (hG:G'={S:=S',β:=fU G.β p βn,τ:=fun g=>if g.1=p then τ' g.2 else G.τ g})
  (ug: ∀id x,XG id=some x→(id∉ids∧id≠p∧σ.hp id=some x)∨(x.1=false∧(id∈ids∨(id=p∧(w.heap.size≤βn∨ ∃Ha∈ids,βn=G.β Ha∧XG Ha=none)))∧x.2.all SC.scalar=true∧
   kY S0.prog (C.add p) w' G' (G'.β id) x.2∧ ∀o,¬S' (G'.β id) o))
  (cJ: ∀g x,live' g=some x→(g.1≠p∧g∉kill∧σ.live g=some x)∨(g.1=p∧j7 (C.add p) w' 0 G' g x.1 x.2.1 x.2.2∧ ∀b,(τ' g.2).ownBlock=some b→w.heap.size≤b∨mu b))
  (Fv: ∀j k x y b,live' (p,j)=some x→live' (p,k)=some y→(τ' j).ownBlock=some b→(τ' k).ownBlock=some b→j=k)
  (fX: ∀j id x y b,live' (p,j)=some x→XG id=some y→(id∈ids∨id=p)→(τ' j).ownBlock=some b→b≠G'.β id) (qp: ¬S0.fr) (mg: ¬S0.wz):
  dT C w G (C.add p) w' G'∧fp w0 S0 (C.add p) G' {σ with hp:=XG,live:=live'} w':=by
 subst hG
 have Qc: ∀id∈ids,C.M id:=fun id hi=>by obtain⟨cs,kP⟩:=kz id hi;exact h.pb _ _ kP
 have Lo: ∀id,C.M id→fU G.β p βn id=G.β id:=fun id hi=>fJ _ _ (fun e=>hp (e▸hi))
 have iI: ∀g:Tag,C.M g.1→(if g.1=p then τ' g.2 else G.τ g)=G.τ g:=fun g hg=>if_neg (fun e=>hp (by rw[←e];exact hg))
 have afc: ∀b,mu b→kA w0 S0 b∧b<w.heap.size:=by
  intro b hb
  rcases yf b hb with⟨id,fD,rfl⟩|⟨g,hg,jq⟩
  ·obtain⟨cs,kP⟩:=kz id fD
   exact⟨h.aeG (h.box _ _ _ kP).1,h.mZ kP⟩
  ·obtain⟨x,hx⟩:=Us g hg
   exact⟨h.gS g x b hx jq,((h.own g x.1 x.2.1 x.2.2 hx).hY b jq).2⟩
 have cp:dT C w G (C.add p) w' {S:=S',β:=fU G.β p βn,τ:=fun g=>if g.1=p then τ' g.2 else G.τ g}:=
  ⟨fun _ h=>⟨rfl,h⟩,fun _ h=>.inl h,hS,mT,fun i hi=>Lo i hi,fun g hg=>iI g hg⟩
 have Vh: ∀id x,id∉ids→σ.hp id=some x→ ¬mu (G.β id):=by
  intro id x hn hx hb
  rcases yf _ hb with⟨RG,h2,he⟩|⟨g,hg,jq⟩
  ·obtain⟨cs,kP⟩:=kz RG h2
   exact hn (h.inj id RG _ _ hx kP he▸h2)
  ·obtain⟨y,hy⟩:=Us g hg
   exact h.eV g id y x _ hy hx jq rfl
 have HP: ∀g x b,g∉kill→σ.live g=some x→(G.τ g).ownBlock=some b→ ¬mu b:=by
  intro g x b hn hx jq hb
  rcases yf _ hb with⟨RG,h2,he⟩|⟨g2,AV,avX⟩
  ·obtain⟨cs,kP⟩:=kz RG h2
   exact h.eV g RG x _ b hx kP jq he
  ·obtain⟨y,hy⟩:=Us g2 AV
   exact hn (h.kM g g2 x y b hx hy jq avX▸AV)
 have iY:=h.below.size
 have key: ∀i x,XG i=some x→(C.M i∧(∃x',σ.hp i=some x')∧fU G.β p βn i=G.β i)∨(i=p∧(w.heap.size≤βn∨ ∃Ha∈ids,βn=G.β Ha∧XG Ha=none)):=by
  intro i x hi
  rcases ug i x hi with⟨_,_,h2⟩|⟨_,h2|h2,_⟩
  ·exact .inl ⟨h.pb _ _ h2,⟨_,h2⟩,Lo _ (h.pb _ _ h2)⟩
  ·obtain⟨cs,kP⟩:=kz i h2
   exact .inl ⟨Qc i h2,⟨_,kP⟩,Lo _ (Qc i h2)⟩
  ·exact .inr h2
 refine⟨cp,⟨?_,fun b o hs=>hS b o (h.kW b o hs),h.nY cp,h.pJ cp,h.mQ,bP,?_,?_,?_,?_,?_,?_,?_,?_,fun h=>absurd h qp,fun h=>absurd h mg⟩⟩
 ·refine⟨lG.os.trans h.below.os,lG.tape.trans h.below.tape,lG.output.trans h.below.output,aR iY lG.size,fun k hk hm=>(lG.block k (by omega) (fun hb=> ?_)).trans (h.below.block k hk hm)⟩
  rcases (afc k hb).1 with h3|h3
  ·omega
  ·exact hm h3
 ·intro b o hs
  rcases jN b o hs with h1|h1|h1
  ·exact h.iN b o h1
  ·exact .inr (.inl (by omega))
  ·exact .inr (afc b h1).1
 ·intro id x hx
  rcases key id x hx with⟨h1,_⟩|⟨rfl,_⟩
  ·exact .inl h1
  ·exact .inr rfl
 ·intro id ro cs hx
  rcases ug id _ hx with⟨n1,n2,lv⟩|⟨hf,fD,mf,eW,E1⟩
  ·obtain⟨b1,b2,b3,b5⟩:=h.box id ro cs lv
   have hb:=Lo id (h.pb _ _ lv)
   have E2:=Vh id _ n1 lv
   have lP:=h.mZ lv
   refine⟨by show Mi w0 S0 (fU G.β p βn id);rw[hb];exact b1,b2,by show kY S0.prog _ w' _ (fU G.β p βn id) cs;rw[hb];exact b3.later cp (lG.block _ lP E2),?_⟩
   show if ro=true then∀o,o<cs.length→S' (fU G.β p βn id) o else∀o,¬S' (fU G.β p βn id) o
   rw[hb]
   cases ro with
   |true=>simp only[if_true]at b5⊢;exact fun o ho=>hS _ _ (b5 o ho)
   |false=>
    simp only[ak,if_false]at b5⊢
    intro o ho
    rcases jN _ _ ho with h6|h6|h6
    ·exact b5 o h6
    ·omega
    ·exact E2 h6
  ·simp only at hf
   subst hf
   refine⟨?_,mf,eW,by simp only[ak,if_false];exact E1⟩
   show Mi w0 S0 (fU G.β p βn id)
   rcases fD with fD|⟨rfl,Fp⟩
   ·rw[Lo id (Qc id fD)]
    obtain⟨tI,Ag⟩:=kz id fD
    exact(h.box _ _ _ Ag).1
   ·rw[eB]
    rcases Fp with Fp|⟨Ha,Mb,Fp,_⟩
    ·exact .inl (by omega)
    ·rw[Fp]
     obtain⟨tI,Ag⟩:=kz Ha Mb
     exact(h.box _ _ _ Ag).1
 ·intro i j x y hi hj he
  have Jt:fU G.β p βn i=fU G.β p βn j:=he
  rcases key i x hi with⟨_,⟨x',lv⟩,e1⟩|⟨rfl,e1⟩<;>rcases key j y hj with⟨_,⟨y',om⟩,e2⟩|⟨rfl,e2⟩
  ·rw[e1,e2]at Jt
   exact h.inj i j _ _ lv om Jt
  ·rw[e1,eB]at Jt
   have:=h.mZ lv
   rcases e2 with e2|⟨Ha,Mb,e2,e3⟩
   ·omega
   ·obtain⟨tI,Ag⟩:=kz Ha Mb
    have e4:=h.inj i Ha _ _ lv Ag (Jt.trans e2)
    have Hg:XG i=some x:=hi
    rw[e4,e3]at Hg;cases Hg
  ·rw[e2,eB]at Jt
   have:=h.mZ om
   rcases e1 with e1|⟨Ha,Mb,e1,e3⟩
   ·omega
   ·obtain⟨tI,Ag⟩:=kz Ha Mb
    have e4:=h.inj j Ha _ _ om Ag (Jt.symm.trans e1)
    have BT:XG j=some y:=hj
    rw[e4,e3]at BT;cases BT
  ·rfl
 ·intro g e T t hx
  rcases cJ g _ hx with⟨h1,h2,h3⟩|⟨h1,h2,_⟩
  ·have ho:=h.own g e T t h3
   refine ho.later cp (fun b hb=>lG.block b (ho.hY b hb).2 (HP g _ b h2 h3 hb)) (fun b hb o hs=> ?_)
   rcases jN b o hs with h6|h6|h6
   ·exact h6
   ·have:=(ho.hY b hb).2;omega
   ·exact absurd h6 (HP g _ b h2 h3 hb)
  ·exact h2
 ·intro g x b hx jq
  rcases cJ g _ hx with⟨h1,h2,h3⟩|⟨h1,_,h2⟩
  ·simp only[if_neg h1]at jq
   exact h.gS g x b h3 jq
  ·simp only[if_pos h1]at jq
   rcases h2 b jq with h4|h4
   ·exact .inl (by omega)
   ·exact(afc b h4).1
 ·intro g g' x y b hx hy jq oz
  rcases cJ g _ hx with⟨h1,h2,h3⟩|⟨h1,_,h2⟩<;>rcases cJ g' _ hy with⟨h4,h5,h6⟩|⟨h4,_,h5⟩
  ·simp only[if_neg h1]at jq;simp only[if_neg h4]at oz
   exact h.kM g g' x y b h3 h6 jq oz
  ·simp only[if_neg h1]at jq;simp only[if_pos h4]at oz
   rcases h5 b oz with h7|h7
   ·have:=((h.own g x.1 x.2.1 x.2.2 h3).hY b jq).2;omega
   ·exact absurd h7 (HP g x b h2 h3 jq)
  ·simp only[if_pos h1]at jq;simp only[if_neg h4]at oz
   rcases h2 b jq with h7|h7
   ·have:=((h.own g' y.1 y.2.1 y.2.2 h6).hY b oz).2;omega
   ·exact absurd h7 (HP g' y b h5 h6 oz)
  ·obtain⟨g1,j⟩:=g
   obtain⟨g2,k⟩:=g'
   simp only at h1 h4
   subst h1;subst h4
   simp only[if_true]at jq oz
   rw[Fv j k x y b hx hy jq oz]
 ·intro g id x y b hx hy jq
  show b≠fU G.β p βn id
  rcases cJ g _ hx with⟨h1,h2,h3⟩|⟨h1,_,h2⟩
  ·simp only[if_neg h1]at jq
   rcases key id y hy with⟨_,⟨y',om⟩,e2⟩|⟨rfl,e2⟩
   ·rw[e2];exact h.eV g id x y' b h3 om jq
   ·rw[eB]
    rcases e2 with e2|⟨Ha,Mb,e2,_⟩
    ·have:=((h.own g x.1 x.2.1 x.2.2 h3).hY b jq).2;omega
    ·obtain⟨tI,Ag⟩:=kz Ha Mb
     rw[e2];exact h.eV g Ha x _ b h3 Ag jq
  ·obtain⟨g1,j⟩:=g
   simp only at h1
   subst h1
   simp only[if_true]at jq
   rcases ug id y hy with⟨n1,n2,lv⟩|⟨_,fD,_⟩
   ·rw[Lo id (h.pb _ _ lv)]
    intro he
    have:=h.mZ lv
    rcases h2 b jq with h7|h7
    ·omega
    ·rw[he]at h7;exact Vh id _ n1 lv h7
   ·exact fX j id x y b hx hy (fD.imp (fun h=>h) And.left) jq
end
theorem vw: ∀{a b:List Ty} {x y:List D},dK (.dJ a) x→dK (.dJ b) y→dK (.dJ (a++b)) (x++y)
 | [],b,x,y,h,h'=>by rw[dr.1 h];exact h'
 |t::a,b,x,y,h,h'=>by
  obtain⟨d,r,rfl,h1,h2⟩:=aj.1 h
  exact aj.2 ⟨d,r++y,rfl,h1,vw h2 h'⟩
section
variable{P:Program}{C:Cx}{w w0:World}{S0:iu}{G:Gh}{σ:St}{a:Act}{o:Oper}{pc:dI}{Φ:Nat→List D→D}{Pre:Nat→List D→Prop}{n p:Nat}{cs:o3}
theorem zi(ht:jO C w G σ.tm a){pc:dI}(eu:aU C.ρ pc=true){β:Nat→Nat}: ∀{sh:List Bool} {l:List Operand} {ts:List TypeId} {es:List (E×Ty)} {ids:List Nat} {k:Nat},mR P σ pc sh l ts=some (es,ids)→(∀(i:Nat) id,ids[i]? =some id→β (k+i)=G.β id)→
  uN w G.S β sh k (l.map a.eval) (es.map fun x=>den C.ρ x.1)∧dK (.dJ (es.map (·.2))) (es.map fun x=>den C.ρ x.1)
 | [],[],[],es,ids,k,h,_=>by
  simp only[mR,ae,ai]at h
  obtain⟨rfl,rfl⟩:=h
  exact⟨trivial,dr.2 rfl⟩
 |false::sh,x::l,t::ts,es,ids,k,h,Lo=>by
  simp only[mR]at h
  split at h
  ·rename_i e wY tZ h1 h2
   obtain⟨rfl,rfl⟩:=jC h
   obtain⟨q1,q2⟩:=zi ht eu h2 Lo
   obtain⟨e1,t1⟩:=e
   obtain⟨_,r1,r2⟩:=dX ht eu h1
   exact⟨⟨r1,q1⟩,aj.2 ⟨_,_,rfl,r2,q2⟩⟩
  ·cases h
 |true::sh,x::l,t::ts,es,ids,k,h,Lo=>by
  simp only[mR]at h
  split at h
  ·rename_i id wY tZ h1 h2
   obtain⟨rfl,rfl⟩:=jC h
   obtain⟨q1,q2⟩:=zi (k:=k+1) ht eu h2 (fun i Xx hi=>by rw[show k+1+i=k+(i+1) by omega];exact Lo (i+1) Xx (by simpa using hi))
   have hv:=(cK ht eu h1).2
   have hb:β k=G.β id:=by simpa using Lo 0 id rfl
   exact⟨⟨by rw[hv,hb],q1⟩,q2⟩
  ·cases h
 | [],[],_::_,_,_,_,h,_=>by simp[mR]at h
 | [],_::_,ts,_,_,_,h,_=>by cases ts<;>simp[mR]at h
 |b::_,[],ts,_,_,_,h,_=>by cases b<;>cases ts<;>simp[mR]at h
 |b::_,_::_,[],_,_,_,h,_=>by cases b<;>simp[mR]at h
theorem DZ: ∀{rcs:List (List bD)} {ids:List Nat} {zT:List (List E)} {l:mO},xa σ rcs ids=some (zT,l)→
  zT.length=rcs.length∧ids.length=rcs.length∧rcs.flatMap JV=l.map (·.1)∧(∀id∈ids,∃cs,σ.hp id=some (false,cs))∧(∀j g,(j,some g)∈l→ ∃z,σ.live g=some z)∧
  ∀(i:Nat) rc id es,rcs[i]? =some rc→ids[i]? =some id→zT[i]? =some es→ ∃cs lo,σ.hp id=some (false,cs)∧ia σ rc cs=some (es,lo)∧ ∀x∈lo,x∈l
 | [],[],zT,l,h=>by
  simp only[xa,ae,ai]at h
  obtain⟨rfl,rfl⟩:=h
  exact⟨rfl,rfl,rfl,by simp,by simp,by intro i rc id es hi;simp at hi⟩
 |rc::r,id::ids,zT,l,h=>by
  simp only[xa]at h
  split at h
  ·rename_i cs fD
   split at h
   ·rename_i es l1 aBR l2 h1 h2
    obtain⟨rfl,rfl⟩:=jC h
    obtain⟨q1,q2,q3,q4,q5,q6⟩:=DZ h2
    refine⟨by simp[q1],by simp[q2],?_,?_,?_,?_⟩
    ·rw[List.flatMap_cons,q3,cz,←pF h1];rfl
    ·simp only[aM,forall_eq_or_imp];exact⟨⟨cs,fD⟩,q4⟩
    ·intro j g hm
     rcases aS.1 hm with hm|hm
     ·exact od h1 hm
     ·exact q5 j g hm
    ·intro i Z0 Xx wY hi hj hk
     cases i with
     |zero=>simp at hi hj hk;subst hi;subst hj;subst hk;exact⟨cs,l1,fD,h1,fun x hx=>aC _ hx⟩
     |succ i=>
      obtain⟨tI,lo,r1,r2,r3⟩:=q6 i Z0 Xx wY (by simpa using hi) (by simpa using hj) (by simpa using hk)
      exact⟨tI,lo,r1,r2,fun x hx=>bC _ (r3 x hx)⟩
   ·cases h
  ·cases h
 | [],_::_,_,_,h=>by cases h
 |_::_,[],_,_,h=>by cases h
theorem Gy{ob:Ob}{ids:List Nat}{i id:Nat}(h:ids[i]? =some id):(p3 σ ob ids)[i]? =some id:=by
 have hl:i<ids.length:=(aH.1 h).1
 unfold p3
 split
 ·split
  ·split
   ·rw[aB hl];exact h
   ·exact h
  ·exact h
 ·exact h
theorem Im{lk:Option Nat}: ∀{k:Nat} {ids:List Nat} {rcs:List (List bD)} {id:Nat} {v:Option (Bool×List SC)},(id,v)∈Xv lk p k ids rcs→ ∃(i:Nat) (rc:List bD),ids[i]? =some id∧rcs[i]? =some rc∧v=some (false,xH lk rc (nf true p (.un (.cell (k+i)) (.var p)) 0 rc))
 |k,[],rcs,id,v,h=>by cases rcs<;>simp[Xv]at h
 |k,_::_,[],id,v,h=>by simp[Xv]at h
 |k,x::ids,rc::rcs,id,v,h=>by
  simp only[Xv,aM,ai]at h
  rcases h with⟨rfl,rfl⟩|h
  ·exact⟨0,rc,rfl,rfl,rfl⟩
  ·obtain⟨i,Z0,h1,h2,h3⟩:=Im h
   exact⟨i+1,Z0,by simpa using h1,by simpa using h2,by rw[h3,show k+1+i=k+(i+1) by omega]⟩
theorem Ku{lkk:Option Nat}{id:Nat}: ∀{k:Nat} {ids:List Nat} {rcs:List (List bD)},lk (Xv lkk p k ids rcs) id=none→ids.length≤rcs.length→id∉ids
 |k,[],rcs,_,_=>by simp
 |k,_::_,[],_,hl=>by simp at hl
 |k,x::ids,rc::rcs,h,hl=>by
  simp only[Xv,lk]at h
  split at h
  ·cases h
  ·rename_i hx
   simp only[aM,not_or]
   exact⟨hx,Ku h (by simpa using hl)⟩
theorem Gv: ∀{k:Nat} {rcs:List (List bD)} {x:Tag×Option (E×TypeId×Ty)},x∈AZ p k rcs→ ∃(i:Nat) (rc:List bD),rcs[i]? =some rc∧x∈nW p (.un (.cell (k+i)) (.var p)) 0 rc
 |k,[],x,h=>by simp[AZ]at h
 |k,rc::rcs,x,h=>by
  simp only[AZ,aS]at h
  rcases h with h|h
  ·exact⟨0,rc,rfl,h⟩
  ·obtain⟨i,Z0,h1,h2⟩:=Gv h
   exact⟨i+1,Z0,by simpa using h1,by rw[show k+(i+1)=k+1+i by omega];exact h2⟩
theorem qV{α β:Type}[DecidableEq α] : ∀{l:List (α×β)} {k:α},lk l k=none→ ∀v,(k,v)∉l
 | [],k,_,v=>by simp
 |(a,b)::l,k,h,v=>by
  simp only[lk]at h
  split at h
  ·cases h
  ·rename_i hk
   simp only[aM,ai,not_or,not_and]
   exact⟨fun e=>absurd e hk,qV h v⟩
theorem Kt{w:World}{S:bU}{τ:Nat→Value}: ∀{rcs:List (List bD)} {oo:List (List D)} {β:Nat→Nat} {k:Nat},oo.length=rcs.length→(∀(i:Nat) rc cells,rcs[i]? =some rc→oo[i]? =some cells→Gd w S τ rc (β (k+i)) cells)→
  dK (.dJ (rcs.flatten.map JC)) oo.flatten
 | [],[],β,k,_,_=>dr.2 rfl
 | [],_::_,_,_,h,_=>by simp at h
 |_::_,[],_,_,h,_=>by simp at h
 |rc::rcs,cells::oo,β,k,hl,h=>by
  obtain⟨jZ,T,_,h2,h3,h4,_⟩:=h 0 rc cells rfl rfl
  rw[eS,eS,cz]
  refine vw (jQ (by simp[h3]) fun j u x hj hx=> ?_) (Kt (k:=k+1) (β:=β) (by simpa using hl) (fun i Z0 c' hi hc=>by rw[show k+1+i=k+(i+1) by omega];exact h (i+1) Z0 c' (by simpa using hi) (by simpa using hc)))
  simp only[ah,da]at hj
  obtain⟨r,hr,rfl⟩:=hj
  have lZ:j<rc.length:=(aH.1 hr).1
  have:=h4 j r _ x hr (aW (by omega)) hx
  obtain⟨t,_|⟨j0,T0⟩⟩:=r
  ·exact this.2
  ·exact this.2.has
theorem rr{ops:Array Oper}{x:qJ}(hs:iq n w0 S0 C G σ a w)(hp: ¬C.M p)(yn:p<C.N)(hg:guardOf ops σ o=some pc)(eu:aU C.ρ pc=true)(h:jP P cs σ pc o=some x)
  (iF: ∀k sig,lk cs.l k=some sig→bh P k sig (Pre k) (Φ k)) (iw:eU C Φ Pre (.call p x.k x.args [])) (bP:(x.Hj p o.dst).yh.2.lt C.N=true) (eT: ∀d,o.dst=some d→d<n) (qp: ¬S0.fr) (mg: ¬S0.wz):
  fQ P n w0 S0 C ((x.Hj p o.dst).app σ) p ops a w o:=by
 intro K Q hK
 obtain⟨hw,hc⟩:=gg hs.t hg
 rw[hw,if_pos eu]
 unfold jP at h
 split at h
 ·rename_i f args argTypes ho
  split at h
  ·rename_i fe k' hf
   split at h
   ·rename_i sig pq
    split at h
    ·rename_i ob fX
     split at h
     ·rename_i es SK rI
      split at h
      ·rename_i zT l oH
       split at h
       ·rename_i lQ
        obtain⟨ids,kz⟩: ∃ids,ids=p3 σ ob SK:=⟨_,rfl⟩
        rw[←kz]at lQ oH h
        obtain⟨jA,alG,dm,uD,H0,Dk,mf,C3,P8,XK⟩:=lQ
        injection h with h;subst h
        have aof: ∀(i:Nat) id,SK[i]? =some id→ids[i]? =some id:=fun i id hi=>by rw[kz];exact Gy hi
        obtain⟨f1,f2,f3⟩:=cK hs.t (pc:=[]) rfl hf
        obtain⟨fl,wM,N8⟩:=mo.1 f3
        have Hu:fl=[] :=dr.1 N8
        subst Hu
        obtain⟨Lt,PR,uI,_⟩:=(wM▸f2).xN
        have Hv:Lt=[] :=au uI
        subst Hv
        have iP:=iF _ _ pq
        obtain⟨q1,q2,q3,q4,q5,q6⟩:=DZ oH
        let FN:Nat→Nat:=fun i=>G.β (ids.getD i 0)
        have BW: ∀(i:Nat) id,ids[i]? =some id→FN i=G.β id:=fun i id hi=>by show G.β (ids.getD i 0)=_;rw[av,hi];rfl
        obtain⟨fP,Uu⟩:=zi (k:=0) (β:=FN) hs.t eu rI (fun i id hi=>by rw[ay];exact BW i id (aof i id hi))
        have Qc: ∀id∈ids,C.M id:=fun id hi=>by obtain⟨cs,kP⟩:=q4 id hi;exact hs.m.pb _ _ kP
        have abv:p∉ids:=fun hi=>hp (Qc p hi)
        have Sf:(l.map (·.1)).Nodup:=by
         unfold rk at dm
         simp only[bc,bQ]at dm
         exact dm.2
        let RU:=rJ G l
        let dd:=es.map fun x=>den C.ρ x.1
        let oo:=zT.map fun es=>es.map (den C.ρ)
        have gA:(den C.ρ (.dJ (es.map (·.1)++zT.flatten))).aV=dd++oo.flatten:=by
         rw[gG]
         simp only[D.aV,cz,List.map_map,dd,oo,List.map_flatten]
         rfl
        have Pd: ∀(i:Nat) rc cells,ob.cC[i]? =some rc→oo[i]? =some cells→Gd w G.S RU rc (FN i) cells:=by
         intro i rc cells hi VG
         simp only[oo,ah,da]at VG
         obtain⟨ees,av1,rfl⟩:=VG
         have iJ:i<ids.length:=by rw[q2];exact(aH.1 hi).1
         have fD:ids[i]? =some ids[i] :=aW iJ
         obtain⟨ccs,lo,r1,r2,r3⟩:=q6 i rc _ ees hi fD av1
         obtain⟨b1,b2,fZ,b5⟩:=hs.m.box _ _ _ r1
         obtain⟨vs,T,b3,b4⟩:=fZ.cells (mc r2)
         obtain⟨k1,k2,k3⟩:=lj (L:=l) hs.m Sf r2 b4 r3
         rw[BW i _ fD]
         refine⟨vs,T,b3,k2,by simp[k1],fun j r v d hr hv hd=> ?_,by simpa using b5⟩
         simp only[ah,da]at hd
         obtain⟨e,he,rfl⟩:=hd
         exact k3 j r v e hr hv he
        have ly:Ge w G.S ob FN RU (args.toList.map a.eval) dd oo:=by
         refine⟨hs.m.dO,fP,by simp[oo,q1],Pd,?_,?_,?_,?_⟩
         ·intro i j hi hj he
          have h1:ids[i]? =some (ids[i]'(by omega)):=aW _
          have h2:ids[j]? =some (ids[j]'(by omega)):=aW _
          rw[BW i _ h1,BW j _ h2]at he
          obtain⟨c1,qZ⟩:=q4 _ (aX (l:=ids) (n:=i) (by omega))
          obtain⟨c2,wP⟩:=q4 _ (aX (l:=ids) (n:=j) (by omega))
          have:=hs.m.inj _ _ _ _ qZ wP he
          exact(List.getElem_inj alG).1 this
         ·intro j k b hj hk Sn Jv
          unfold Ob.kU at hj hk
          rw[q3]at hj hk
          exact AF hs.m dm q5 hj hk Sn Jv
         ·intro j i b hj hi hb he
          unfold Ob.kU at hj
          rw[q3]at hj
          obtain⟨g,Sj,jq⟩:=yP dm hj hb
          obtain⟨z,hz⟩:=q5 _ _ Sj
          have h1:ids[i]? =some (ids[i]'(by omega)):=aW _
          obtain⟨c1,qZ⟩:=q4 _ (aX (l:=ids) (n:=i) (by omega))
          rw[BW i _ h1]at he
          exact hs.m.eV g _ z _ b hz qZ jq he
         ·intro Ft o c rc ho hc
          have mM:o<ob.cC.length:=(aH.1 ho).1
          have h1:ids[o]? =some (ids[o]'(by omega)):=aW _
          have h2:ids[ob.cC.length-1]? =some (ids[ob.cC.length-1]'(by omega)):=aW _
          obtain⟨ccs,r1⟩:=q4 _ (aX (l:=ids) (n:=o) (by omega))
          have LD:F5 ob ids=some (ids[ob.cC.length-1]'(by omega)):=by unfold F5;rw[if_pos Ft,h2]
          rw[LD]at P8
          have xA:=D3 P8 ho h1 r1
          obtain⟨b1,b2,fZ,b5⟩:=hs.m.box _ _ _ r1
          obtain⟨aBV,lo,r1',r2,_⟩:=q6 o rc _ _ ho h1 (aW (by rw[q1];exact mM))
          rw[r1]at r1'
          injection r1' with r1'
          simp only[ai,true_and]at r1'
          subst r1'
          obtain⟨vs,T,b3,b4⟩:=fZ.cells (mc r2)
          obtain⟨k1,k2,_⟩:=lj (L:=l) hs.m Sf r2 b4 (fun x hx=>by
           obtain⟨aBU,tE,y1,y2,y3⟩:=q6 o rc _ _ ho h1 (aW (by rw[q1];exact mM))
           rw[r1]at y1
           injection y1 with y1
           simp only[ai,true_and]at y1
           subst y1
           rw[r2]at y2
           injection y2 with y2
           simp only[ai,true_and]at y2
           subst y2
           exact y3 x hx)
          have jY:c<rc.length:=(aH.1 hc).1
          have Hh:c<vs.length:=by rw[k2];exact jY
          have qt:c<ccs.length:=by rw[←b4.1];exact Hh
          have P5:=AI xA hc (aW qt)
          have hrs:=b4.2 c _ _ (aW qt) (aW Hh)
          rw[P5]at hrs
          obtain⟨_,zN⟩:=hrs
          rw[BW o _ h1,BW _ _ h2,cell_of_row w _ c _ T (0,0) b3]
          rw[dq,aW Hh,zN]
        have iR:dK (.dJ sig.params) (dd++oo.flatten):=by
         rw[←jA]
         exact vw Uu (Kt (k:=0) (β:=FN) (by simp[oo,q1]) (fun i rc cells hi jY=>by rw[ay];exact Pd i rc cells hi jY))
        obtain⟨_,_,wL,ks⟩:=iw
        have lS:=ks rfl
        rw[gA]at wL lS
        have fh:(execOp a.eval o).run P w= .ok (.enter k' (args.toList.map a.eval).toArray) w:=by
         have e1:(args.toList.map a.eval).toArray=args.map a.eval:=by apply dg;simp
         unfold execOp;simp only[ho,resolve,PR,Deferred.ofValue,e1]
         have:=iP.enter (args.map a.eval) w
         simpa [invoke]using this
        unfold Oper.wp
        rw[fh]
        have avC:ob.Ae=false:=by
         rw[dF];intro xw
         unfold Ob.Ae at xw
         simp only[bc,List.isEmpty_iff,beq_iff_eq]at xw
         obtain⟨⟨_,h1⟩,h2⟩:=xw
         have h3:=Dk
         rw[h2,C3,h1]at h3
         cases nk:ob.new<;>rw[nk]at h3<;>simp at h3
        refine(iP.Dx ob fX avC w G.S FN RU _ dd oo ly iR lS).mono ?_
        rintro e' w' ⟨v,S',τ',βn,rfl,ku⟩
        simp only
        rw[←wL]at ku
        obtain⟨d0,outs,hd,mM,fi,ag3⟩:=ku.res
        let WW:Nat:=if ob.new=true∨ob.mv=true then βn else G.β p
        let G':Gh:={S:=S',β:=fU G.β p WW,τ:=fun g=>if g.1=p then τ' g.2 else G.τ g}
        have iI: ∀j,G'.τ (p,j)=τ' j:=fun j=>if_pos rfl
        have hM:(C.add p).M p:=.inr rfl
        have hvp:(E.var p).lt C.N=true:=by simpa [E.lt]using yn
        have alz: ∀j,(E.un (.cell j) (.var p)).lt (C.add p).N=true:=fun j=>hvp
        have abA: ∀i j,(E.un (.cell j) (.un (.cell i) (.var p))).lt (C.add p).N=true:=fun i j=>hvp
        have VI:den C.ρ (.un (.cell 0) (.var p))=d0:=by simp only[den,U.den,hd,D.aV];rfl
        have VH: ∀(i:Nat) cells,outs[i]? =some cells→den C.ρ (.un (.cell (1+i)) (.var p))= .agg cells:=by
         intro i cells hi
         simp only[den,U.den,hd,D.aV]
         exact hZ (by rw[Nat.add_comm];simp[hi])
        have UC: ∀id∈ids,G'.β id=G.β id:=fun id hi=>fJ _ _ (fun e=>abv (e▸hi))
        have afn:ob.new=true→WW=βn:=fun nk=>if_pos (.inl nk)
        have afm:ob.mv=true→WW=βn:=fun nk=>if_pos (.inr nk)
        have DI:ob.mv=true→(ids[ob.cC.length-1]? =some (ids.getD (ob.cC.length-1) 0)∧ids.getD (ob.cC.length-1) 0∈ids):=by
         intro hm
         have h3:=XK hm
         have h4:ids[ob.cC.length-1]? =some (ids[ob.cC.length-1]'(by omega)):=aW _
         have h5:ids.getD (ob.cC.length-1) 0=ids[ob.cC.length-1]'(by omega):=by rw[av,h4];rfl
         rw[h5]
         exact⟨h4,aX _⟩
        have aow:ob.mv=true→fg σ.hp (qJ.Hj ⟨k',.dJ (es.map (·.1)++zT.flatten),sig,ob,ids,l⟩ p o.dst).hp (ids.getD (ob.cC.length-1) 0)=none:=by
         intro hm
         have E2:ids.getD (ob.cC.length-1) 0∉mY ob ids p:=by
          unfold mY
          rw[if_pos hm]
          intro hh
          rcases aS.1 hh with hh|hh
          ·obtain⟨i,hi⟩:=aE hh
           rw[aG]at hi
           split at hi
           ·rename_i iJ
            have h6:=(DI hm).1
            have h7:=(aH.1 hi)
            obtain⟨h8,h9⟩:=h7
            obtain⟨RR,XS⟩:=aH.1 h6
            have:=(List.getElem_inj alG (h₀:=h8) (h₁:=RR)).1 (h9.trans XS.symm)
            omega
           ·cases hi
          ·simp only[aA]at hh
           exact abv (hh▸(DI hm).2)
         unfold fg qJ.Hj
         simp only[hm,if_true]
         split
         ·rename_i y hy
          rcases aS.1 (jK hy) with h7|h7
          ·obtain⟨i,rc,h8,_⟩:=Im h7
           exact absurd (ca h8) E2
          ·simp only[aA,ai]at h7
           exact h7.2
         ·rename_i hy
          exact absurd (bC _ (aA.2 rfl)) (qV hy none)
        have aes: ∀(i:Nat) id rc,(mY ob ids p)[i]? =some id→ob.outs[i]? =some rc→ ∃cells,outs[i]? =some cells∧Gd w' S' τ' rc (G'.β id) cells∧(id∈ids∨(id=p∧(w.heap.size≤WW∨ ∃Ha∈ids,WW=G.β Ha∧fg σ.hp (qJ.Hj ⟨k',.dJ (es.map (·.1)++zT.flatten),sig,ob,ids,l⟩ p o.dst).hp Ha=none)))∧lF ob FN βn i=G'.β id:=by
         intro i id rc hi pT
         have hoi:i<outs.length:=by rw[mM];exact(aH.1 pT).1
         have hoc:outs[i]? =some outs[i] :=aW hoi
         have hko:=ag3 i rc _ pT hoc
         cases mI:ob.mv with
         |true=>
          have OH:=Ob.HY mI
          unfold mY at hi
          rw[mI,if_pos rfl]at hi
          have hle:(ids.take (ob.cC.length-1)).length=ob.cC.length-1:=by rw[bj];omega
          by_cases xG:i<ob.cC.length-1
          ·rw[aB (by omega),aG,if_pos xG]at hi
           have Tg:id∈ids:=ca hi
           have e1:lF ob FN βn i=G'.β id:=by unfold lF;rw[if_pos ⟨by omega,fun h=>by omega⟩,BW i id hi,UC id Tg]
           exact⟨_,hoc,e1▸hko,.inl Tg,e1⟩
          ·rw[aF (by omega)]at hi
           have Sh:i-(ids.take (ob.cC.length-1)).length=0:=by
            have:=(aH.1 hi).1
            simp at this;omega
           rw[Sh]at hi
           simp only[dt,ae]at hi
           subst hi
           have iJ:i=ob.cC.length-1:=by have:=XK mI;omega
           have e1:lF ob FN βn i=G'.β p:=by
            unfold lF
            rw[if_neg (fun h=>h.2 ⟨mI,iJ⟩)]
            show βn=fU G.β p WW p
            rw[eB,afm mI]
           refine⟨_,hoc,e1▸hko,.inr ⟨rfl,?_⟩,e1⟩
           rw[afm mI]
           rcases ku.mvd mI with h|h
           ·exact .inr ⟨_,(DI mI).2,h.trans (BW _ _ (DI mI).1),aow mI⟩
           ·exact .inl h
         |false=>
         unfold mY at hi
         simp only[mI,ak,if_false]at hi
         by_cases xG:i<ids.length
         ·rw[aB xG]at hi
          have Tg:id∈ids:=ca hi
          have e1:lF ob FN βn i=G'.β id:=by unfold lF;rw[if_pos ⟨by omega,fun h=>by rw[mI]at h;cases h.1⟩,BW i id hi,UC id Tg]
          exact⟨_,hoc,e1▸hko,.inl Tg,e1⟩
         ·rw[aF (by omega)]at hi
          cases nk:ob.new with
          |false=>rw[nk]at hi;simp at hi
          |true=>
           rw[nk]at hi fi
           simp only[if_true]at hi fi
           have Sh:i-ids.length=0:=by
            have:=(aH.1 hi).1
            simp at this;omega
           rw[Sh]at hi
           simp only[dt,ae]at hi
           subst hi
           have e1:lF ob FN βn i=G'.β p:=by
            unfold lF
            rw[if_neg (fun h=>by omega)]
            show βn=fU G.β p WW p
            rw[eB,afn nk]
           exact⟨_,hoc,e1▸hko,.inr ⟨rfl,.inl (by rw[afn nk];exact fi.2)⟩,e1⟩
        have abw:(mY ob ids p).length=ob.outs.length:=by
         unfold mY
         cases mI:ob.mv with
         |true=>
          have OH:=Ob.HY mI
          have:=XK mI
          rw[OH]at Dk
          simp only[if_true,an,bj,bG,Bool.toNat_false]at Dk⊢
          omega
         |false=>
          simp only[ak,if_false,an]
          rw[Dk]
          cases ob.new<;>simp
        have cJ: ∀y∈(if ob.new then [] else qa p (.un (.cell 0) (.var p)) sig.res)++AZ p 1 ob.outs,Au (C.add p) w' 0 G' p (mn sig ob) y:=by
         intro y hy
         rcases aS.1 hy with hy|hy
         ·cases nk:ob.new with
          |true=>rw[nk]at hy;simp at hy
          |false=>
           rw[nk]at hy fi
           simp only[ak,if_false]at hy fi
           have qG:iL w' 0 G'.S τ' sig.res v (den (C.add p).ρ (.un (.cell 0) (.var p))):=by
            show iL w' 0 S' τ' sig.res v (den C.ρ _)
            rw[VI];exact fi
           obtain⟨z1,z2,z3⟩:=Bh (C:=C.add p) (G:=G') qG hM (alz _) iI y hy
           exact⟨z1,aC _ z2,z3⟩
         ·obtain⟨i,rc,pT,hy⟩:=Gv hy
          obtain⟨j,r,hr,hy⟩:=rC _ _ _ _ _ hy
          have iJ:i<(mY ob ids p).length:=by
           rw[abw];exact(aH.1 pT).1
          obtain⟨cells,jY,⟨jZ,T,_,v2,v3,v4,_⟩,_,_⟩:=aes i _ rc (aW iJ) pT
          have lZ:j<rc.length:=(aH.1 hr).1
          have hdj:cells[j]? =some (cells[j]'(by omega)):=aW _
          have:=v4 j r _ _ hr (aW (by omega)) hdj
          refine vB (C:=C.add p) (G:=G') (idx:=mn sig ob) this hM (abA _ _) ?_ iI (fun j0 T0 XL=> ?_) y hy
          ·show den C.ρ (.un (.cell (0+j)) (.un (.cell (1+i)) (.var p)))=_
           have e2:den C.ρ (.un (.cell (0+j)) (.un (.cell (1+i)) (.var p)))=(U.cell (0+j)).den (den C.ρ (.un (.cell (1+i)) (.var p))):=rfl
           rw[e2,VH i _ jY]
           simp only[U.den,D.aV,ay]
           exact hZ hdj
          ·unfold mn
           refine bC _ (dh.2 ⟨rc,ca pT,?_⟩)
           unfold JV
           exact bH.2 ⟨r,ca hr,by rw[XL];rfl⟩
        let kill:List Tag:=l.filterMap (·.2)
        have ag4: ∀g:Tag,((g,none):Tag×Option (E×TypeId×Ty))∈(l.filterMap fun y=>y.2.map fun g=>((g,none):Tag×Option (E×TypeId×Ty)))↔g∈kill:=by
         intro g
         simp only[bH,kill]
         constructor
         ·rintro⟨y,hy,zW⟩
          cases hy3:y.2 with
          |none=>rw[hy3]at zW;cases zW
          |some g'=>rw[hy3]at zW;simp at zW;subst zW;exact⟨y,hy,hy3⟩
         ·rintro⟨y,hy,zW⟩
          exact⟨y,hy,by rw[zW];rfl⟩
        have ag5: ∀g z,(g,some z)∉(l.filterMap fun y=>y.2.map fun g=>((g,none):Tag×Option (E×TypeId×Ty))):=by
         intro g z hm
         simp only[bH]at hm
         obtain⟨y,_,zW⟩:=hm
         cases hy3:y.2 with
         |none=>rw[hy3]at zW;cases zW
         |some g'=>rw[hy3]at zW;simp at zW
        have aor: ∀g∈kill,∃j,(j,some g)∈l:=by
         intro g hg
         simp only[kill,bH]at hg
         obtain⟨⟨j,y⟩,hy,zW⟩:=hg
         simp only at zW
         subst zW
         exact⟨j,hy⟩
        let Hj:jI:=qJ.Hj ⟨k',.dJ (es.map (·.1)++zT.flatten),sig,ob,ids,l⟩ p o.dst
        have H3: ∀g z,fg σ.live Hj.live g=some z→(g.1≠p∧g∉kill∧σ.live g=some z)∨Au (C.add p) w' 0 G' p (mn sig ob) (g,some z):=by
         intro g z hz
         unfold fg at hz
         split at hz
         ·rename_i y hy
          subst hz
          have mN:=jK hy
          have aby:(g,some z)∈(l.filterMap fun y=>y.2.map fun g=>((g,none):Tag×Option (E×TypeId×Ty)))++(if ob.new then [] else qa p (.un (.cell 0) (.var p)) sig.res)++AZ p 1 ob.outs:=mN
          rw[ez]at aby
          rcases aS.1 aby with hm|hm
          ·exact absurd hm (ag5 g z)
          ·exact .inr (cJ _ hm)
         ·rename_i hy
          refine .inl ⟨fun e=>hp (e▸(hs.m.own g z.1 z.2.1 z.2.2 hz).m),fun hk=> ?_,hz⟩
          refine qV hy none ?_
          show(g,none)∈(l.filterMap fun y=>y.2.map fun g=>((g,none):Tag×Option (E×TypeId×Ty)))++(if ob.new then [] else qa p (.un (.cell 0) (.var p)) sig.res)++AZ p 1 ob.outs
          rw[ez]
          exact aC _ ((ag4 g).2 hk)
        have alH: ∀id z,fg σ.hp Hj.hp id=some z→(id∉ids∧id≠p∧σ.hp id=some z)∨ ∃(i:Nat) (rc:List bD),(mY ob ids p)[i]? =some id∧ob.outs[i]? =some rc∧z=(false,xH (F3 ob ids p) rc (nf true p (.un (.cell (1+i)) (.var p)) 0 rc)):=by
         intro id z hz
         unfold fg at hz
         split at hz
         ·rename_i y hy
          subst hz
          rcases aS.1 (jK hy) with om|om
          ·obtain⟨i,rc,h1,h2,h3⟩:=Im om
           injection h3 with h3
           exact .inr ⟨i,rc,h1,h2,h3⟩
          ·split at om<;>simp at om
         ·rename_i hy
          have zW:=qV hy
          have hni:id∉mY ob ids p:=by
           refine Ku (p:=p) (lkk:=F3 ob ids p) (k:=1) (ids:=mY ob ids p) (rcs:=ob.outs) ?_ (by rw[abw];exact bn _)
           cases hq:lk (Xv (F3 ob ids p) p 1 (mY ob ids p) ob.outs) id with
           |none=>rfl
           |some v=>exact absurd (aC _ (jK hq)) (zW v)
          refine .inl ⟨fun hi=> ?_,?_,hz⟩
          ·unfold mY at hni
           cases mI:ob.mv with
           |false=>
            simp only[mI,ak,if_false]at hni
            exact hni (aC _ hi)
           |true=>
            simp only[mI,if_true]at hni
            have h3:=XK mI
            obtain⟨i,iJ,N7⟩:=gw hi
            by_cases xG:i<ob.cC.length-1
            ·refine hni (aC _ (ca (i:=i) ?_))
             rw[aG,if_pos xG,aW iJ,N7]
            ·have vL:i=ob.cC.length-1:=by omega
             have h6:=(DI mI).1
             rw[←vL,aW iJ,N7]at h6
             injection h6 with h6
             refine zW none (bC _ ?_)
             simp only[mI,if_true,aA,ai,and_true]
             rw[h6,vL]
          rintro rfl
          exact hp (hs.m.pb _ _ hz)
        have aom: ∀j id y z b,fg σ.live Hj.live (p,j)=some y→fg σ.hp Hj.hp id=some z→(id∈ids∨id=p)→(τ' j).ownBlock=some b→b≠G'.β id:=by
         intro j id y z b hy hz fD hb
         rcases H3 _ _ hy with⟨h1,_⟩|Ch
         ·exact absurd rfl h1
         ·rcases alH id z hz with⟨h1,h2,_⟩|⟨i,rc,h1,h2,_⟩
          ·rcases fD with fD|fD
           ·exact absurd fD h1
           ·exact absurd fD h2
          ·obtain⟨cells,_,_,_,he⟩:=aes i id rc h1 h2
           rw[←he]
           exact ku.eV j i b Ch.2.1 (aH.1 h2).1 hb
        obtain⟨cp,hm⟩:=hs.m.YR hp (τ':=τ') (βn:=WW) (ids:=ids) (kill:=kill) (mu:=xB ob FN RU) ku.below
         (by
          rintro b (⟨i,hi,rfl⟩|⟨j,hj,hb⟩)
          ·have h1:ids[i]? =some (ids[i]'(by omega)):=aW _
           exact .inl ⟨_,aX (l:=ids) (n:=i) (by omega),BW i _ h1⟩
          ·unfold Ob.kU at hj
           rw[q3]at hj
           obtain⟨g,Sj,jq⟩:=yP dm hj hb
           exact .inr ⟨g,bH.2 ⟨_,Sj,rfl⟩,jq⟩)
         q4 (fun g hg=>by obtain⟨j,hj⟩:=aor g hg;exact q5 j g hj) ku.kJ ku.lt ku.new ku.keep (fg σ.hp Hj.hp) (fg σ.live Hj.live) G' rfl
         (by
          intro id z hz
          rcases alH id z hz with h1|⟨i,rc,h1,h2,rfl⟩
          ·exact .inl h1
          ·obtain⟨cells,jY,⟨jZ,T,v1,v2,v3,v4,v5⟩,fD,FY⟩:=aes i id rc h1 h2
           refine .inr ⟨rfl,fD,?_,kY.mk (vs:=jZ) (T:=T) v1 ⟨?_,?_⟩,v5⟩
           ·rw[cn]
            intro c Jg
            obtain⟨j,hj⟩:=aE Jg
            obtain⟨c0,hj,gY⟩:=vd hj
            rcases gY with rfl|⟨_,_,_,rfl⟩
            rotate_left
            ·rfl
            rw[qX]at hj
            simp only[da]at hj
            obtain⟨r,hr,rfl⟩:=hj
            have:=cn.1 (cn.1 mf rc (ca h2)) r (ca hr)
            obtain⟨t,_|⟨j0,T0⟩⟩:=r
            ·exact this
            ·cases PS:Fe j0<;>simp[p8,PS,SC.scalar]
           ·show _=(xH _ _ _).length
            rw[D7,vA,v2]
           ·intro j c u hj hu
            obtain⟨c0,hj,gY⟩:=vd hj
            rcases gY with rfl|⟨RG,qv,hrj,rfl⟩
            rotate_left
            ·by_cases mI:ob.mv=true
             ·unfold F3 at qv
              rw[if_pos mI]at qv
              injection qv with qv
              subst qv
              have PL:=ku.link (XK mI) i j rc h2 hrj
              rw[FY,cell_of_row w' _ j _ T (0,0) v1,dq,hu]at PL
              injection PL with PL
              refine⟨hM,?_⟩
              rw[PL]
              unfold lF
              rw[if_neg (fun h=>h.2 ⟨mI,rfl⟩)]
              show _=Value.pointer (some ⟨fU G.β p WW p,0,none⟩)
              rw[eB,afm mI]
             unfold F3 at qv
             rw[if_neg mI]at qv
             have Ft:ja ob.shape<ob.cC.length:=by
              unfold F5 at qv
              split at qv
              ·assumption
              ·cases qv
             have alA:ids[ob.cC.length-1]? =some RG:=by
              unfold F5 at qv
              rw[if_pos Ft]at qv
              exact qv
             have hm2:RG∈ids:=ca alA
             have PL:=ku.link Ft i j rc h2 hrj
             rw[FY,cell_of_row w' _ j _ T (0,0) v1,dq,hu]at PL
             injection PL with PL
             refine⟨.inl (Qc RG hm2),?_⟩
             unfold lF at PL
             rw[if_pos ⟨by omega,fun h=>mI h.1⟩]at PL
             rw[PL,BW _ _ alA,UC RG hm2]
            rw[qX]at hj
            simp only[da]at hj
            obtain⟨r,hr,rfl⟩:=hj
            have lZ:j<rc.length:=(aH.1 hr).1
            have hdj:cells[j]? =some (cells[j]'(by omega)):=aW _
            refine wI (C:=C.add p) (G:=G') (v4 j r u _ hr hu hdj) hM (abA _ _) ?_ iI true
            show den C.ρ (.un (.cell (0+j)) (.un (.cell (1+i)) (.var p)))=_
            have e2:den C.ρ (.un (.cell (0+j)) (.un (.cell (1+i)) (.var p)))=(U.cell (0+j)).den (den C.ρ (.un (.cell (1+i)) (.var p))):=rfl
            rw[e2,VH i _ jY]
            simp only[U.den,D.aV,ay]
            exact hZ hdj)
         (by
          intro g z hz
          rcases H3 g z hz with h1|Ch
          ·exact .inl h1
          ·obtain⟨z1,z2,e,T,t,z3,z4⟩:=Ch
           injection z3 with z3;subst z3
           exact .inr ⟨z1,z4,fun b hb=>ku.gS g.2 b z2 hb⟩)
         (by
          intro j k y z b hy hz xA xz
          rcases H3 _ _ hy with⟨h1,_⟩|xy
          ·exact absurd rfl h1
          ·rcases H3 _ _ hz with⟨h1,_⟩|qq
           ·exact absurd rfl h1
           ·exact ku.own j k b xy.2.1 qq.2.1 xA xz)
         aom qp mg
        refine hK _ _ _ (hs.step (o:=o) (e:=Hj) cp (hm.congr rfl rfl) rfl bP (by intro x hx;cases hx) ?_ eT)
        intro _
        rw[if_pos (show aU C.ρ Hj.yh.1=true from rfl)]
        show Ab (C.add p) w' G' (if ob.new then .one (.r9 p 0) else xL true p (.un (.cell 0) (.var p)) sig.res) v
        cases nk:ob.new with
        |true=>
         rw[nk]at fi
         simp only[if_true]at fi⊢
         refine⟨hM,?_⟩
         rw[fi.1]
         show _=Value.pointer (some ⟨fU G.β p WW p,0,none⟩)
         rw[eB,afn nk]
        |false=>
         rw[nk]at fi
         simp only[ak,if_false]at fi⊢
         have qG:iL w' 0 G'.S τ' sig.res v (den (C.add p).ρ (.un (.cell 0) (.var p))):=by
          show iL w' 0 S' τ' sig.res v (den C.ρ _)
          rw[VI];exact fi
         exact Gq (C:=C.add p) (G:=G') qG hM (alz _) iI true
       ·cases h
      ·cases h
     ·cases h
    ·cases h
   ·cases h
  ·cases h
 ·cases h
end
section
variable{P:Program}(w:World)
theorem Cb(t ty e:TypeId)(i:TypeInfo)(z:Value)(size:Nat)(ht:P.underlying t=some (.slice e))(hi:P.info? e=some i)(hz:i.zero=some z)
  (OC:i.size=size) (yl:z.cells.size=size) (ad:Addr) (n:Nat) (xs:List Value) (nq:xs.length=n*size) (holds: ∀(j:Nat) v,xs[j]? =some v→w.cell? (ad.add j)=some v)
  (A:Option Addr) (m c:Nat) (news:List Value) (hA:A=none→m=0) (hl:news.length=m*size)
  (rL: ∀a,A=some a→ ∀(j:Nat) u,news[j]? =some u→w.cell? (a.add j)=some u) (hm:0<m)
  (h63:n+m≤maxLen) (H5:(n+m)*i.bytes≤140737488355328):
  ∃v' w',(Builtin.append_ #[t,t] ty #[.slice (some ad) n n,.slice A m c]).run P w= .ok v' w'∧w'.ownsRow 0 e size v' (n+m) (xs++news)∧v'.ownBlock=some w.heap.size∧w.grownBy w' none:=by
 subst OC
 have DE:n+m≤9223372036854775807:=by simp only[maxLen]at h63;omega
 have hlen:(xs++news).length=(n+m)*i.size:=by rw[an,nq,hl,cw]
 obtain⟨a,rfl⟩: ∃a,A=some a:=by
  cases A with
  |none=>have:=hA rfl;omega
  |some a=>exact⟨a,rfl⟩
 have hr:=run_append_grow (P:=P) w t ty e i z ht hi hz ad n n xs nq holds a m c news hl (rL a rfl) (by omega) (by omega) (growslice_fits (by omega) H5)
 have ou:=grownCap_ge w (n+m) n e
 have Jg:grownCap w (n+m) n e≤maxLen:=grownCap_le_maxLen w (n+m) n e h63
 refine⟨_,_,hr,⟨hlen,.inr ⟨w.heap.size,_,_,rfl,bf _,heap_alloc_new w.drew _,ou,Jg,?_,?_⟩⟩,rfl,⟨rfl,rfl,rfl,by simp,fun k hk _=>heap_alloc_old w.drew _ k hk⟩⟩
 ·simp only[Array.size_append,cS,size_zeroCells,yl,nq,hl,←cw]
  congr 1
  omega
 ·simp only[Array.toList_append,ez]
  rw[←ez,←hlen]
  exact List.take_left
end
section
variable{P:Program}{C:Cx}{w w0:World}{S0:iu}{G:Gh}{σ:St}{a:Act}{o:Oper}{pc:dI}{s:SV}{is:List Item}{Φ:Nat→List D→D}{Pre:Nat→List D→Prop}{n p:Nat}{cs:o3}
theorem fR(hm:fp w0 S0 C G σ w)(hp: ¬C.M p){g:Tag}{x:E×TypeId×Ty}(h:σ.live g=some x):g.1≠p:=
 fun e=>hp (e▸(hm.own g x.1 x.2.1 x.2.2 h).m)
theorem j7.Ms{base Kc:Nat}{g:Tag}{e:E}{T:TypeId}{t:Ty}(h:j7 C w base G g e T t)(hb: ∀b,(G.τ g).ownBlock=some b→Kc≤b):j7 C w Kc G g e T t:=by
 obtain⟨xs,l,hd,dm,Um⟩:=h.own
 refine⟨h.m,h.lt,h.has,xs,l,hd,⟨dm.1,?_⟩,Um⟩
 rcases dm.2 with hn|⟨b,cap,cur,hv,Sp,hg⟩
 ·exact .inl hn
 ·exact .inr ⟨b,cap,cur,hv,hb b (by rw[hv];rfl),hg⟩
theorem IB{ops:Array Oper}{k:Nat}{e:E}{sig:dQ}(hs:iq n w0 S0 C G σ a w)(hp: ¬C.M p)(yn:p<C.N)(hg:guardOf ops σ o=some pc)(h:An P cs σ pc o=some (k,e,sig))
  (iF: ∀k sig,lk cs.l k=some sig→bh P k sig (Pre k) (Φ k)) (iw:eU C Φ Pre (.call p k e pc)) (bP:(ny pc.isEmpty p sig.res).lt C.N=true) (eT: ∀d,o.dst=some d→d<n) (items:List Item) (nk:S0.fr→yy P cs σ pc o=true) (mg: ¬S0.wz):
  fQ P n w0 S0 C ((⟨o.dst,(pc,ny pc.isEmpty p sig.res),[],if pc.isEmpty then iy p sig.res else [],[],items⟩:jI).app σ) p ops a w o:=by
 intro K Q hK
 obtain⟨hw,hc⟩:=gg hs.t hg
 rw[hw]
 have afo:aU C.ρ pc=false→pc.isEmpty=false:=by intro h;cases pc<;>first|rfl|(simp[aU]at h)
 cases eu:aU C.ρ pc with
 |false=>
  simp only[ak,if_false]
  have hm:fp w0 S0 (C.add p) G ((⟨o.dst,(pc,ny pc.isEmpty p sig.res),[],if pc.isEmpty then iy p sig.res else [],[],items⟩:jI).app σ) w:=
   (hs.m.pV p).congr (dM _) (by simp only[jI.app,afo eu,ak,if_false];exact dM _)
  exact hK _ _ _ (hs.step (o:=o) (e:=⟨o.dst,(pc,ny pc.isEmpty p sig.res),[],if pc.isEmpty then iy p sig.res else [],[],items⟩) (dT.pV C w G p) hm rfl bP hc
   (by intro _;simp only[eu,ak,if_false]) eT)
 |true=>
  simp only[if_true]
  unfold An at h
  split at h
  ·rename_i f args argTypes ho
   split at h
   ·rename_i fe k' fs es hf rI
    split at h
    ·rename_i mJ pq
     split at h
     ·rename_i lQ
      obtain⟨fX,jA,uj,H0,hnx⟩:=lQ
      obtain⟨rfl,hE,rfl⟩:=RA h
      obtain⟨f1,f2,f3⟩:=cK hs.t eu hf
      obtain⟨fl,wM,N8⟩:=mo.1 f3
      obtain⟨Lt,PR,uI,hcr⟩:=(wM▸f2).xN
      obtain⟨k1,k2⟩:=KQ hs.t eu rI
      have iP:=V0 pq iF
      have gA:(den C.ρ e).aV=(es.map fun x=>den C.ρ x.1)++fl:=by
       rw[←hE,gG]
       simp only[D.aV,cz,List.map_map]
       congr 1
       apply gi
       intro i
       simp only[ah,n3,Option.map_map]
       cases hi:(fs.aV)[i]? with
       |none=>
        have:fl.length≤i:=by rw[il N8];exact eO.1 hi
        simp[fM this]
       |some t=>
        obtain⟨x,hx,_⟩:=dY N8 i t hi
        simp only[aP,Function.comp,den,U.den,wM,D.aV,ay,hZ hx,hx]
      have Wt:(args.toList.map a.eval++Lt).length=((es.map fun x=>den C.ρ x.1)++fl).length:=by simp[k1,uI]
      have fh:(execOp a.eval o).run P w= .ok (.enter k' (args.toList.map a.eval++Lt).toArray) w:=by
       have e1:(args.toList.map a.eval++Lt).toArray=args.map a.eval++Lt.toArray:=by apply dg;simp
       unfold execOp;simp only[ho,resolve,PR,Deferred.ofValue,e1]
       have:=iP.enter (args.map a.eval++Lt.toArray) w
       simpa [invoke]using this
      unfold Oper.wp
      rw[fh]
      have qf: ∀(i:Nat) v d,(args.toList.map a.eval++Lt)[i]? =some v→((es.map fun x=>den C.ρ x.1)++fl)[i]? =some d→cH w G.S v d:=by
       intro i v d hv hd
       by_cases hi:i<args.toList.length
       ·rw[aB (by simpa using hi)]at hv
        rw[aB (by rw[aw,k1];exact hi)]at hd
        simp only[ah,da]at hv hd
        obtain⟨x,hx,rfl⟩:=hv
        obtain⟨y,hy,rfl⟩:=hd
        exact(k2 i x y hx hy).1
       ·rw[aF (by simpa using hi)]at hv
        rw[aF (by rw[aw,k1];omega)]at hd
        simp only[aw]at hv hd
        rw[k1]at hd
        exact hcr _ v d hv hd
      have iR:dK (.dJ mJ.params) ((es.map fun x=>den C.ρ x.1)++fl):=by
       rw[←jA]
       refine jQ (by simp[il N8]) fun j u x hj hx=> ?_
       by_cases hi:j<es.length
       ·rw[aB (by simpa using hi)]at hj hx
        simp only[ah,da]at hj hx
        obtain⟨y,hy,rfl⟩:=hj
        obtain⟨y',om,rfl⟩:=hx
        rw[hy]at om;injection om with om;subst om
        have hlen:j<args.toList.length:=by rw[←k1];exact hi
        exact(k2 j _ y (aW hlen) hy).2
       ·rw[aF (by simpa using hi)]at hj hx
        simp only[aw]at hj hx
        obtain⟨y,hy,hhy⟩:=dY N8 _ u hj
        rw[hx]at hy;injection hy with hy;subst hy;exact hhy
      obtain⟨_,_,wL,ks⟩:=iw
      have lS:=ks eu
      rw[gA]at wL lS
      refine(iP.calls (by simpa using fX) w G.S _ _ hs.m.dO Wt qf iR lS).mono ?_
      rintro e' w' ⟨v,S',RU,rfl,lG,hS,B2,J7,JZ,DF,Ux,aox⟩
      simp only
      rw[←wL]at JZ
      obtain⟨τ',P3⟩: ∃τ',τ'=rh mJ.res RU:=⟨_,rfl⟩
      have ly: ∀j,j∈cO mJ.res→τ' j=RU j:=fun j hj=>by rw[P3];exact if_pos hj
      have fi:=JZ.akw
      rw[←P3]at fi
      have Dl: ∀j b,j∈cO mJ.res→(τ' j).ownBlock=some b→w.heap.size≤b:=fun j b hj hb=>DF j b hj (by rw[←ly j hj];exact hb)
      have Fv: ∀j k b,j∈cO mJ.res→k∈cO mJ.res→(τ' j).ownBlock=some b→(τ' k).ownBlock=some b→j=k:=fun j k b hj hk h1 h2=>Ux j k b hj hk (by rw[←ly j hj];exact h1) (by rw[←ly k hk];exact h2)
      let G':Gh:={S:=S',β:=G.β,τ:=fun g=>if g.1=p then τ' g.2 else G.τ g}
      have iI: ∀j,G'.τ (p,j)=τ' j:=fun j=>if_pos rfl
      have hM:(C.add p).M p:=.inr rfl
      have qG:iL w' 0 G'.S τ' mJ.res v ((C.add p).ρ p):=fi
      have cJ:=xS (C:=C.add p) (G:=G') qG hM yn iI
      obtain⟨cp,hm⟩:=hs.m.called hp (τ':=τ') lG hS B2 J7 (fg σ.live (if pc.isEmpty then iy p mJ.res else [])) G' rfl
       (by
        intro g x hx
        unfold fg at hx
        split at hx
        ·rename_i y hy
         have mN:=jK hy
         cases PJ:pc.isEmpty with
         |false=>rw[PJ]at mN;simp at mN
         |true=>
          rw[PJ]at mN;simp only[if_true]at mN
          obtain⟨q1,q2,e1,T1,t1,q3,q4⟩:=cJ _ mN
          simp only at q1 q3 q4
          rw[q3]at hx;injection hx with hx;subst hx
          refine .inr ⟨q1,q4.Ms (fun b hb=>Dl g.2 b q2 ?_)⟩
          have e:G'.τ g=τ' g.2:=if_pos q1
          rw[←e];exact hb
        ·exact .inl ⟨fR hs.m hp hx,hx⟩)
       (by
        intro j1 j2 x y b hx hy xA xz
        have key: ∀j x,fg σ.live (if pc.isEmpty then iy p mJ.res else []) (p,j)=some x→j∈cO mJ.res:=by
         intro j x hx
         unfold fg at hx
         split at hx
         ·rename_i y hy
          have mN:=jK hy
          cases PJ:pc.isEmpty with
          |false=>rw[PJ]at mN;simp at mN
          |true=>
           rw[PJ]at mN;simp only[if_true]at mN
           exact(cJ _ mN).2.1
         ·exact absurd rfl (fR hs.m hp hx)
        exact Fv j1 j2 b (key j1 x hx) (key j2 y hy) xA xz)
       (fun lE=>by
        have h1:=nk lE
        unfold yy at h1
        simp only[ho,hf,pq,bc]at h1
        rw[P3]
        exact JZ.fresh h1.1.1 h1.2 (fun j b hj hb=>.inl (aR hs.m.vX (DF j b hj hb))) fun j hj hfj=>(aox j hj hfj).ajb fun b hb=>.inl (aR hs.m.vX hb)) mg
      exact hK _ _ _ (hs.step (o:=o) (e:=⟨o.dst,(pc,ny pc.isEmpty p mJ.res),[],if pc.isEmpty then iy p mJ.res else [],[],items⟩) cp (hm.congr (dM _) rfl) rfl bP hc
       (by intro _;simp only[eu,if_true];exact zb (C:=C.add p) (G:=G') qG hM yn iI _ (by simpa using hnx)) eT)
     ·cases h
    ·cases h
   ·cases h
  ·cases h
theorem cH.source{S:bU}{v:Value}{l:List D}{k:Nat}(h:cH w S v (.list l))(hk: ∀d∈l,d.cells.length=k):
  ∃(A:Option Addr) (c:Nat) (news:List Value),v= .slice A l.length c∧(A=none→l.length=0)∧news.length=l.length*k∧(∀ad,A=some ad→ ∀(j:Nat) u,news[j]? =some u→w.cell? (ad.add j)=some u)∧
   ∀(i:Nat) d (j:Nat) u c,l[i]? =some d→d.cells[j]? =some c→news[i*k+j]? =some u→cH w S u c:=by
 cases h with
 |nil ad cap=>exact⟨ad,cap,[],rfl,fun _=>rfl,by simp,by simp,by simp⟩
 |list b off cap sz xs _ iY fY ke hl hS hc hw hr=>
  have aeW:sz=k:=by
   cases qC:l with
   |nil=>exact absurd qC fY
   |cons d r=>rw[←hw 0 d (by rw[qC];rfl)];exact hk d (by rw[qC];simp)
  subst aeW
  refine⟨_,cap,xs,rfl,(by intro h;cases h),hl,?_,hr⟩
  intro ad E4 j u hu
  injection E4 with E4;subst E4
  rw[gF];exact hc j u hu
theorem IW{N:Nat→Prop}{sv:SV}{v:Value}{e2:E}{u:Ty}(hf:D6 sv=true)(nk: ∀g,Cl N w G.S (G.τ g))(hr:Ab C w G sv v)(hd:qP sv=some (e2,.list u)):
  oJ (Cm N w G.S) v∨(u.cells.all Ty.bare)=true:=by
 cases sv with
 |one c=>
  cases c with
  |own g e t=>exact .inl (vz (C:=C) (c:=.own g e t) rfl nk hr)
  |po t=>exact .inl (vz (C:=C) (c:=.po t) rfl nk hr)
  |iW e t=>
   simp only[qP,asData,ae,ai]at hd
   obtain⟨_,rfl⟩:=hd
   exact .inr hf
  |clip e t=>
   simp only[qP,asData,ae,ai,Ty.list.injEq]at hd
   obtain⟨_,rfl⟩:=hd
   exact .inr hf
  |_=>cases hf
 |_=>cases hf
theorem EN{ops:Array Oper}{g:Option Tag}{e1 e2:E}{T:TypeId}{t:Ty}{b:Nat}(hs:iq n w0 S0 C G σ a w)(hp: ¬C.M p)(hg:guardOf ops σ o=some [])
  (h:uY P σ [] o=some (g,e1,e2,T,t,b)) (iw:eU C Φ Pre (.room [] (.bin .cat e1 e2) b)) (eT: ∀d,o.dst=some d→d<n) (items:List Item) (nk:S0.fr→yy P cs σ [] o=true) (mg: ¬S0.wz):
  fQ P n w0 S0 C ((⟨o.dst,([],.one (.own (p,0) (.bin .cat e1 e2) t)),[],(match g with|some g=> [(g,none)] |none=> [])++[((p,0),some (.bin .cat e1 e2,T,t))],[],items⟩:jI).app σ) p ops a w o:=by
 intro K Q hK
 obtain⟨hw,hc⟩:=gg hs.t hg
 rw[hw]
 simp only[aU,bW,if_true]
 unfold uY at h
 split at h
 ·rename_i args argTypes ho
  split at h
  ·rename_i sx x tt tt' fP B0
   split at h
   ·rename_i el sv ex u hu E8 hx
    split at h
    ·rename_i ie u' vL R4
     split at h
     ·rename_i lQ
      obtain⟨rfl,rfl,Fq,ir,Dh,hzero,Fw⟩:=lQ
      obtain⟨y1,y2,y3⟩:=dX hs.t (pc:=[]) rfl hx
      obtain⟨l2,qq,alC,rO⟩:=bK.1 y3
      have Fa: ∀d∈l2,d.cells.length=u.cells.length:=fun d hd=>(cN (rO d hd)).1
      obtain⟨A,c,news,E7,hA,yo,zZ,BS⟩:=(qq▸y2).source Fa
      obtain⟨z,hz,yl⟩: ∃z,ie.zero=some z∧z.cells.size=ie.size:=by
       cases hq:ie.zero with
       |none=>simp[hq]at hzero
       |some z=>exact⟨z,rfl,by simpa [hq]using hzero⟩
      have kP: ∀e0 u0,sv≠ .one (.clip e0 u0):=by
       rintro e0 u0 rfl
       cases h
      have main: ∀(v:Value) (tH:E) (g':Option Tag),a.eval sx=v→tH.lt C.N=true→(∃l1 xs,den C.ρ tH= .list l1∧(∀d∈l1,Has u d)∧w.ownsRow 0 el u.cells.length v l1.length xs∧
        (∀(i:Nat) d (j:Nat) u' c,l1[i]? =some d→d.cells[j]? =some c→xs[i*u.cells.length+j]? =some u'→cH w G.S u' c)∧
        (v= .slice none 0 0∧g'=none∨ ∃g x,g'=some g∧σ.live g=some x∧G.τ g=v∧ ∀b,v.ownBlock=some b→(∀o,G.S b o↔Tag.ex (p,0)=false∧o<xs.length)))→
        eU C Φ Pre (.room [] (.bin .cat tH ex) ie.bytes)→
        (∀a' w' G',iq n w0 S0 (C.add p) G' ((⟨o.dst,([],.one (.own (p,0) (.bin .cat tH ex) u)),[],(match g' with|some g=> [(g,none)] |none=> [])++[((p,0),some (.bin .cat tH ex,el,u))],[],items⟩:jI).app σ) a' w'→K a' w')→
        o.wp P a w K Q:=by
       rintro v tH g' hv Ci ⟨l1,xs,xy,rP,dm,Z5,hold⟩ xg hK
       have gA:den C.ρ (.bin .cat tH ex)= .list (l1++l2):=by simp only[den,B.den,xy,qq,D.aV]
       obtain⟨Xd,EZ⟩:=xg
       have nK:=EZ rfl
       rw[gA]at nK
       simp only[D.aV,an]at nK
       have kv: ∀w∈news,w.oneCell'=true:=by
        intro uu huu
        obtain⟨q,hq⟩:=aE huu
        have FU:q<news.length:=(aH.1 hq).1
        have Z8:0<u.cells.length:=by omega
        have hi:q/u.cells.length<l2.length:=by rw[fL Z8,←yo];exact FU
        have hj:q % u.cells.length<u.cells.length:=Nat.mod_lt _ Z8
        have hd:l2[q/u.cells.length]? =some (l2[q/u.cells.length]'hi):=aW hi
        have jA:u.cells[q % u.cells.length]? =some (u.cells[q % u.cells.length]'hj):=aW hj
        obtain⟨cc,qt,Hw⟩:=(cN (rO _ (ca hd))).2 _ _ jA
        have XF:q/u.cells.length*u.cells.length+q % u.cells.length=q:=by rw[Nat.mul_comm];exact Nat.div_add_mod _ _
        exact(BS _ _ _ uu cc hd qt (by rw[XF];exact hq)).ko Hw (cn.1 Dh _ (aX hj))
       obtain⟨v',w',fh,yJ,gY⟩:=jW (P:=P) w 0 tt o.type el ie z u.cells.length hu vL hz Fq.symm (by rw[yl,Fq]) v l1.length xs dm A l2.length c news hA yo zZ kv nK.1 nK.2 (bf _)
       have rN:(execOp a.eval o).run P w= .ok (.value v') w':=by
        have ha1:args= #[sx,x] :=by apply dg;simpa using fP
        have ha2:argTypes= #[tt,tt] :=by apply dg;simpa using B0
        unfold execOp;simp only[ho,resolve,invoke,builtin,ha1,ha2]
        simp[hv,E7,fh]
       unfold Oper.wp
       rw[rN]
       have XN: ∀g,g'=some g→g≠(p,0):=by
        intro g PO he
        rcases hold with⟨_,h2⟩|⟨g0,x0,h2,h3,_⟩
        ·rw[h2]at PO;cases PO
        ·rw[h2]at PO;injection PO with PO;subst PO;subst he
         exact fR hs.m hp h3 rfl
       obtain⟨G',cp,hm,iI⟩:=hs.m.appended hp 0 (v:=v) (v':=v') (T:=el) (t:=u) (n:=l1.length) (m:=l2.length) (xs:=xs) (news:=news) (l:=l1) (l2:=l2) (e2:=.bin .cat tH ex)
        (by omega) rfl rfl Z5 BS (fun d hd=>(cN (rP d hd)).1) dm.1 yJ gY (fg σ.live ((match g' with|some g=> [(g,none)] |none=> [])++[((p,0),some (.bin .cat tH ex,el,u))]))
        (by
         rcases hold with⟨h1,_⟩|⟨g0,x0,h2,h3,h4,h5⟩
         ·exact .inl h1
         ·refine .inr ⟨g0,x0,h3,h4,?_,fun b hb=>⟨h5 b hb,fun o' u' zY=> ?_⟩⟩
          ·rw[h2];simp[fg,lk]
          ·have:=dm.cells (g:=b) hb o' u' zY
           rw[gF,ay]at this;exact this)
        (by simp[E.lt,Ci,y1]) gA (by rw[gA];exact bK.2 ⟨_,rfl,⟨by simpa using nK.1,by rw[←Fw];simpa using nK.2⟩,fun d hd=>by rcases aS.1 hd with h|h;exact rP d h;exact rO d h⟩)
        (by
         intro g0 x0 jL
         unfold fg at jL
         cases g' with
         |none=>
          simp only[eI,lk]at jL
          by_cases he:g0=(p,0)
          ·rw[if_pos he]at jL;simp only[ae]at jL;exact .inr ⟨he,jL.symm⟩
          ·rw[if_neg he]at jL;exact .inl ⟨he,jL⟩
         |some g1=>
          simp only[er,eI,lk]at jL
          by_cases Ci:g0=g1
          ·rw[if_pos Ci]at jL;cases jL
          ·rw[if_neg Ci]at jL
           by_cases he:g0=(p,0)
           ·rw[if_pos he]at jL;simp only[ae]at jL;exact .inr ⟨he,jL.symm⟩
           ·rw[if_neg he]at jL;exact .inl ⟨he,jL⟩)
        (fun lE=>⟨rfl,(by
         intro hn u0 RI
         rcases dm.2 with⟨_,h1⟩|⟨b0,Tq,Yy,h1,_⟩
         ·have:=dm.1
          rw[h1,Nat.zero_mul]at this
          rw[au this]at RI;simp at RI
         ·rw[hn]at h1;cases h1),(by
         have h1:=nk lE
         unfold yy at h1
         simp only[ho,fP,B0]at h1
         cases tF:gu P σ [] x tt with
         |none=>rw[fK,tF]at hx;cases hx
         |some xv=>
          have hxd:qP xv=some (ex,.list u):=by rw[fK,tF]at hx;exact hx
          have h2:(u.cells.all Ty.bare)=true∨D6 xv=true:=by
           rw[E8,tF]at h1
           cases sv with
           |one c0=>cases c0 with
            |clip e0 u0=>exact absurd rfl (kP _ _)
            |_=>exact .inr h1
           |_=>exact .inr h1
          have h3:oJ (Cm (kA w0 S0) w G.S) (a.eval x)∨(u.cells.all Ty.bare)=true:=by
           rcases h2 with h2|h2
           ·exact .inr h2
           ·exact IW h2 (hs.m.fresh lE) (cK hs.t (pc:=[]) rfl tF) hxd
          rcases h3 with h3|h3
          ·exact Na h3 (qq▸y2) Fa E7 yo zZ
          ·exact qQ h3 (by omega) rO yo BS)⟩) mg
       have F9:=hm.own (p,0) (.bin .cat tH ex) el u (by
        show fg σ.live _ (p,0)=_
        unfold fg
        cases g' with
        |none=>simp[lk]
        |some g1=>simp[lk,Ne.symm (XN g1 rfl)])
       exact hK _ _ _ (hs.step (o:=o) (e:=⟨o.dst,([],.one (.own (p,0) (.bin .cat tH ex) u)),[],(match g' with|some g=> [(g,none)] |none=> [])++[((p,0),some (.bin .cat tH ex,el,u))],[],items⟩) cp (hm.congr (dM _) rfl) rfl
        (by simp[SV.lt,SC.lt,E.lt,Ci,y1]) (by simp)
        (by
         intro _
         simp only[aU,bW,if_true]
         refine⟨.inr rfl,by simp[E.lt,Ci,y1,Cx.add],?_,F9.has,iI.symm⟩
         have:=F9.rep (by omega)
         rw[iI]at this;exact this) eT)
      split at h
      ·rename_i v
       split at h
       ·rename_i hvu
        obtain⟨rfl,rfl,rfl,rfl,rfl,rfl⟩:=zP6 h
        have hv:=cK hs.t (pc:=[]) rfl E8
        refine main (.slice none 0 0) .nil none hv rfl ⟨[],[],rfl,by simp,eR w _ _ _,by simp,.inl ⟨rfl,rfl⟩⟩ iw hK
       ·cases h
      ·rename_i g0 e0 v
       split at h
       ·rename_i tH T' v' cJ
        split at h
        ·rename_i UA
         obtain⟨rfl,rfl,rfl,ou⟩:=UA
         obtain⟨rfl,rfl,rfl,rfl,rfl,rfl⟩:=zP6 h
         have hv:=cK hs.t (pc:=[]) rfl E8
         have cI:=hs.m.own _ _ _ _ cJ
         obtain⟨xs,l1,xy,dm,mU,hr⟩:=cI.own
         have hh:=cI.has
         rw[xy]at hh
         obtain⟨l1',Ma,_,rP⟩:=bK.1 hh
         injection Ma with Ma;subst Ma
         exact main (G.τ g0) tH (some g0) hv.2.2.2.2 cI.lt ⟨l1,xs,xy,rP,dm,hr,.inr ⟨g0,_,rfl,cJ,rfl,fun b hb o=>(mU b hb o).trans (by rw[ou];rfl)⟩⟩ iw hK
        ·cases h
       ·cases h
      ·cases h
     ·cases h
    ·cases h
   ·cases h
  ·cases h
 ·cases h
theorem B8{ops:Array Oper}{e1 e2:E}{T:TypeId}{t:Ty}{b:Nat}(hs:iq n w0 S0 C G σ a w)(hp: ¬C.M p)(hg:guardOf ops σ o=some [])
  (h:pL P σ o=some (e1,e2,T,t,b)) (iw:eU C Φ Pre (.room [] (.bin .cat e1 e2) b)) (avS:eU C Φ Pre (.lM [] (.bin .lt (.aT .i64 0) (.un .len e2)))) (eT: ∀d,o.dst=some d→d<n) (items:List Item) (nk:S0.fr→yy P cs σ [] o=true) (mg: ¬S0.wz):
  fQ P n w0 S0 C ((⟨o.dst,([],.one (.own (p,0) (.bin .cat e1 e2) t)),[],[((p,0),some (.bin .cat e1 e2,T,t))],[],items⟩:jI).app σ) p ops a w o:=by
 intro K Q hK
 obtain⟨hw,hc⟩:=gg hs.t hg
 rw[hw,if_pos (show aU C.ρ [] =true from rfl)]
 unfold pL at h
 split at h
 ·rename_i args argTypes ho
  split at h
  ·rename_i sx x tt tt' fP B0
   split at h
   ·rename_i el tH v ex u hu E8 hx
    split at h
    ·rename_i ie u' vL R4
     split at h
     ·rename_i lQ
      obtain⟨rfl,rfl,Fq,ir,Dh,hzero,Fw,rfl⟩:=lQ
      obtain⟨rfl,rfl,rfl,rfl,rfl⟩:=zP5 h
      obtain⟨y1,y2,y3⟩:=dX hs.t (pc:=[]) rfl hx
      obtain⟨x1,x2,x3,ad,zN⟩:=cK hs.t (pc:=[]) rfl E8
      obtain⟨l1,xy,aBH,rP⟩:=bK.1 x3
      obtain⟨l2,qq,alC,rO⟩:=bK.1 y3
      have hk1: ∀d∈l1,d.cells.length=v.cells.length:=fun d hd=>(cN (rP d hd)).1
      have Fa: ∀d∈l2,d.cells.length=v.cells.length:=fun d hd=>(cN (rO d hd)).1
      obtain⟨A1,c1,xs,ak1,hA1,nq,W8,Z5⟩:=(xy▸x2).source hk1
      obtain⟨A,c,news,E7,hA,yo,zZ,BS⟩:=(qq▸y2).source Fa
      obtain⟨z,hz,yl⟩: ∃z,ie.zero=some z∧z.cells.size=ie.size:=by
       cases hq:ie.zero with
       |none=>simp[hq]at hzero
       |some z=>exact⟨z,rfl,by simpa [hq]using hzero⟩
      have gA:den C.ρ (.bin .cat tH ex)= .list (l1++l2):=by simp only[den,B.den,xy,qq,D.aV]
      obtain⟨Xd,EZ⟩:=iw
      have nK:=EZ rfl
      rw[gA]at nK
      simp only[D.aV,an]at nK
      have RL:0<l2.length:=by
       have:=avS.2 rfl
       simp only[den,B.den,U.den,qq,D.aq,D.gV,D.aV,bQ]at this
       omega
      have ke:a.eval sx= .slice A1 l1.length l1.length:=by
       rw[xy]at zN
       simp only[D.aV]at zN
       rw[zN]at ak1⊢
       injection ak1 with h1 h2 h3
       rw[h1]
      have kv: ∀w∈news,w.oneCell'=true:=by
       intro uu huu
       obtain⟨q,hq⟩:=aE huu
       have FU:q<news.length:=(aH.1 hq).1
       have Z8:0<v.cells.length:=by omega
       have hi:q/v.cells.length<l2.length:=by rw[fL Z8,←yo];exact FU
       have hj:q % v.cells.length<v.cells.length:=Nat.mod_lt _ Z8
       have hd:l2[q/v.cells.length]? =some (l2[q/v.cells.length]'hi):=aW hi
       have jA:v.cells[q % v.cells.length]? =some (v.cells[q % v.cells.length]'hj):=aW hj
       obtain⟨cc,qt,Hw⟩:=(cN (rO _ (ca hd))).2 _ _ jA
       have XF:q/v.cells.length*v.cells.length+q % v.cells.length=q:=by rw[Nat.mul_comm];exact Nat.div_add_mod _ _
       exact(BS _ _ _ uu cc hd qt (by rw[XF];exact hq)).ko Hw (cn.1 Dh _ (aX hj))
      obtain⟨v',w',fh,yJ,gY⟩: ∃v' w',(Builtin.append_ #[tt,tt] o.type #[.slice A1 l1.length l1.length,.slice A l2.length c]).run P w= .ok v' w'∧w'.ownsRow 0 el v.cells.length v' (l1.length+l2.length) (xs++news)∧
        ((v'.ownBlock=(Value.slice none 0 0).ownBlock∧w.grownBy w' (Value.slice none 0 0).ownBlock)∨(v'.ownBlock=some w.heap.size∧w.grownBy w' none)):=by
       cases A1 with
       |none=>
        have h0:=hA1 rfl
        have jL:xs=[] :=au (by rw[nq,h0];simp)
        rw[h0,jL]
        have hr3:=nK
        rw[h0]at hr3
        exact jW (P:=P) w 0 tt o.type el ie z v.cells.length hu vL hz Fq.symm (by rw[yl,Fq]) (.slice none 0 0) 0 [] (eR w _ _ _) A l2.length c news hA yo zZ kv hr3.1 hr3.2 (bf _)
       |some ad1=>
        obtain⟨v',w',q1,q2,q3,q4⟩:=Cb (P:=P) w tt o.type el ie z v.cells.length hu vL hz Fq.symm (by rw[yl,Fq]) ad1 l1.length xs nq (fun j u hj=>W8 ad1 rfl j u hj) A l2.length c news hA yo zZ RL nK.1 nK.2
        exact⟨v',w',q1,q2,.inr ⟨q3,q4⟩⟩
      have rN:(execOp a.eval o).run P w= .ok (.value v') w':=by
       have ha1:args= #[sx,x] :=by apply dg;simpa using fP
       have ha2:argTypes= #[tt,tt] :=by apply dg;simpa using B0
       unfold execOp;simp only[ho,resolve,invoke,builtin,ha1,ha2]
       simp[ke,E7,fh]
      unfold Oper.wp
      rw[rN]
      obtain⟨G',cp,hm,iI⟩:=hs.m.appended hp 0 (v:=.slice none 0 0) (v':=v') (T:=el) (t:=v) (n:=l1.length) (m:=l2.length) (xs:=xs) (news:=news) (l:=l1) (l2:=l2) (e2:=.bin .cat tH ex)
       (by omega) rfl rfl Z5 BS hk1 nq yJ gY (fg σ.live [((p,0),some (.bin .cat tH ex,el,v))]) (.inl rfl)
       (by simp[E.lt,x1,y1]) gA (by rw[gA];exact bK.2 ⟨_,rfl,⟨by simpa using nK.1,by rw[←Fw];simpa using nK.2⟩,fun d hd=>by rcases aS.1 hd with h|h;exact rP d h;exact rO d h⟩)
       (by
        intro g0 x0 jL
        unfold fg at jL
        simp only[lk]at jL
        by_cases he:g0=(p,0)
        ·rw[if_pos he]at jL;simp only[ae]at jL;exact .inr ⟨he,jL.symm⟩
        ·rw[if_neg he]at jL;exact .inl ⟨he,jL⟩)
       (fun lE=>by
        have h1:=nk lE
        unfold yy at h1
        simp only[ho,fP,B0,E8]at h1
        exact⟨rfl,fun _=>qQ h1 (by omega) rP nq Z5,qQ h1 (by omega) rO yo BS⟩) mg
      have F9:=hm.own (p,0) (.bin .cat tH ex) el v (by
       show fg σ.live _ (p,0)=_
       unfold fg
       simp[lk])
      exact hK _ _ _ (hs.step (o:=o) (e:=⟨o.dst,([],.one (.own (p,0) (.bin .cat tH ex) v)),[],[((p,0),some (.bin .cat tH ex,el,v))],[],items⟩) cp (hm.congr (dM _) rfl) rfl
       (by simp[SV.lt,SC.lt,E.lt,x1,y1]) (by simp)
       (by
        intro _
        simp only[aU,bW,if_true]
        refine⟨.inr rfl,by simp[E.lt,x1,y1,Cx.add],?_,F9.has,iI.symm⟩
        have:=F9.rep (by omega)
        rw[iI]at this;exact this) eT)
     ·cases h
    ·cases h
   ·cases h
  ·cases h
 ·cases h
end
end Go.dV
