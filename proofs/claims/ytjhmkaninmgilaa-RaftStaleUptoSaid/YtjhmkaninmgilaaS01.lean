/- Part 1 of the proof of RaftStale; no condition. -/
import Derived.Test.YtjhmkaninmgilaaS00
import Derived.Great.BuildSlice
set_option linter.unusedVariables false
set_option linter.unusedSimpArgs false
set_option maxHeartbeats 4000000
namespace Go.bZ
open Go Go.RowKit
def kL:List Ty→List Value→Option (List SC)
 | [],[] =>some []
 |t::ts,v::vs=>match pB t v,kL ts vs with
  |some c,some cs=>some (c::cs)
  |_,_=>none
 |_,_=>none
def tY(place:Nat→Option (Nat×Nat)):List SC→List (Nat×List SC)→Option (List SC)
 |cells,[] =>some cells
 |cells,(i,cs)::rest=>
  match place i with
  |some (off,size)=>if cs.length=size∧off+cs.length≤cells.length then tY place (cells.take off++cs++cells.drop (off+cs.length)) rest else none
  |none=>none
def kO(P:Program)(σ:St)(pc:bI)(hint:Nat→TypeId):List (Nat×Operand)→Option (List (Nat×List SC))
 | [] =>some []
 |(i,x)::rest=>
  match (dz P σ pc x (hint i)).bind kR,kO P σ pc hint rest with
  |some cs,some r=>if cs.all SC.scalar then some ((i,cs)::r) else none
  |_,_=>none
def zv(P:Program)(σ:St)(pc:bI)(o:Oper):Option Pl:=
 match o.op with
 | .build t parts=>
  match P.underlying t,P.info? t,flat P GG t with
  |some (.struct fs),some it,some ts=>
   match it.zero,fs.toList.mapM (fun f=>(P.info? f.type).map fun i=>(f.offset,i.size)),kO P σ pc (fun i=>((fs[i]?).map (·.type)).getD 0) parts.toList with
   |some z,some Q8,some ps=>
    match kL ts z.cells.toList with
    |some zs=>(tY (Q8.toArray[·]?) zs ps).map fun cs=>(.agg cs,[])
    |none=>none
   |_,_,_=>none
  |_,_,_=>none
 |_=>none
def py(agg:Bool)(size:Nat)(es:List E):Nat→List E
 |0=> []
 |n+1=>(if agg then .un .agg (.bQ (es.take size)) else es.headD .nil)::py agg size (es.drop size) n
def p4(P:Program)(σ:St)(pc:bI)(o:Oper):Option (E×TypeId×Ty×Nat):=
 match o.op with
 | .buildSlice t len parts=>
  match P.underlying t with
  |some (.slice el)=>
   match P.info? el,tyV P el,flat P GG el,kO P σ pc (fun _=>el) parts.toList with
   |some ie,some u,some ts,some ps=>
    match ie.zero.bind fun z=>kL ts z.cells.toList with
    |some zs=>
     if zs.length=ie.size∧u.cells.length=ie.size∧0<ie.size∧len*ie.size≤16777216∧len*u.bytes≤140737488355328 then
      match tY (fun i=>some (i*ie.size,ie.size)) ((List.range (len*ie.size)).map fun j=>zs.getD (j % zs.length) (.lU .nil)) ps with
      |some cs=>
       match eQ cs with
       |some (es,us)=>
        if us=(List.replicate len u.cells).flatten∧(fY P el=true∨u.scalar=true) then
         match fY P el,u with
         |true, .agg fs=>some (.bQ (py true ie.size es len),el, .agg (.bQ fs.ak),len)
         |false,u=>if ie.size=1 then some (.bQ (py false 1 es len),el,u,len) else none
         |_,_=>none
        else none
       |none=>none
      |none=>none
     else none
    |none=>none
   |_,_,_,_=>none
  |_=>none
 |_=>none
def Zp(k:IntKind):Option Value→Bool
 |some (.int k' z)=>decide (k'=k∧z=0)
 |_=>false
theorem UI{k:IntKind}{z:Option Value}(h:Zp k z=true):z=some (.int k 0):=by
 unfold Zp at h
 split at h
 ·obtain⟨rfl,rfl⟩:=of_decide_eq_true h;rfl
 ·cases h
def WK(P:Program)(o:Oper):Option (E×TypeId×Ty×Nat):=
 match o.op with
 | .makeSlice t (.const (.int _ n)) (.const (.int _ m))=>
  match P.underlying t with
  |some (.slice el)=>
   match P.info? el,tyV P el with
   |some ie,some (.int k)=>
    if n=m∧0<n∧n≤1000∧ie.size=1∧Zp k ie.zero=true∧ie.bytes≤8 then some (.bQ (List.replicate n.toNat (.ao k 0)),el, .int k,n.toNat) else none
   |_,_=>none
  |_=>none
 |_=>none
def xb(P:Program)(σ:St)(o:Oper):Option (E×TypeId×Ty×Nat):=
 match p4 P σ [] o with
 |some (e,T,t,n)=>some (e,T,t,n)
 |none=>WK P o
section
variable{P:Program}{C:Cx}{w w0:World}{S0:ew}{G:Gh}{σ:St}{a:Act}{o:Oper}{pc:bI}{s:SV}{is:List Item}{Φ:Nat→List D→D}{Pre:Nat→List D→Prop}
theorem AT(ht:fI C w G σ.tm a)(bY:aq C.ρ pc=true)(h:CT P σ pc o=some (s,is)):ig P C w G a o s:=by
 unfold CT at h
 split at h
 ·rename_i args argTypes ho
  split at h
  ·rename_i x t cZ CQ
   split at h
   ·rename_i el e u hu hx
    injection h with h;simp only[Prod.mk.injEq]at h;obtain⟨rfl,rfl⟩:=h
    obtain⟨x1,x2,x3⟩:=bT ht bY hx
    obtain⟨l,hl,⟨F2,_⟩,_⟩:=aD.1 x3
    obtain⟨ad,cap,hv⟩:=(hl▸x2).oV
    have pw:args= #[x] :=by apply Array.ext';simpa using cZ
    refine⟨.int .i64 l.length,?_,by simpa [E.lt]using x1,?_,?_⟩
    ·unfold execOp;simp only[ho,resolve,invoke,builtin,pw]
     simp[Builtin.len_,CQ,hv,run_underlying hu,goInt]
    ·simp only[den,U.den,hl,D.ak];exact .int _ _
    ·simp only[den,U.den,hl,D.ak]
     refine bF.2 ⟨_,rfl,?_,?_⟩
     ·show IntKind.i64.min≤_;simp[IntKind.min,IntKind.signed,IntKind.bits];try omega
     ·show _≤IntKind.i64.max;simp[IntKind.max,IntKind.signed,IntKind.bits];simp only[maxLen]at F2;omega
   ·cases h
  ·cases h
 ·rename_i args _ ho
  split at h
  ·rename_i x y cZ
   split at h
   ·rename_i ex k ey k' hx hy
    split at h
    ·rename_i hk
     subst hk
     injection h with h;simp only[Prod.mk.injEq]at h;obtain⟨rfl,rfl⟩:=h
     obtain⟨x1,x2,x3⟩:=bT ht bY hx
     obtain⟨y1,y2,y3⟩:=bT ht bY hy
     obtain⟨i,hi,FP⟩:=bF.1 x3
     obtain⟨j,hj,yM⟩:=bF.1 y3
     have e1:=(hi▸x2).bD
     have e2:=(hj▸y2).bD
     have pw:args= #[x,y] :=by apply Array.ext';simpa using cZ
     refine⟨.int k (if j<i then j else i),?_,by simp[E.lt,x1,y1],?_,?_⟩
     ·unfold execOp;simp only[ho,resolve,invoke,builtin,pw]
      simp[Builtin.min_,Builtin.min2,e1,e2]
     ·simp only[den,B.den,hi,hj,D.ab];exact .int _ _
     ·simp only[den,B.den,hi,hj,D.ab]
      refine bF.2 ⟨_,rfl,?_⟩
      split<;>assumption
    ·cases h
   ·cases h
  ·cases h
 ·rename_i args _ ho
  split at h
  ·rename_i x y cZ
   split at h
   ·rename_i ex k ey k' hx hy
    split at h
    ·rename_i hk
     subst hk
     injection h with h;simp only[Prod.mk.injEq]at h;obtain⟨rfl,rfl⟩:=h
     obtain⟨x1,x2,x3⟩:=bT ht bY hx
     obtain⟨y1,y2,y3⟩:=bT ht bY hy
     obtain⟨i,hi,FP⟩:=bF.1 x3
     obtain⟨j,hj,yM⟩:=bF.1 y3
     have e1:=(hi▸x2).bD
     have e2:=(hj▸y2).bD
     have pw:args= #[x,y] :=by apply Array.ext';simpa using cZ
     refine⟨.int k (if j>i then j else i),?_,by simp[E.lt,x1,y1],?_,?_⟩
     ·unfold execOp;simp only[ho,resolve,invoke,builtin,pw]
      simp[Builtin.max_,Builtin.max2,e1,e2]
     ·simp only[den,B.den,hi,hj,D.ab];exact .int _ _
     ·simp only[den,B.den,hi,hj,D.ab]
      refine bF.2 ⟨_,rfl,?_⟩
      split<;>assumption
    ·cases h
   ·cases h
  ·cases h
 ·cases h
theorem pD: ∀{ts:List Ty} {vs:List Value} {cs:List SC},kL ts vs=some cs→iD C w G cs vs
 | [],[],cs,h=>by simp only[kL,Option.some.injEq]at h;subst h;exact⟨rfl,by intro i c v hi;simp at hi⟩
 |t::ts,v::vs,cs,h=>by
  simp only[kL]at h
  split at h
  ·rename_i c pW h1 h2
   injection h with h;subst h
   have ih:=pD h2
   refine⟨by simp[ih.1],fun i c' v' hi hv=> ?_⟩
   cases i with
   |zero=>simp at hi hv;subst hi;subst hv;exact(DA h1).1
   |succ i=>exact ih.2 i c' v' (by simpa using hi) (by simpa using hv)
  ·cases h
 | [],_::_,_,h=>by cases h
 |_::_,[],_,h=>by cases h
theorem foldl_set(off:Nat): ∀(us:List Value) (k:Nat) (vs:List Value),off+k+us.length≤vs.length→
  (us.zipIdx k).foldl (fun(cs:Array Value) (x:Value×Nat)=>cs.setIfInBounds (off+x.2) x.1) vs.toArray=(vs.take (off+k)++us++vs.drop (off+k+us.length)).toArray
 | [],k,vs,_=>by simp
 |u::us,k,vs,h=>by
  have ih:=foldl_set off us (k+1) (vs.set (off+k) u) (by simp at h⊢;omega)
  simp only[List.zipIdx_cons,List.foldl_cons,List.setIfInBounds_toArray,ih]
  congr 1
  have:=list_seg_step vs (off+k) u us (by simp at h;omega)
  rw[show off+(k+1)=off+k+1 by omega]
  simpa [Nat.add_assoc]using this
theorem iD.QW{l cs:List SC}{vs us:List Value}(h:iD C w G l vs)(h':iD C w G cs us){off:Nat}(hle:off+cs.length≤l.length):
  iD C w G (l.take off++cs++l.drop (off+cs.length)) (vs.take off++us++vs.drop (off+us.length)):=by
 have hl:=h.1
 have ks:=h'.1
 refine⟨by simp[hl,ks],fun i c v hc hv=> ?_⟩
 rw[List.getElem?_append,List.getElem?_append]at hc hv
 simp only[List.length_append,List.length_take,hl,ks,Nat.min_eq_left (show off≤l.length by omega)]at hc hv
 by_cases h1:i<off+cs.length
 ·rw[if_pos h1]at hc hv
  by_cases h2:i<off
  ·rw[if_pos h2]at hc hv
   simp only[List.getElem?_take,if_pos h2]at hc hv
   exact h.2 i c v hc hv
  ·rw[if_neg h2]at hc hv
   exact h'.2 _ c v hc hv
 ·rw[if_neg h1]at hc hv
  simp only[List.getElem?_drop]at hc hv
  exact h.2 _ c v hc hv
theorem xC(place:Nat→Option (Nat×Nat)): ∀(parts:List (Nat×List SC)) (fW:List (Nat×Value)) (cells AE:List SC) (vs:List Value),tY place cells parts=some AE→iD C w G cells vs→
  parts.length=fW.length→(∀(i:Nat) x y,parts[i]? =some x→fW[i]? =some y→x.1=y.1∧ ∃us:List Value,y.2.cells=us.toArray∧iD C w G x.2 us)→
  ∃DH:List Value,Instr.fill place vs.toArray fW=some DH.toArray∧iD C w G AE DH
 | [],[],cells,AE,vs,h,hr,_,_=>by
  simp only[tY,Option.some.injEq]at h;subst h
  exact⟨vs,rfl,hr⟩
 | [],_::_,_,_,_,_,_,hl,_=>by simp at hl
 |_::_,[],_,_,_,_,_,hl,_=>by simp at hl
 |(i,cs)::parts,(j,v)::fW,cells,AE,vs,h,hr,hl,hp=>by
  obtain⟨B8,us,hv,L9⟩:=hp 0 _ _ rfl rfl
  simp only at B8 hv L9
  subst B8
  simp only[tY]at h
  split at h
  ·rename_i off size tF
   split at h
   ·rename_i hc
    obtain⟨qf,wH⟩:=hc
    obtain⟨DH,h1,h2⟩:=xC place parts fW _ AE _ h (hr.QW L9 wH) (by simpa using hl) (fun k x y hx hy=>hp (k+1) x y (by simpa using hx) (by simpa using hy))
    refine⟨DH,?_,h2⟩
    have hlen:us.length=cs.length:=L9.1
    simp only[Instr.fill,tF,hv]
    have hf:=foldl_set off us 0 vs (by rw[hr.1,hlen];omega)
    simp only[Nat.add_zero]at hf
    have k7: ¬((us.toArray.size≠size||decide (off+us.toArray.size>vs.toArray.size))=true):=by
     simp[hlen,qf,hr.1];omega
    rw[if_neg k7]
    have h3:us.toArray.zipIdx.foldl (fun cs (x:Value×Nat)=>cs.setIfInBounds (off+x.2) x.1) vs.toArray=(vs.take off++us++vs.drop (off+us.length)).toArray:=by
     rw[←hf,show us.toArray.zipIdx=(us.zipIdx).toArray by simp]
     exact List.foldl_toArray' _ _ _ (by simp)
    exact(congrArg (fun z=>Instr.fill place z fW) h3).trans h1
   ·cases h
  ·cases h
theorem ud(ht:fI C w G σ.tm a)(bY:aq C.ρ pc=true)(hint:Nat→TypeId): ∀(l:List (Nat×Operand)) (ps:List (Nat×List SC)),kO P σ pc hint l=some ps→
  ps.length=(l.map fun(x:Nat×Operand)=>(x.1,a.eval x.2)).length∧ ∀(i:Nat) x y,ps[i]? =some x→(l.map fun(x:Nat×Operand)=>(x.1,a.eval x.2))[i]? =some y→x.1=y.1∧ ∃us:List Value,y.2.cells=us.toArray∧iD C w G x.2 us
 | [],ps,h=>by simp only[kO,Option.some.injEq]at h;subst h;exact⟨rfl,by intro i x y hi;simp at hi⟩
 |(i,x)::l,ps,h=>by
  simp only[kO]at h
  split at h
  ·rename_i cs r h1 h2
   split at h
   ·rename_i jC
    injection h with h;subst h
    obtain⟨k1,k2⟩:=ud ht bY hint l r h2
    refine⟨by simp[k1],fun j y z hy hz=> ?_⟩
    cases j with
    |zero=>
     simp at hy hz;subst hy;subst hz
     refine⟨rfl,?_⟩
     cases hg:dz P σ pc x (hint i) with
     |none=>simp[hg]at h1
     |some sv=>
      simp only[hg,Option.bind_some]at h1
      exact pK h1 (bg ht bY hg) jC
    |succ j=>exact k2 j y z (by simpa using hy) (by simpa using hz)
   ·cases h
  ·cases h
theorem Ka(ht:fI C w G σ.tm a)(bY:aq C.ρ pc=true)(h:zv P σ pc o=some (s,is)):ig P C w G a o s:=by
 unfold zv at h
 split at h
 ·rename_i t parts ho
  split at h
  ·rename_i fs it ts hu hi sZ
   split at h
   ·rename_i z Q8 ps hz tF hps
    split at h
    ·rename_i zs sX
     simp only[br,Prod.mk.injEq]at h
     obtain⟨cs,gS,rfl,_⟩:=h
     obtain⟨k1,k2⟩:=ud ht bY _ _ _ hps
     have hz0:=pD (C:=C) (w:=w) (G:=G) sX
     obtain⟨vs,h1,h2⟩:=xC _ _ _ _ _ _ gS hz0 k1 k2
     refine⟨.agg vs.toArray,?_,vs,rfl,h2⟩
     have hb:P.built t (parts.map fun(i,x)=>(i,a.eval x)).toList=some vs.toArray:=by
      unfold Program.built
      simp only[hi,hu,hz,tF]
      rw[Array.toList_map]
      simpa using h1
     unfold execOp;simp only[ho,Sem.run_bind,run_build w t _ _ hb,Result.andThen_ok]
     rfl
    ·cases h
   ·cases h
  ·cases h
 ·cases h
theorem J7(ht:fI C w G σ.tm a)(bY:aq C.ρ pc=true)(h:zr P σ pc o=some (s,is))(eC: ∀it∈is,ct C Φ Pre it):ig P C w G a o s:=by
 unfold zr at h
 split at h
 ·rename_i t x lo hi ho
  split at h
  ·rename_i el e u hu hx
   simp only at h
   split at h
   ·rename_i l k hh k' H8 TE
    split at h
    ·rename_i fo
     obtain⟨fo,ev⟩:=fo
     injection h with h;simp only[Prod.mk.injEq]at h;obtain⟨rfl,rfl⟩:=h
     obtain⟨x1,x2,x3⟩:=bT ht bY hx
     obtain⟨ds,hl,F2,eI⟩:=aD.1 x3
     have dw:ct C Φ Pre (.iP pc (.bin .and (.bin .le (.ao k 0) l) (.bin .and (.bin .le l hh) (.bin .le hh (.un .len e))))):=eC _ (by simp)
     have hb:=dw.2 bY
     have kl: ∃n:Int,den C.ρ l= .int k n∧l.lt C.N=true∧(∀i,lo=some i→a.eval i= .int k n)∧(lo=none→n=0):=by
      cases lo with
      |none=>simp only[Option.some.injEq,Prod.mk.injEq]at H8;obtain⟨rfl,rfl⟩:=H8;exact⟨0,rfl,rfl,by simp,fun _=>rfl⟩
      |some i=>
       simp only at H8
       split at H8
       ·rename_i ie ki FP
        simp only[Option.some.injEq,Prod.mk.injEq]at H8;obtain⟨rfl,rfl⟩:=H8
        obtain⟨y1,y2,y3⟩:=bT ht bY FP
        obtain⟨n,hn,_⟩:=bF.1 y3
        exact⟨n,hn,y1,fun j hj=>by injection hj with hj;subst hj;exact(hn▸y2).bD,by simp⟩
       ·cases H8
     have kh: ∃n:Int,(∃k,den C.ρ hh= .int k n)∧hh.lt C.N=true∧(∀i,hi=some i→ ∃k,a.eval i= .int k n)∧(hi=none→n=ds.length):=by
      cases hi with
      |none=>simp only[Option.some.injEq,Prod.mk.injEq]at TE;obtain⟨rfl,rfl⟩:=TE;exact⟨ds.length,⟨.i64,by simp only[den,U.den,hl,D.ak]⟩,by simpa [E.lt]using x1,by simp,fun _=>rfl⟩
      |some i=>
       simp only at TE
       split at TE
       ·rename_i ie ki FP
        simp only[Option.some.injEq,Prod.mk.injEq]at TE;obtain⟨rfl,rfl⟩:=TE
        obtain⟨y1,y2,y3⟩:=bT ht bY FP
        obtain⟨n,hn,_⟩:=bF.1 y3
        exact⟨n,⟨_,hn⟩,y1,fun j hj=>by injection hj with hj;subst hj;exact⟨_,(hn▸y2).bD⟩,by simp⟩
       ·cases TE
     obtain⟨n,hn,nlt,hnv,Od⟩:=kl
     obtain⟨m,⟨km,hm⟩,mlt,OF,Oe⟩:=kh
     simp only[den,B.den,U.den,hl,hn,hm,D.ab,D.eh,D.ak,aw,aN]at hb
     obtain⟨b1,b2,b3⟩:=hb
     have dC:den C.ρ (.bin .drop (.bin .take e hh) l)= .list ((ds.take m.toNat).drop n.toNat):=by simp only[den,B.den,hl,hn,hm,D.ab,D.ak]
     have hlen:((ds.take m.toNat).drop n.toNat).length=m.toNat-n.toNat:=by simp;omega
     have F1: ∀(ad:Option Addr) (cap:Nat),ds.length≤cap→(Instr.sliceAt t (.slice ad ds.length cap) (lo.map a.eval) (hi.map a.eval) none).run P w=
       .ok (.slice (if cap=n.toNat then ad else ad.map (·.add (n.toNat*u.cells.length))) (m.toNat-n.toNat) (cap-n.toNat)) w:=by
      intro ad cap gN
      have h1:=fc (P:=P) (w:=w) fo
      have h2: ∀kk code,(Instr.sliceBound (.int kk m) cap code).run P w= .ok m.toNat w:=fun kk code=>run_sliceBound w kk m cap code (by omega) (by omega)
      have h3: ∀code,(Instr.sliceBound (.int k n) m.toNat code).run P w= .ok n.toNat w:=fun code=>run_sliceBound w k n m.toNat code (by omega) (by omega)
      have e1:(do
        let m'←match (none:Option Value) with
         |some v=>Instr.sliceBound v cap (if true then .slice3Acap else .slice3Alen)
         |none=>pure cap
        let h←match hi.map a.eval,(none:Option Value) with
         |some v,some _=>Instr.sliceBound v m' .slice3B
         |some v,none=>Instr.sliceBound v m' (if true then .sliceAcap else .sliceAlen)
         |none,none=>pure ds.length
         |none,some _=>stuck "Slice: max without high"
        let l←match lo.map a.eval with
         |some v=>Instr.sliceBound v h (if(none:Option Value).isSome then .slice3C else .sliceB)
         |none=>pure 0
        pure (l,h,m'):Sem (Nat×Nat×Nat)).run P w= .ok (n.toNat,m.toNat,cap) w:=by
       cases hi with
       |none=>
        have:=Oe rfl
        have jD:m.toNat=ds.length:=by omega
        cases lo with
        |none=>have:=Od rfl;simp[this,jD]
        |some i=>rw[jD]at h3;simp[hnv i rfl,h3,jD]
       |some j=>
        obtain⟨kk,hj⟩:=OF j rfl
        cases lo with
        |none=>have:=Od rfl;simp[this,hj,h2]
        |some i=>simp[hnv i rfl,h3,hj,h2]
      have e2:(Instr.sliceBounds true ds.length cap (lo.map a.eval) (hi.map a.eval) none).run P w= .ok (n.toNat,m.toNat,cap) w:=e1
      simp[Instr.sliceAt,Instr.slice,run_underlying hu,e2,h1]
     have fin: ∀{ad:Option Addr} {cap:Nat},a.eval x= .slice ad ds.length cap→ds.length≤cap→(∀v,v=Value.slice (if cap=n.toNat then ad else ad.map (·.add (n.toNat*u.cells.length))) (m.toNat-n.toNat) (cap-n.toNat)→bj w G.S v (.list ((ds.take m.toNat).drop n.toNat)))→ig P C w G a o (.one (.eV (.bin .drop (.bin .take e hh) l) (.list u))):=by
      intro ad cap hv gN fa
      refine⟨_,?_,by simp[E.lt,x1,nlt,mlt],by rw[dC];exact fa _ rfl,?_⟩
      ·unfold execOp;simp only[ho,hv,Option.map_none,Sem.run_bind,F1 ad cap gN,Result.andThen_ok];rfl
      ·rw[dC]
       exact aD.2 ⟨_,rfl,F2.mono (by omega),fun y hy=>eI y (List.mem_of_mem_take (List.mem_of_mem_drop hy))⟩
     have B3:=hl▸x2
     by_cases hz:m.toNat-n.toNat=0
     ·have D6:(ds.take m.toNat).drop n.toNat=[] :=List.eq_nil_of_length_eq_zero (by omega)
      have hle: ∃ad cap,a.eval x= .slice ad ds.length cap∧ds.length≤cap:=by
       generalize a.eval x=v at B3
       cases B3 with
       |nil ad cap=>exact⟨ad,cap,rfl,Nat.zero_le _⟩
       |list b off cap sz xs _ _ _ gN=>exact⟨_,cap,rfl,gN⟩
      obtain⟨ad,cap,hv,gN⟩:=hle
      refine fin hv gN fun v wF=> ?_
      rw[D6,wF,hz]
      exact .nil _ _
     ·generalize SQ:a.eval x=v at B3
      cases B3 with
      |nil ad cap=>simp at b3;omega
      |list b off cap sz xs _ Cl dH gN mZ hS hc hw hr=>
       refine fin SQ gN fun v' wF=> ?_
       have ahq:sz=u.cells.length:=by
        cases oa:ds with
        |nil=>exact absurd oa dH
        |cons d r=>
         have:=hw 0 d (by rw[oa];rfl)
         rw[←this];exact(bp (eI d (by rw[oa];simp))).1
       have akC:cap≠n.toNat:=by omega
       rw[wF,if_neg akC,←hlen]
       simp only[Option.map_some,dD]
       have hmul:n.toNat*sz≤xs.length:=by rw[mZ];exact Nat.mul_le_mul_right _ (by omega)
       refine .list b _ _ sz ((xs.drop (n.toNat*sz)).take ((m.toNat-n.toNat)*sz)) _ Cl (fun e=>hz (by rw[←hlen,e];rfl)) (by omega) ?_ ?_ ?_ ?_ ?_
       ·rw[hlen,List.length_take,List.length_drop,mZ,←Nat.sub_mul]
        exact Nat.min_eq_left (Nat.mul_le_mul_right _ (by omega))
       ·intro i hi
        have:i<xs.length-n.toNat*sz:=by simp at hi;omega
        rw[←ahq,Nat.add_assoc];exact hS _ (by omega)
       ·intro i v hi
        simp only[List.getElem?_take,List.getElem?_drop]at hi
        split at hi
        ·rw[←ahq,Nat.add_assoc];exact hc _ v hi
        ·cases hi
       ·intro i d hi
        exact hw _ d (by simp only[List.getElem?_drop,List.getElem?_take]at hi;split at hi;exact hi;cases hi)
       ·intro i d j v c hi hj hv
        simp only[List.getElem?_drop,List.getElem?_take]at hi
        split at hi
        ·refine hr (n.toNat+i) d j v c hi hj ?_
         simp only[List.getElem?_take,List.getElem?_drop]at hv
         split at hv
         ·rw[←hv,Nat.add_mul,Nat.add_assoc]
         ·cases hv
        ·cases hi
    ·cases h
   ·cases h
  ·cases h
 ·cases h
theorem HD(ht:fI C w G σ.tm a)(bY:aq C.ρ pc=true)(h:vJ P σ pc o=some (s,is))(eC: ∀it∈is,ct C Φ Pre it):ig P C w G a o s:=by
 unfold vJ at h
 split at h
 ·rename_i t x hi mx ho
  split at h
  ·rename_i el e u hh k mm k' hu hx TE H6
   split at h
   ·rename_i fo
    obtain⟨fo,ev,rfl⟩:=fo
    injection h with h;simp only[Prod.mk.injEq]at h;obtain⟨rfl,rfl⟩:=h
    obtain⟨x1,x2,x3⟩:=bT ht bY hx
    obtain⟨ds,hl,F2,eI⟩:=aD.1 x3
    obtain⟨y1,y2,y3⟩:=bT ht bY TE
    obtain⟨_,z2,_⟩:=bT ht bY H6
    obtain⟨m,hm,_⟩:=bF.1 y3
    have dw:ct C Φ Pre (.iP pc (.bin .and (.bin .le (.ao k 0) hh) (.bin .le hh (.un .len e)))):=eC _ (by simp)
    have hb:=dw.2 bY
    simp only[den,B.den,U.den,hl,hm,D.ab,D.eh,D.ak,aw,aN]at hb
    obtain⟨b1,b2⟩:=hb
    have hhv:a.eval hi= .int k m:=(hm▸y2).bD
    have OF:a.eval mx= .int k m:=(hm▸z2).bD
    have dC:den C.ρ (.bin .take e hh)= .list (ds.take m.toNat):=by simp only[den,B.den,hl,hm,D.ab,D.ak]
    have hlen:(ds.take m.toNat).length=m.toNat:=by simp;omega
    have F1: ∀(ad:Option Addr) (cap:Nat),ds.length≤cap→(Instr.sliceAt t (.slice ad ds.length cap) none (some (.int k m)) (some (.int k m))).run P w=
      .ok (.slice (if m.toNat=0 then ad else ad.map (·.add (0*u.cells.length))) m.toNat m.toNat) w:=by
     intro ad cap gN
     have h1:=fc (P:=P) (w:=w) fo
     have h2: ∀code,(Instr.sliceBound (.int k m) cap code).run P w= .ok m.toNat w:=fun code=>run_sliceBound w k m cap code (by omega) (by omega)
     have h3: ∀code,(Instr.sliceBound (.int k m) m.toNat code).run P w= .ok m.toNat w:=fun code=>run_sliceBound w k m m.toNat code (by omega) (by omega)
     have e2:(Instr.sliceBounds true ds.length cap none (some (.int k m)) (some (.int k m))).run P w= .ok (0,m.toNat,m.toNat) w:=by
      simp[Instr.sliceBounds,h2,h3]
     simp[Instr.sliceAt,Instr.slice,run_underlying hu,e2,h1]
    have fin: ∀{ad:Option Addr} {cap:Nat},a.eval x= .slice ad ds.length cap→ds.length≤cap→(∀v,v=Value.slice (if m.toNat=0 then ad else ad.map (·.add (0*u.cells.length))) m.toNat m.toNat→bj w G.S v (.list (ds.take m.toNat)))→ig P C w G a o (.one (.clip (.bin .take e hh) u)):=by
     intro ad cap hv gN fa
     refine⟨_,?_,by simp[E.lt,x1,y1],by rw[dC];exact fa _ rfl,?_,?_⟩
     ·unfold execOp;simp only[ho,hv,hhv,OF,Option.map_none,Option.map_some,Sem.run_bind,F1 ad cap gN,Result.andThen_ok];rfl
     ·rw[dC]
      exact aD.2 ⟨_,rfl,F2.mono (by omega),fun y hy=>eI y (List.mem_of_mem_take hy)⟩
     ·rw[dC];simp only[D.ak,hlen];exact⟨_,rfl⟩
    have B3:=hl▸x2
    by_cases hz:m.toNat=0
    ·have hle: ∃ad cap,a.eval x= .slice ad ds.length cap∧ds.length≤cap:=by
      generalize a.eval x=v at B3
      cases B3 with
      |nil ad cap=>exact⟨ad,cap,rfl,Nat.zero_le _⟩
      |list b off cap sz xs _ _ _ gN=>exact⟨_,cap,rfl,gN⟩
     obtain⟨ad,cap,hv,gN⟩:=hle
     refine fin hv gN fun v wF=> ?_
     rw[wF,hz]
     exact .nil _ _
    ·generalize SQ:a.eval x=v at B3
     cases B3 with
     |nil ad cap=>simp at b2;omega
     |list b off cap sz xs _ Cl dH gN mZ hS hc hw hr=>
      refine fin SQ gN fun v' wF=> ?_
      rw[wF,if_neg hz]
      simp only[Option.map_some,dD,Nat.zero_mul,Nat.add_zero]
      have key:=bj.list (w:=w) (S:=G.S) b off m.toNat sz (xs.take (m.toNat*sz)) (ds.take m.toNat) Cl (fun e=>hz (by rw[←hlen,e];rfl)) (by omega) (by
        rw[hlen,List.length_take,mZ];exact Nat.min_eq_left (Nat.mul_le_mul_right _ (by omega)))
       (fun i hi=>hS _ (by simp at hi;omega))
       (fun i v hi=>by
        simp only[List.getElem?_take]at hi
        split at hi
        ·exact hc _ v hi
        ·cases hi)
       (fun i d hi=>hw _ d (by simp only[List.getElem?_take]at hi;split at hi;exact hi;cases hi))
       (fun i d j v c hi hj hv=>by
        simp only[List.getElem?_take]at hi hv
        split at hi
        ·split at hv
         ·exact hr i d j v c hi hj hv
         ·cases hv
        ·cases hi)
      rw[hlen]at key
      exact key
   ·cases h
  ·cases h
 ·cases h
end
def lk{α β:Type}[DecidableEq α] :List (α×β)→α→Option β
 | [],_=>none
 |(k,v)::r,x=>if x=k then some v else lk r x
structure fD where
 dst:Option Nat
 uz:bI×SV
 hp:List (Nat×Option (Bool×List SC))
 live:List (Tag×Option (E×TypeId×Ty))
 rd:List Nat
 items:List Item
def cG{α β:Type}[DecidableEq α](h:α→β)(l:List (α×β)):α→β:=fun x=>match lk l x with
 |some v=>v
 |none=>h x
def fD.app(e:fD)(σ:St):St:=
 ⟨match e.dst with|some d=>dp σ.tm d (some e.uz)|none=>σ.tm,cG σ.hp e.hp,cG σ.live e.live⟩
def guardOf(ops:Array Oper)(σ:St)(o:Oper):Option bI:=
 match o.guard with
 |none=>some []
 |some (j,want)=>
  match (ops[j]?).bind (·.dst) with
  |some t=>match σ.tm t with
   |some (c, .one (.eV e .bool))=>some ((e,want)::c)
   |_=>none
  |none=>none
def Ej(P:Program)(σ:St)(pc:bI)(o:Oper):Option (Pl×List Nat):=
 match o.op with
 | .lookup T m x false=>
  match dz P σ pc m T,cV P σ pc x 0 with
  |some (.one (.D1 id)),some (ek,kt)=>
   match σ.hp id with
   |some (_,cs)=>match mapOf cs with
    |some (e,kt',T')=>if kt'=kt∧T'=T then some ((.one (.eV (.bin .has e ek) .bool),[]),[id]) else none
    |none=>none
   |none=>none
  |_,_=>none
 |_=>none
def pC(P:Program)(σ:St)(pc:bI)(o:Oper):Option (Pl×List Nat):=
 match o.op with
 | .load .. =>Ek P σ pc o
 | .move _| .assign _=>(Am P σ pc o).map (·,[])
 | .pick .. =>(Ei P σ pc o).map (·,[])
 | .binOp .. =>(El P σ pc o).map (·,[])
 | .unOp .. | .convert .. =>(O2 P σ pc o).map (·,[])
 | .extract .. =>(r8 P σ pc o).map (·,[])
 | .fieldAddr .. =>(nG P σ pc o).map (·,[])
 | .field .. =>(zu P σ pc o).map (·,[])
 | .indexAddr .. =>(nF P σ pc o).map (·,[])
 | .nilCheck _=>(KX P σ pc o).map (·,[])
 | .slice _ _ _ _ none=>(zr P σ pc o).map (·,[])
 | .slice .. =>(vJ P σ pc o).map (·,[])
 | .build .. =>(zv P σ pc o).map (·,[])
 | .lookup .. =>Ej P σ pc o
 | .call {callee:= .builtin .len, .. }| .call {callee:= .builtin .min, .. }| .call {callee:= .builtin .max, .. }=>(CT P σ pc o).map (·,[])
 |_=>none
def z8(P:Program)(σ:St)(pc:bI)(o:Oper):Option (List SC):=
 match o.op with
 | .alloc t=>
  match flat P GG t,(P.info? t).bind (·.zero) with
  |some ts,some z=>kL ts z.cells.toList
  |none,some z=>(match z.cells.toList with| [.map none] =>some [.IH] |_=>none)
  |_,_=>none
 | .box t x=>(dz P σ pc x t).bind kR
 |_=>none
def vm(P:Program)(σ:St)(pc:bI)(o:Oper):Option (Nat×List SC):=
 match o.op with
 | .store t x y=>
  match dz P σ pc x t,(dz P σ pc y t).bind kR,fG P t with
  |some (.one (.pa id off)),some cs,some n=>
   match σ.hp id with
   |some (false,zg)=>if mapOf zg=none∧cs.length=n∧off+cs.length≤zg.length then some (id,zg.take off++cs++zg.drop (off+cs.length)) else none
   |_=>none
  |_,_,_=>none
 |_=>none
def qP(P:Program)(σ:St)(pc:bI):List Operand→Option (List (E×Ty)×List (Nat×List SC))
 | [] =>some ([],[])
 |x::r=>
  match dz P σ pc x 0,qP P σ pc r with
  |some (.one (.pa id 0)),some (es,fz)=>
   match σ.hp id with
   |some (_,cs)=>match eQ cs with
    |some (ds,ts)=>some ((.un .pj (.bQ ds), .box (.bQ ts))::es,(id,cs)::fz)
    |none=>none
   |none=>none
  |some (.one (.eV e (.box fs))),some (es,fz)=>some ((e, .box fs)::es,fz)
  |_,_=>none
def O3(P:Program)(σ:St)(pc:bI)(o:Oper):Option (E×Ty×List (Nat×List SC)):=
 match o.op with
 | .makeFunc (.func f) first captured=>
  if first.toList.isEmpty then
   match qP P σ pc captured.toList with
   |some (es,fz)=>some (.un (.fnc f) (.bQ (es.map (·.1))), .fn f (.bQ (es.map (·.2))),fz)
   |none=>none
  else none
 |_=>none
def yc(P:Program)(σ:St)(pc:bI):List Operand→List TypeId→Option (List (E×Ty))
 | [],[] =>some []
 |x::r,t::ts=>match cV P σ pc x t,yc P σ pc r ts with
  |some e,some es=>some (e::es)
  |_,_=>none
 |_,_=>none
def mO(own:Bool)(p:Nat)(e:E):aA→SC
 |(t,none)=> .eV e t
 |(t,some (j,_))=>if own then(if Ca j then .xo (p,j) t else .own (p,j) e t) else .eV e (.list t)
def jW(own:Bool)(p:Nat)(e:E):Nat→List aA→List SC
 |_,[] => []
 |j,c::r=>mO own p (.un (.cell j) e) c::jW own p e (j+1) r
def AD(own:Bool)(p:Nat)(e:E)(c:Bool×List aA):Bool×List SC:=
 (c.1,if c.1 then jW own p e 0 c.2 else c.2.map (mO own p e))
def lZ(own:Bool)(p:Nat)(e:E):Nat→List (Bool×List aA)→List (Bool×List SC)
 |_,[] => []
 |j,c::r=>AD own p (.un (.cell j) e) c::lZ own p e (j+1) r
def tU(own:Bool)(p:Nat)(e:E):List (Bool×List aA)→SV
 | [c] =>match AD own p e c with
  |(true,l)=> .agg l
  |(false,l)=> .one (l.headD (.lU .nil))
 |cs=> .cW (lZ own p e 0 cs)
def ke(own:Bool)(p:Nat)(res:List (Bool×List aA)):SV:=tU own p (.var p) res
def iY(p:Nat)(e:E):aA→List (Tag×Option (E×TypeId×Ty))
 |(_,none)=> []
 |(t,some (j,T))=> [((p,j),some (e,T,t))]
def kD(p:Nat)(e:E):Nat→List aA→List (Tag×Option (E×TypeId×Ty))
 |_,[] => []
 |j,c::r=>iY p (.un (.cell j) e) c++kD p e (j+1) r
def rj(p:Nat)(e:E)(c:Bool×List aA):List (Tag×Option (E×TypeId×Ty)):=
 if c.1 then kD p e 0 c.2 else c.2.flatMap (iY p e)
def mz(p:Nat)(e:E):Nat→List (Bool×List aA)→List (Tag×Option (E×TypeId×Ty))
 |_,[] => []
 |j,c::r=>rj p (.un (.cell j) e) c++mz p e (j+1) r
def mP(p:Nat)(e:E):List (Bool×List aA)→List (Tag×Option (E×TypeId×Ty))
 | [c] =>rj p e c
 |cs=>mz p e 0 cs
def eF(p:Nat)(res:List (Bool×List aA)):List (Tag×Option (E×TypeId×Ty)):=mP p (.var p) res
def IF(res:List (Bool×List aA)):Bool:=res.all fun c=>c.2.all fun x=>match x.2 with|some (j,_)=> !Ca j|none=>true
def bk(res:List (Bool×List aA)):List Nat:=res.flatMap fun c=>c.2.filterMap fun x=>x.2.map (·.1)
def px:aA→aA
 |(t,some (j,T))=>(t,some (j+1000,T))
 |c=>c
def u9(res:List (Bool×List aA)):List (Bool×List aA):=res.map fun c=>(c.1,c.2.map px)
def Ag(s:bS):bS:={s with res:=u9 s.res}
def Ty.bare:Ty→Bool
 | .int _| .bool| .str=>true
 |_=>false
def aA.bare:aA→Bool
 |(t,none)=>t.bare
 |(t,some _)=>t.cells.all Ty.bare
def zC(res:List (Bool×List aA)):Bool:=res.all fun c=>c.2.all aA.bare
def akN(cs:lD):Option Nat→Bool
 |some d=>cs.ex.contains d
 |none=>false
def CR(cs:lD)(dst:Option Nat)(k:Nat):Option bS:=
 match lk cs.l k with
 |some s=>if akN cs dst=true∧s.ob=none∧zC s.res=true then some (Ag s) else some s
 |none=>none
def xc(P:Program)(cs:lD)(σ:St)(pc:bI)(o:Oper):Option (Nat×E×bS):=
 match o.op with
 | .call {callee:= .value f,args,argTypes}=>
  match dz P σ pc f 0,yc P σ pc args.toList argTypes.toList with
  |some (.one (.eV fe (.fn k fs))),some es=>
   match CR cs o.dst k with
   |some sig=>
    if sig.ob.isNone=true∧es.map (·.2)++fs.ak=sig.params∧(bk sig.res).Nodup∧(sig.res.all fun c=>c.1||c.2.length==1)=true∧(pc.isEmpty||IF sig.res)=true then
     some (k, .bQ (es.map (·.1)++(gO fe 0 fs.ak).map (·.1)),sig)
    else none
   |none=>none
  |_,_=>none
 |_=>none
def ju:List (Option Tag)→Bool
 | [] =>true
 |none::r=>ju r
 |some g::r=> !r.contains (some g)&&ju r
abbrev jI:=List (Nat×Option Tag)
def gQ(σ:St):aA→SC→Option (E×jI)
 |(t,none),c=>match asData c with
  |some (e,t')=>if t'=t then some (e,[]) else none
  |none=>match c with
   | .pa _ 0=>if t= .box .nil then some (.un .pj .nil,[]) else none
   |_=>none
 |(t,some (j,T)),c=>match c with
  | .lU t'=>if t'=t∧0<t.cells.length then some (.nil,[(j,none)]) else none
  | .own g _ t'=>match σ.live g with
   |some (e,T',YQ)=>if t'=t∧YQ=t∧T'=T∧0<t.cells.length∧g.ex=false∧Ca j=false then some (e,[(j,some g)]) else none
   |none=>none
  | .xo g t'=>match σ.live g with
   |some (e,T',YQ)=>if t'=t∧YQ=t∧T'=T∧0<t.cells.length∧g.ex=true∧Ca j=true then some (e,[(j,some g)]) else none
   |none=>none
  |_=>none
def dY(σ:St):List aA→List SC→Option (List E×jI)
 | [],[] =>some ([],[])
 |r::rs,c::cs=>match gQ σ r c,dY σ rs cs with
  |some (e,l),some (es,ls)=>some (e::es,l++ls)
  |_,_=>none
 |_,_=>none
theorem jf{σ:St}{rc:List aA}{cs:List SC}{x:List E×jI}(h:dY σ rc cs=some x):mapOf cs=none:=by
 unfold mapOf
 split
 ·cases rc with
  |nil=>simp[dY]at h
  |cons r rs=>
   obtain⟨t,o⟩:=r
   cases o<;>simp[dY,gQ,asData]at h
 ·rfl
def nR(l:jI):Bool:=ju (l.map (·.2))&&decide ((l.map (·.1)).Nodup)
def Gd:aA→Ty
 |(t,none)=>t
 |(t,some _)=> .list t
def Gq(rc:List aA):List Nat:=rc.filterMap fun x=>x.2.map (·.1)
def Ob.ia(ob:Ob):List Nat:=ob.ba.flatMap Gq
def jk(sig:bS)(ob:Ob):List Nat:=bk sig.res++ob.outs.flatMap Gq
def jL(P:Program)(σ:St)(pc:bI):List Bool→List Operand→List TypeId→Option (List (E×Ty)×List Nat)
 | [],[],[] =>some ([],[])
 |false::sh,x::r,t::ts=>match cV P σ pc x t,jL P σ pc sh r ts with
  |some e,some (es,ids)=>some (e::es,ids)
  |_,_=>none
 |true::sh,x::r,t::ts=>match dz P σ pc x t,jL P σ pc sh r ts with
  |some (.one (.pa id 0)),some (es,ids)=>some (es,id::ids)
  |_,_=>none
 |_,_,_=>none
def tk(σ:St):List (List aA)→List Nat→Option (List (List E)×jI)
 | [],[] =>some ([],[])
 |rc::r,id::ids=>match σ.hp id with
  |some (false,cs)=>match dY σ rc cs,tk σ r ids with
   |some (es,l),some (wK,ls)=>some (es::wK,l++ls)
   |_,_=>none
  |_=>none
 |_,_=>none
def eZ(l:List Bool):Nat:=(l.filter fun b=>b).length
def KC:aA:=(.box .nil,none)
def Jw:List aA→List SC→Option Nat
 |r::rs,c::cs=>if r=KC then(match c with
  | .pa id 0=>some id
  |_=>none) else Jw rs cs
 |_,_=>none
def mI(σ:St)(ob:Ob)(ids:List Nat):List Nat:=
 if eZ ob.shape<ob.ba.length then
  match ob.ba,ids with
  |rc::_,id::_=>match σ.hp id with
   |some (_,cs)=>ids++(Jw rc cs).toList
   |none=>ids
  |_,_=>ids
 else ids
def CU(ob:Ob)(ids:List Nat):Option Nat:=if eZ ob.shape<ob.ba.length then ids[ob.ba.length-1]? else none
def CV(l:Nat):List aA→List SC→Bool
 |r::rs,c::cs=>(decide (r≠KC)||decide (c= .pa l 0))&&CV l rs cs
 |_,_=>true
def yR(σ:St):List (List aA)→List Nat→Option Nat→Bool
 |rc::r,id::ids,some l=>(match σ.hp id with
  |some (_,cs)=>CV l rc cs
  |none=>true)&&yR σ r ids (some l)
 |_,_,_=>true
def tQ(lk:Option Nat):List aA→List SC→List SC
 |r::rs,c::cs=>(match lk with
  |some id=>if r=KC then .pa id 0 else c
  |none=>c)::tQ lk rs cs
 |_,cs=>cs
theorem Ba(lk:Option Nat): ∀(rs:List aA) (cs:List SC),(tQ lk rs cs).length=cs.length
 | [],cs=>by simp[tQ]
 |_::_,[] =>by simp[tQ]
 |r::rs,c::cs=>by simp[tQ,Ba lk rs cs]
theorem rf{lk:Option Nat}: ∀{rs:List aA} {cs:List SC} {i:Nat} {c:SC},(tQ lk rs cs)[i]? =some c→ ∃c0,cs[i]? =some c0∧(c=c0∨ ∃id,lk=some id∧rs[i]? =some KC∧c= .pa id 0)
 | [],cs,i,c,h=>⟨c,by simpa [tQ]using h, .inl rfl⟩
 |_::_,[],i,c,h=>by simp[tQ]at h
 |r::rs,c1::cs,0,c,h=>by
  simp only[tQ,List.getElem?_cons_zero,Option.some.injEq]at h
  refine⟨c1,rfl,?_⟩
  split at h
  ·rename_i id
   split at h
   ·rename_i hr;subst hr;exact .inr ⟨id,rfl,rfl,h.symm⟩
   ·exact .inl h.symm
  ·exact .inl h.symm
 |r::rs,c1::cs,i+1,c,h=>by
  simp only[tQ,List.getElem?_cons_succ]at h
  obtain⟨c0,h1,h2⟩:=rf h
  exact⟨c0,by simpa using h1,by simpa using h2⟩
theorem xy{l:Nat}: ∀{rs:List aA} {cs:List SC} {i:Nat} {c:SC},CV l rs cs=true→rs[i]? =some KC→cs[i]? =some c→c= .pa l 0
 | [],_,i,c,_,h,_=>by simp at h
 |_::_,[],i,c,_,_,h=>by simp at h
 |r::rs,c1::cs,0,c,h,h1,h2=>by
  simp only[List.getElem?_cons_zero,Option.some.injEq]at h1 h2
  subst h1 h2
  simp only[CV,aw,Bool.or_eq_true,aN]at h
  exact h.1.resolve_left (fun hn=>hn rfl)
 |r::rs,c1::cs,i+1,c,h,h1,h2=>by
  simp only[CV,aw]at h
  exact xy h.2 (by simpa using h1) (by simpa using h2)
theorem AX{σ:St}{l:Nat}: ∀{rcs:List (List aA)} {ids:List Nat} {o:Nat} {rc:List aA} {id:Nat} {ro:Bool} {cs:List SC},yR σ rcs ids (some l)=true→rcs[o]? =some rc→ids[o]? =some id→σ.hp id=some (ro,cs)→CV l rc cs=true
 | [],_,o,rc,id,ro,cs,_,h,_,_=>by simp at h
 |_::_,[],o,rc,id,ro,cs,_,_,h,_=>by simp at h
 |r::rs,i::is,0,rc,id,ro,cs,h,h1,h2,h3=>by
  simp only[List.getElem?_cons_zero,Option.some.injEq]at h1 h2
  subst h1 h2
  simp only[yR,h3,aw]at h
  exact h.1
 |r::rs,i::is,o+1,rc,id,ro,cs,h,h1,h2,h3=>by
  simp only[yR,aw]at h
  exact AX h.2 (by simpa using h1) (by simpa using h2) h3
def Tn(lk:Option Nat)(p:Nat):Nat→List Nat→List (List aA)→List (Nat×Option (Bool×List SC))
 |k,id::ids,rc::r=>(id,some (false,tQ lk rc (jW true p (.un (.cell k) (.var p)) 0 rc)))::Tn lk p (k+1) ids r
 |_,_,_=> []
def xW(p:Nat):Nat→List (List aA)→List (Tag×Option (E×TypeId×Ty))
 |k,rc::r=>kD p (.un (.cell k) (.var p)) 0 rc++xW p (k+1) r
 |_,[] => []
def jQ(ob:Ob)(ids:List Nat)(p:Nat):List Nat:=if ob.mv then ids.take (ob.ba.length-1)++[p] else ids++if ob.new then [p] else []
def CS(ob:Ob)(ids:List Nat)(p:Nat):Option Nat:=if ob.mv then some p else CU ob ids
def agA:aA→Bool
 |(t,none)=>t.scalar
 |_=>true
structure nr where
 k:Nat
 args:E
 sig:bS
 ob:Ob
 ids:List Nat
 own:jI
def fJ(P:Program)(cs:lD)(σ:St)(pc:bI)(o:Oper):Option nr:=
 match o.op with
 | .call {callee:= .value f,args,argTypes}=>
  match dz P σ [] f 0 with
  |some (.one (.eV _ (.fn k .nil)))=>
   match lk cs.l k with
   |some sig=>
    match sig.ob with
    |some ob=>
     match jL P σ pc ob.shape args.toList argTypes.toList with
     |some (es,ids)=>
      match tk σ ob.ba (mI σ ob ids) with
      |some (wK,l)=>
       if es.map (·.2)++ob.ba.flatten.map Gd=sig.params∧(mI σ ob ids).Nodup∧nR l=true∧(jk sig ob).Nodup∧(sig.res.all fun c=>c.1||c.2.length==1)=true∧
         ob.outs.length=(mI σ ob ids).length+ob.new.toNat∧(ob.outs.all fun rc=>rc.all agA)=true∧(mI σ ob ids).length=ob.ba.length∧yR σ ob.ba (mI σ ob ids) (CU ob (mI σ ob ids))=true∧(ob.mv=true→eZ ob.shape<ob.ba.length) then
        some ⟨k, .bQ (es.map (·.1)++wK.flatten),sig,ob,mI σ ob ids,l⟩
       else none
      |none=>none
     |none=>none
    |none=>none
   |none=>none
  |_=>none
 |_=>none
def nr.DU(x:nr)(p:Nat)(dst:Option Nat):fD:=
 ⟨dst,([],if x.ob.new then .one (.pa p 0) else tU true p (.un (.cell 0) (.var p)) x.sig.res),Tn (CS x.ob x.ids p) p 1 (jQ x.ob x.ids p) x.ob.outs++(if x.ob.mv then [(x.ids.getD (x.ob.ba.length-1) 0,none)] else []),
  (x.own.filterMap fun y=>y.2.map fun g=>(g,none))++(if x.ob.new then [] else mP p (.un (.cell 0) (.var p)) x.sig.res)++xW p 1 x.ob.outs,x.ids,[.call p x.k x.args []]⟩
def tl(σ:St):List SC→Option (List E×List Ty×List Nat)
 | [] =>some ([],[],[])
 |c::r=>match tl σ r with
  |some (es,ts,ids)=>match asData c with
   |some (e,t)=>some (e::es,t::ts,ids)
   |none=>match c with
    | .pa id 0=>match σ.hp id with
     |some (_,cs)=>match eQ cs with
      |some (ds,us)=>some (.un .pj (.bQ ds)::es, .box (.bQ us)::ts,id::ids)
      |none=>none
     |none=>none
    |_=>none
  |none=>none
def MO(P:Program)(σ:St)(pc:bI)(x:Operand)(t:TypeId):Option (E×Ty×List Nat):=
 match cV P σ pc x t with
 |some (e,ty)=>some (e,ty,[])
 |none=>match dz P σ pc x t with
  |some (.one (.pa id 0))=>match σ.hp id with
   |some (_,cs)=>match tl σ cs with
    |some (es,ts,ids)=>some (.un .pj (.bQ es), .box (.bQ ts),id::ids)
    |none=>none
   |none=>none
  |_=>none
def yb(P:Program)(σ:St)(pc:bI):List Operand→List TypeId→Option (List (E×Ty)×List Nat)
 | [],[] =>some ([],[])
 |x::r,t::ts=>match MO P σ pc x t,yb P σ pc r ts with
  |some (e,ty,i),some (es,ids)=>some ((e,ty)::es,i++ids)
  |_,_=>none
 |_,_=>none
def nw(P:Program)(cs:lD)(σ:St)(pc:bI)(o:Oper):Option (Nat×E×bS×List Nat):=
 match o.op with
 | .call {callee:= .value f,args,argTypes}=>
  match dz P σ [] f 0,yb P σ pc args.toList argTypes.toList with
  |some (.one (.eV _ (.fn k .nil))),some (es,ids)=>
   match lk cs.l k with
   |some sig=>
    if sig.ob.isNone=true∧es.map (·.2)=sig.params∧(bk sig.res).Nodup∧(sig.res.all fun c=>c.1||c.2.length==1)=true∧zC sig.res=true∧(pc.isEmpty||IF sig.res)=true then
     some (k, .bQ (es.map (·.1)),sig,ids)
    else none
   |none=>none
  |_,_=>none
 |_=>none
def ra(P:Program)(σ:St)(pc:bI)(o:Oper):Option (Option Tag×E×E×TypeId×Ty×Nat):=
 match o.op with
 | .call {callee:= .builtin .append,args,argTypes}=>
  match args.toList,argTypes.toList with
  | [s,x],[t,t'] =>
   match P.underlying t,dz P σ pc s t,cV P σ pc x t with
   |some (.slice el),some sv,some (e2, .list u)=>
    match P.info? el,tyV P el with
    |some ie,some u'=>
     if t=t'∧u=u'∧u.cells.length=ie.size∧0<ie.size∧(u.cells.all Ty.scalar)=true∧((ie.zero.map fun z=>z.cells.size)=some ie.size)∧ie.bytes=u.bytes then
      match sv with
      | .one (.lU v)=>if v=u then some (none, .nil,e2,el,u,ie.bytes) else none
      | .one (.own g _ v)=>match σ.live g with
       |some (e1,T,v')=>if v=u∧v'=u∧T=el∧g.ex=false then some (some g,e1,e2,el,u,ie.bytes) else none
       |none=>none
      |_=>none
     else none
    |_,_=>none
   |_,_,_=>none
  |_,_=>none
 |_=>none
def mr(P:Program)(σ:St)(o:Oper):Option (E×E×TypeId×Ty×Nat):=
 match o.op with
 | .call {callee:= .builtin .append,args,argTypes}=>
  match args.toList,argTypes.toList with
  | [s,x],[t,t'] =>
   match P.underlying t,dz P σ [] s t,cV P σ [] x t with
   |some (.slice el),some (.one (.clip e1 v)),some (e2, .list u)=>
    match P.info? el,tyV P el with
    |some ie,some u'=>
     if t=t'∧u=u'∧u.cells.length=ie.size∧0<ie.size∧(u.cells.all Ty.scalar)=true∧((ie.zero.map fun z=>z.cells.size)=some ie.size)∧ie.bytes=u.bytes∧v=u then some (e1,e2,el,u,ie.bytes) else none
    |_,_=>none
   |_,_,_=>none
  |_,_=>none
 |_=>none
def SC.ahg:SC→Bool
 | .xo .. =>true
 |_=>false
def SV.XG:SV→Bool
 | .one c=>c.ahg
 | .agg l=>l.any SC.ahg
 | .cW _=>false
def p5(σ:St)(g:Tag)(t:Ty):Option (E×TypeId):=
 match σ.live g with
 |some (e,T,t')=>if t'=t∧g.ex=true∧0<t.cells.length then some (e,T) else none
 |none=>none
def I5(u:Ty)(el:E)(off:Nat)(es:List E):Option E:=
 match u,es with
 | .agg fs,es=>some (.un .agg (.bQ (((gO el 0 fs.ak).map (·.1)).take off++es++((gO el 0 fs.ak).map (·.1)).drop (off+es.length))))
 |u,[x] =>if off=0∧u.scalar=true then some x else none
 |_,_=>none
def uP(e i x:E):E:= .bin .cat (.bin .take e i) (.cons x (.bin .drop (.bin .drop e i) (.ao .i64 1)))
def KQ(P:Program)(σ:St)(o:Oper):Option fD:=
 match o.op with
 | .load t x=>
  if(P.underlying t).isNone then none else
  match dz P σ [] x t with
  |some (.one (.tJ g i u off))=>match p5 σ g u with
   |some (e,T)=>(oY P t (.bin .idx e i) u off).map fun s=>⟨o.dst,([],s.1),[],[(g,some (e,T,u))],[],[]⟩
   |none=>none
  |_=>none
 |_=>none
def Ed(P:Program)(σ:St)(o:Oper):Option fD:=
 match o.op with
 | .store t x y=>
  match dz P σ [] x t,((dz P σ [] y t).bind kR).bind eQ,fG P t with
  |some (.one (.tJ g i u off)),some (es,ts),some n=>match p5 σ g u with
   |some (e,T)=>
    if es.length=n∧off+n≤u.cells.length∧ts=(u.cells.drop off).take n∧(ts.all Ty.scalar)=true∧o.dst=none then
     (I5 u (.bin .idx e i) off es).map fun x=>⟨none,([], .agg []),[],[(g,some (uP e i x,T,u))],[],[]⟩
    else none
   |none=>none
  |_,_,_=>none
 |_=>none
def TQ(P:Program)(σ:St)(o:Oper):Option fD:=
 match o.op with
 | .call {callee:= .builtin .len,args,argTypes}=>
  match args.toList,argTypes[0]? with
  | [x],some t=>match P.underlying t,dz P σ [] x t with
   |some (.slice _),some (.one (.xo g u))=>match p5 σ g u with
    |some (e,T)=>some ⟨o.dst,([], .one (.eV (.un .len e) (.int .i64))),[],[(g,some (e,T,u))],[],[]⟩
    |none=>none
   |_,_=>none
  |_,_=>none
 |_=>none
def Ef(P:Program)(σ:St)(o:Oper):Option fD:=
 match o.op with
 | .indexAddr t x i=>
  match P.underlying t,dz P σ [] x t,cV P σ [] i t with
  |some (.slice el),some (.one (.xo g u)),some (ie, .int k)=>match p5 σ g u with
   |some (e,T)=>
    if fG P el=some u.cells.length then
     some ⟨o.dst,([], .one (.tJ g ie u 0)),[],[(g,some (e,T,u))],[],[.iP [] (.bin .and (.bin .le (.ao k 0) ie) (.bin .lt ie (.un .len e)))]⟩
    else none
   |none=>none
  |_,_,_=>none
 |_=>none
def An(P:Program)(σ:St)(o:Oper):Option (Option Tag×E×E×TypeId×Ty×Nat):=
 match o.op with
 | .call {callee:= .builtin .append,args,argTypes}=>
  match args.toList,argTypes.toList with
  | [s,x],[t,t'] =>
   match P.underlying t,dz P σ [] s t,cV P σ [] x t with
   |some (.slice el),some sv,some (e2, .list u)=>
    match P.info? el,tyV P el with
    |some ie,some u'=>
     if t=t'∧u=u'∧u.cells.length=ie.size∧0<ie.size∧(u.cells.all Ty.scalar)=true∧((ie.zero.map fun z=>z.cells.size)=some ie.size)∧ie.bytes=u.bytes then
      match sv with
      | .one (.lU v)=>if v=u then some (none, .nil,e2,el,u,ie.bytes) else none
      | .one (.xo g v)=>match p5 σ g v with
       |some (e1,T)=>if v=u∧T=el then some (some g,e1,e2,el,u,ie.bytes) else none
       |none=>none
      |_=>none
     else none
    |_,_=>none
   |_,_,_=>none
  |_,_=>none
 |_=>none
def EK(P:Program)(σ:St)(p:Nat)(o:Oper):Option fD:=
 match An P σ o with
 |some (g,e1,e2,T,t,b)=>some ⟨o.dst,([], .one (.xo (p,1000) t)),[],(match g with|some g=> [(g,none)] |none=> [])++[((p,1000),some (.bin .cat e1 e2,T,t))],[],[.room [] (.bin .cat e1 e2) b]⟩
 |none=>none
def TP(P:Program)(σ:St)(p:Nat)(o:Oper):Option fD:=
 match xb P σ o with
 |some (e,T,t,_)=>some ⟨o.dst,([], .one (.xo (p,1000) t)),[],[((p,1000),some (e,T,t))],[],[]⟩
 |none=>none
def l3(σ:St):SC→Option ((E×Ty)×List (Tag×Option (E×TypeId×Ty)))
 | .xo g t=>match p5 σ g t with
  |some (e,T)=>some ((e, .list t),[(g,some (e,T,t))])
  |none=>none
 |c=>(asData c).map fun x=>(x,[])
def iu(σ:St):List SC→Option ((List E×List Ty)×List (Tag×Option (E×TypeId×Ty)))
 | [] =>some (([],[]),[])
 |c::r=>match l3 σ c,iu σ r with
  |some ((e,t),l),some ((es,ts),ls)=>some ((e::es,t::ts),l++ls)
  |_,_=>none
def ly(σ:St):SV→Option ((E×Ty)×List (Tag×Option (E×TypeId×Ty)))
 | .one c=>l3 σ c
 | .agg l=>match iu σ l with
  |some ((es,ts),ls)=>some ((.un .agg (.bQ es), .agg (.bQ ts)),ls)
  |none=>none
 | .cW _=>none
def p8(P:Program)(σ:St)(pc:bI):List Operand→List TypeId→Option (List (E×Ty)×List (Tag×Option (E×TypeId×Ty)))
 | [],[] =>some ([],[])
 |x::r,t::ts=>match (dz P σ pc x t).bind (ly σ),p8 P σ pc r ts with
  |some (e,l),some (es,ls)=>some (e::es,l++ls)
  |_,_=>none
 |_,_=>none
def KS(P:Program)(cs:lD)(σ:St)(p:Nat)(o:Oper):Option fD:=
 match o.op with
 | .call {callee:= .value f,args,argTypes}=>
  match dz P σ [] f 0,p8 P σ [] args.toList argTypes.toList with
  |some (.one (.eV _ (.fn k .nil))),some (es,l)=>
   match lk cs.l k with
   |some sig=>
    if sig.ob.isNone=true∧es.map (·.2)=sig.params∧(bk sig.res).Nodup∧(sig.res.all fun c=>c.1||c.2.length==1)=true∧(sig.res.all fun c=>c.2.all aA.bare)=true then
     some ⟨o.dst,([],ke true p sig.res),[],l++eF p sig.res,[],[.call p k (.bQ (es.map (·.1))) []]⟩
    else none
   |none=>none
  |_,_=>none
 |_=>none
def xa(P:Program)(cs:lD)(σ:St)(pc:bI)(p:Nat)(o:Oper):Option fD:=
 match o.op with
 | .call {callee:= .value f,args,argTypes}=>
  match dz P σ [] f 0,p8 P σ pc args.toList argTypes.toList with
  |some (.one (.eV _ (.fn k .nil))),some (es,l)=>
   match lk cs.l k with
   |some sig=>
    if sig.ob.isNone=true∧es.map (·.2)=sig.params∧bk sig.res=[] ∧IF sig.res=true∧(sig.res.all fun c=>c.1||c.2.length==1)=true∧(sig.res.all fun c=>c.2.all aA.bare)=true then
     some ⟨o.dst,(pc,ke false p sig.res),[],l,[],[.call p k (.bQ (es.map (·.1))) pc]⟩
    else none
   |none=>none
  |_,_=>none
 |_=>none
def C3(P:Program)(σ:St)(x:Operand×TypeId):Bool:=match dz P σ [] x.1 x.2 with|some s=>s.XG|none=>false
def EI(P:Program)(σ:St)(pc:bI)(x:Operand×TypeId):Bool:=match dz P σ pc x.1 x.2 with|some s=>s.XG|none=>false
def Ee(P:Program)(σ:St)(pc:bI)(o:Oper):Bool:=
 match o.op with
 | .call {callee:= .value _,args,argTypes}=>(args.toList.zip argTypes.toList).any (EI P σ pc)
 |_=>false
def KR(P:Program)(cs:lD)(σ:St)(o:Oper):Nat:=
 match o.op with
 | .load t x=>match dz P σ [] x t with|some (.one (.tJ ..))=>1|_=>0
 | .store t x _=>match dz P σ [] x t with|some (.one (.tJ ..))=>2|_=>0
 | .indexAddr t x _=>match dz P σ [] x t with|some (.one (.xo ..))=>4|_=>0
 | .call {callee:= .builtin .len,args,argTypes}=>match args.toList,argTypes.toList with
  | [x],[t] =>match dz P σ [] x t with|some (.one (.xo ..))=>3|_=>0
  |_,_=>0
 | .call {callee:= .builtin .append,args,argTypes}=>match args.toList,argTypes.toList with
  |x::_,t::_=>match dz P σ [] x t with
   |some (.one (.xo ..))=>5
   |some (.one (.lU _))=>match o.dst with|some d=>if cs.ex.contains d then 5 else 0|none=>0
   |_=>0
  |_,_=>0
 | .buildSlice .. =>match o.dst with|some d=>if cs.ex.contains d then 6 else 0|none=>0
 | .makeSlice .. =>match o.dst with|some d=>if cs.ex.contains d then 6 else 0|none=>0
 | .call {callee:= .value _,args,argTypes}=>if(args.toList.zip argTypes.toList).any (C3 P σ) then 7 else 0
 |_=>0
def Pv(P:Program)(cs:lD)(σ:St)(p:Nat)(o:Oper):Nat→Option fD
 |1=>KQ P σ o
 |2=>Ed P σ o
 |3=>TQ P σ o
 |4=>Ef P σ o
 |5=>EK P σ p o
 |6=>TP P σ p o
 |_=>KS P cs σ p o
def Ja:Op→Nat
 | .alloc _| .box .. =>1
 | .store .. =>2
 | .makeFunc .. =>3
 | .call {callee:= .value _, .. }=>4
 | .call {callee:= .builtin .append, .. }=>5
 | .buildSlice .. =>6
 | .makeMap .. =>7
 | .mapUpdate .. =>8
 |_=>0
def pz(P:Program)(cs:lD)(ops:Array Oper)(σ:St)(p:Nat)(o:Oper):Option fD:=
 match guardOf ops σ o with
 |none=>none
 |some pc=>
  match Ja o.op with
  |1=>match z8 P σ pc o with
   |some l=>if pc=[] ∧l.all SC.scalar=true then some ⟨o.dst,(pc, .one (.pa p 0)),[(p,some (false,l))],[],[],[]⟩ else none
   |none=>none
  |2=>match vm P σ pc o with
   |some (id,l)=>if pc=[] ∧l.all SC.scalar=true∧o.dst=none then some ⟨none,([], .agg []),[(id,some (false,l))],[],[id],[]⟩ else none
   |none=>none
  |3=>match O3 P σ pc o with
   |some (e,t,fz)=>some ⟨o.dst,(pc, .one (.eV e t)),fz.map fun x=>(x.1,some (true,x.2)),[],fz.map (·.1),[]⟩
   |none=>none
  |4=>match xc P cs σ pc o with
   |some (k,e,sig)=>some ⟨o.dst,(pc,ke pc.isEmpty p sig.res),[],if pc.isEmpty then eF p sig.res else [],[],[.call p k e pc]⟩
   |none=>match fJ P cs σ [] o with
    |some x=>if pc=[] then some (x.DU p o.dst) else none
    |none=>match nw P cs σ pc o with
     |some (k,e,sig,rd)=>if cs.fr=0 then some ⟨o.dst,(pc,ke pc.isEmpty p sig.res),[],if pc.isEmpty then eF p sig.res else [],rd,[.call p k e pc]⟩ else none
     |none=>none
  |5=>match mr P σ o with
   |some (e1,e2,T,t,b)=>
    if pc=[] then some ⟨o.dst,([], .one (.own (p,0) (.bin .cat e1 e2) t)),[],[((p,0),some (.bin .cat e1 e2,T,t))],[],[.room [] (.bin .cat e1 e2) b, .iP [] (.bin .lt (.ao .i64 0) (.un .len e2))]⟩ else none
   |none=>match ra P σ pc o with
    |some (g,e1,e2,T,t,b)=>
     if pc=[] then
      some ⟨o.dst,(pc, .one (.own (p,0) (.bin .cat e1 e2) t)),[],(match g with|some g=> [(g,none)] |none=> [])++[((p,0),some (.bin .cat e1 e2,T,t))],[],[.room pc (.bin .cat e1 e2) b]⟩
     else none
    |none=>none
  |6=>match p4 P σ pc o with
   |some (e,T,t,_)=>
    if pc.isEmpty then some ⟨o.dst,(pc, .one (.own (p,0) e t)),[],[((p,0),some (e,T,t))],[],[]⟩
    else some ⟨o.dst,(pc, .one (.eV e (.list t))),[],[],[],[]⟩
   |none=>none
  |_=>match pC P σ pc o with
   |some ((s,is),rd)=>some ⟨o.dst,(pc,s),[],[],rd,is⟩
   |none=>none
def C0(P:Program)(cs:lD)(ops:Array Oper)(σ:St)(p:Nat)(o:Oper):Option fD:=
 match o.guard,KR P cs σ o with
 |none,k+1=>Pv P cs σ p o (k+1)
 |some _,_=>match guardOf ops σ o with
  |some pc=>if Ee P σ pc o then xa P cs σ pc p o else pz P cs ops σ p o
  |none=>none
 |_,_=>pz P cs ops σ p o
def EY:SC→Bool
 | .eV _ t=>t.bare
 | .lU _=>true
 | .own .. =>true
 |_=>false
def A9:SV→Bool
 | .one (.own ..)=>true
 | .one (.lU _)=>true
 | .one (.eV _ (.list u))=>u.cells.all Ty.bare
 | .one (.clip _ u)=>u.cells.all Ty.bare
 |_=>false
def pv(P:Program)(σ:St)(pc:bI)(o:Oper):Option (List SC):=
 match o.op with
 | .buildSlice t len parts=>
  match P.underlying t with
  |some (.slice el)=>
   match P.info? el,flat P GG el,kO P σ pc (fun _=>el) parts.toList with
   |some ie,some ts,some ps=>
    match ie.zero.bind fun z=>kL ts z.cells.toList with
    |some zs=>tY (fun i=>some (i*ie.size,ie.size)) ((List.range (len*ie.size)).map fun j=>zs.getD (j % zs.length) (.lU .nil)) ps
    |none=>none
   |_,_,_=>none
  |_=>none
 |_=>none
def Wp(j:Nat):Bool:=decide (500≤j)&&decide (j<1000)
def aA.fr:aA→Bool
 |(t,none)=>t.bare
 |(t,some (j,_))=>t.cells.all Ty.bare||Wp j
def XJ(res:List (Bool×List aA)):Bool:=res.all fun c=>c.2.all aA.fr
def Uf(res:List (Bool×List aA)):Bool:=(bk res).all fun j=> !Wp j
def uM(P:Program)(cs:lD)(σ:St)(pc:bI)(o:Oper):Bool:=
 match o.op with
 | .call {callee:= .value f, .. }=>match dz P σ pc f 0 with
  |some (.one (.eV _ (.fn k _)))=>match CR cs o.dst k with
   |some sig=>XJ sig.res&&sig.ob.isNone&&IF sig.res
   |none=>false
  |_=>false
 | .call {callee:= .builtin .append,args,argTypes}=>match args.toList,argTypes.toList with
  | [s,x],[_,t'] =>match dz P σ pc s t',dz P σ pc x t' with
   |some (.one (.clip _ u)),_=>u.cells.all Ty.bare
   |_,some sv=>A9 sv
   |_,_=>false
  |_,_=>false
 | .buildSlice .. =>match pv P σ pc o with
  |some cs=>cs.all EY
  |none=>false
 |_=>true
def xg(P:Program)(cs:lD)(ops:Array Oper)(σ:St)(p:Nat)(o:Oper):Option fD:=
 match cs.fr with
 |0=>C0 P cs ops σ p o
 |1=>match guardOf ops σ o with
  |some pc=>if uM P cs σ pc o then pz P cs ops σ p o else none
  |none=>none
 |_=>if Ja o.op<3 then pz P cs ops σ p o else none
structure tS(ex:Bool)(w:World)(base:Nat)(S:aO)(T:TypeId)(t:Ty)(v:Value)(d:D):Prop where
 has:Has (.list t) d
 sz:0<t.cells.length
 own: ∃xs l,d= .list l∧w.ownsRow base T t.cells.length v l.length xs∧(∀b,v.ownBlock=some b→ ∀o,S b o↔ex=false∧o<xs.length)∧
  ∀(i:Nat) d (j:Nat) v c,l[i]? =some d→d.cells[j]? =some c→xs[i*t.cells.length+j]? =some v→bj w S v c
def im(w:World)(base:Nat)(S:aO)(τ:Nat→Value):aA→Value→D→Prop
 |(t,none),v,d=>bj w S v d∧Has t d
 |(t,some (j,T)),v,d=>v=τ j∧tS (Ca j) w base S T t (τ j) d
def ep(w:World)(base:Nat)(S:aO)(τ:Nat→Value)(c:Bool×List aA)(v:Value)(d:D):Prop:=
 if c.1 then∃(vs:List Value) (ds:List D),v= .agg vs.toArray∧d= .agg ds∧vs.length=c.2.length∧ds.length=c.2.length∧
  ∀(i:Nat) x u y,c.2[i]? =some x→vs[i]? =some u→ds[i]? =some y→im w base S τ x u y
 else∃x,c.2=[x] ∧im w base S τ x v d
def eN(w:World)(base:Nat)(S:aO)(τ:Nat→Value)(res:List (Bool×List aA))(v:Value)(d:D):Prop:=
 (∃c,res=[c] ∧ep w base S τ c v d)∨
 (res.length≠1∧ ∃(vs:List Value) (ds:List D),v= .tuple vs.toArray∧d= .cW ds∧vs.length=res.length∧ds.length=res.length∧
  ∀(i:Nat) x u y,res[i]? =some x→vs[i]? =some u→ds[i]? =some y→ep w base S τ x u y)
def C4(w:World)(S:aO)(τ:Nat→Value)(rc:List aA)(b:Nat)(cells:List D):Prop:=
 ∃(fW:List Value) (T:TypeId),w.heap[b]? =some (.cells fW.toArray T (0,0))∧fW.length=rc.length∧cells.length=rc.length∧
  (∀(i:Nat) r v d,rc[i]? =some r→fW[i]? =some v→cells[i]? =some d→im w 0 S τ r v d)∧ ∀o,¬S b o
def qQ(w:World)(S:aO)(β:Nat→Nat):List Bool→Nat→List Value→List D→Prop
 | [],_,[],[] =>True
 |true::sh,o,v::vs,ds=>v= .pointer (some ⟨β o,0,none⟩)∧qQ w S β sh (o+1) vs ds
 |false::sh,o,v::vs,d::ds=>bj w S v d∧qQ w S β sh o vs ds
 |_,_,_,_=>False
def tI(ob:Ob)(β:Nat→Nat)(τ:Nat→Value)(b:Nat):Prop:=(∃o,o<ob.ba.length∧b=β o)∨ ∃j,j∈ob.ia∧(τ j).ownBlock=some b
structure C5(w:World)(S:aO)(ob:Ob)(β:Nat→Nat)(τ:Nat→Value)(vs:List Value)(dd:List D)(oo:List (List D)):Prop where
 lt: ∀b o,S b o→b<w.heap.size
 args:qQ w S β ob.shape 0 vs dd
 len:oo.length=ob.ba.length
 ba: ∀(o:Nat) rc cells,ob.ba[o]? =some rc→oo[o]? =some cells→C4 w S τ rc (β o) cells
 inj: ∀i j,i<ob.ba.length→j<ob.ba.length→β i=β j→i=j
 own: ∀j k b,j∈ob.ia→k∈ob.ia→(τ j).ownBlock=some b→(τ k).ownBlock=some b→j=k
 cz: ∀j o b,j∈ob.ia→o<ob.ba.length→(τ j).ownBlock=some b→b≠β o
 link:eZ ob.shape<ob.ba.length→ ∀(o c:Nat) rc,ob.ba[o]? =some rc→rc[c]? =some KC→w.cell? ⟨β o,c,none⟩=some (.pointer (some ⟨β (ob.ba.length-1),0,none⟩))
def iL(ob:Ob)(β:Nat→Nat)(βn:Nat)(o:Nat):Nat:=if o<ob.ba.length∧ ¬(ob.mv=true∧o=ob.ba.length-1) then β o else βn
structure Rz(w:World)(S:aO)(sig:bS)(ob:Ob)(β:Nat→Nat)(τ:Nat→Value)(v:Value)(d:D)(w':World)(S':aO)(τ':Nat→Value)(βn:Nat):Prop where
 below:dU (tI ob β τ) w w'
 gV: ∀b o,S b o→S' b o
 lt: ∀b o,S' b o→b<w'.heap.size
 new: ∀b o,S' b o→S b o∨w.heap.size≤b∨tI ob β τ b
 keep: ∀b o,S b o→w'.cell? ⟨b,o,none⟩=w.cell? ⟨b,o,none⟩
 res: ∃(d0:D) (outs:List (List D)),d= .cW (d0::outs.map .agg)∧outs.length=ob.outs.length∧
  (if ob.new then v= .pointer (some ⟨βn,0,none⟩)∧w.heap.size≤βn else eN w' 0 S' τ' sig.res v d0)∧
  ∀(o:Nat) rc cells,ob.outs[o]? =some rc→outs[o]? =some cells→C4 w' S' τ' rc (iL ob β βn o) cells
 dM: ∀j b,j∈jk sig ob→(τ' j).ownBlock=some b→w.heap.size≤b∨tI ob β τ b
 own: ∀j k b,j∈jk sig ob→k∈jk sig ob→(τ' j).ownBlock=some b→(τ' k).ownBlock=some b→j=k
 cz: ∀j o b,j∈jk sig ob→o<ob.outs.length→(τ' j).ownBlock=some b→b≠iL ob β βn o
 link:eZ ob.shape<ob.ba.length→ ∀(o c:Nat) rc,ob.outs[o]? =some rc→rc[c]? =some KC→w'.cell? ⟨iL ob β βn o,c,none⟩=some (.pointer (some ⟨iL ob β βn (ob.ba.length-1),0,none⟩))
 mvd:ob.mv=true→βn=β (ob.ba.length-1)∨w.heap.size≤βn
structure YN(w:World)(T:TypeId)(v:Value)(unit:Bool)(ys:List Int)(u v':Value)(w':World):Prop where
 res:if unit then v'=v else u=v'
 own:w'.ownsRow 0 T 1 v' ys.length (ys.map (Value.int .i64))
 B0:v'.ownBlock=v.ownBlock
 below:dU (fun b=>v.ownBlock=some b) w w'
structure ax(P:Program)(f:Nat)(sig:bS)(Pre:List D→Prop)(Φ:List D→D):Prop where
 enter: ∀(args:Array Value) (w:World),(callFunc f args).run P w= .ok (.enter f args) w
 calls:sig.ob=none→ ∀(w:World) (S:aO) (vs:List Value) (ds:List D),(∀b o,S b o→b<w.heap.size)→vs.length=ds.length→(∀(i:Nat) v d,vs[i]? =some v→ds[i]? =some d→bj w S v d)→
  bV (.bQ sig.params) ds→Pre ds→
  Calls P f vs.toArray w fun e w'=> ∃v S' τ,e= .returned v∧Below w.heap.size w w'∧(∀b o,S b o→S' b o)∧(∀b o,S' b o→b<w'.heap.size)∧(∀b o,S' b o→S b o∨w.heap.size≤b)∧
   eN w' 0 S' τ sig.res v (Φ ds)∧(∀j b,j∈bk sig.res→(τ j).ownBlock=some b→w.heap.size≤b)∧(∀j k b,j∈bk sig.res→k∈bk sig.res→(τ j).ownBlock=some b→(τ k).ownBlock=some b→j=k)∧
   ∀j,j∈bk sig.res→Wp j=true→zm (fun b=>w.heap.size≤b) w' S' (τ j)
 Ao: ∀ob,sig.ob=some ob→ob.wV=false→ ∀(w:World) (S:aO) (β:Nat→Nat) (τ:Nat→Value) (vs:List Value) (dd:List D) (oo:List (List D)),C5 w S ob β τ vs dd oo→
  bV (.bQ sig.params) (dd++oo.flatten)→Pre (dd++oo.flatten)→
  Calls P f vs.toArray w fun e w'=> ∃v S' τ' βn,e= .returned v∧Rz w S sig ob β τ v (Φ (dd++oo.flatten)) w' S' τ' βn
 I9: ∀ob,sig.ob=some ob→ob.wV=true→ ∀(w:World) (T:TypeId) (v:Value) (zs:List Int),w.ownsRow 0 T 1 v zs.length (zs.map (Value.int .i64))→Has (.list (.int .i64)) (.list (zs.map (D.int .i64)))→Pre [.list (zs.map (D.int .i64))] →
  Calls P f #[v] w fun e w'=> ∃(u v':Value) (ys:List Int),e= .returned u∧Φ [.list (zs.map (D.int .i64))] = .list (ys.map (D.int .i64))∧Has (.list (.int .i64)) (.list (ys.map (D.int .i64)))∧YN w T v sig.res.isEmpty ys u v' w'
structure ak0(P:Program)(f:Nat)(sg:AH)(Pre:List D→Prop)(Φ:List D→D):Prop where
 enter: ∀(args:Array Value) (w:World),(callFunc f args).run P w= .ok (.enter f args) w
 calls: ∀(w:World) (S:aO) (vs:List Value) (ds:List D) (vo:Value) (lo:D) (bm:Nat) (lm:D),(∀b o,S b o→b<w.heap.size)→vs.length=ds.length→(∀(i:Nat) v d,vs[i]? =some v→ds[i]? =some d→bj w S v d)→
  bV (.bQ sg.ps) ds→tS true w 0 S sg.T sg.t vo lo→Has (.list sg.kt) lm→vh P w bm sg.TM sg.kt lm.ak→(∀o,¬S bm o)→Pre (ds++[lo,lm])→
  Calls P f (vs++[vo, .map (some bm)]).toArray w fun e w'=> ∃v S',e= .returned v∧dU (fun b=>vo.ownBlock=some b∨b=bm) w w'∧(∀b o,S b o→S' b o)∧(∀b o,S' b o→b<w'.heap.size)∧
   (∀b o,S' b o→S b o∨w.heap.size≤b∨vo.ownBlock=some b∨b=bm)∧(∀b o,S b o→w'.cell? ⟨b,o,none⟩=w.cell? ⟨b,o,none⟩)∧tS true w' 0 S' sg.T sg.t v (Φ (ds++[lo,lm]))∧
   ∀b,v.ownBlock=some b→w.heap.size≤b∨vo.ownBlock=some b∨b=bm
structure UG(P:Program)(f:Nat)(sF:bS)(Pre:List D→Prop)(Φ:List D→D):Prop where
 new:ax P f sF (fun ds=>Pre ds∧((Φ ds).ak.getD 0 .top).dT=false) Φ
 nil: ∀ob,sF.ob=some ob→ ∀(w:World) (S:aO) (β:Nat→Nat) (τ:Nat→Value) (vs:List Value) (dd:List D) (oo:List (List D)),C5 w S ob β τ vs dd oo→bV (.bQ sF.params) (dd++oo.flatten)→Pre (dd++oo.flatten)→
  ((Φ (dd++oo.flatten)).ak.getD 0 .top).dT=true→Calls P f vs.toArray w fun e w'=>e= .returned (.pointer none)∧Below w.heap.size w w'
structure IZ(P:Program)(cs:lD)(S0:ew)(Φ:Nat→List D→D)(Pre:Nat→List D→Prop):Prop where
 fr:S0.fr→cs.fr=1
 wz:S0.wz→cs.fr=2
 prog:S0.prog=P
 keys: ∀T kt,lk cs.mp T=some kt→YO P T kt
 eat: ∀k sg,lk cs.et k=some sg→sg.nn=none→ak0 P k sg (Pre k) (Φ k)
 nn: ∀k sg sF t,lk cs.et k=some sg→sg.nn=some (sF,t)→UG P k sF (Pre k) (Φ k)
theorem GY{w w':World}{S S':aO}{t:Ty}{v:Value}{d:D}(hb:t.bare=true)(ht:Has t d)(h:bj w S v d):bj w' S' v d:=by
 cases t<;>simp[Ty.bare]at hb
 ·obtain⟨n,rfl,_⟩:=bF.1 ht;rw[h.bD];exact .int _ _
 ·obtain⟨n,rfl⟩:=bA.1 ht;rw[h.eH];exact .bool _
 ·obtain⟨n,rfl⟩:=kP.1 ht;rw[h.EW];exact .str _
theorem VE(j:Nat):Ca (j+1000)=true:=by unfold Ca;exact decide_eq_true (by omega)
theorem me(res:List (Bool×List aA)):bk (u9 res)=(bk res).map (· +1000):=by
 induction res with
 |nil=>rfl
 |cons c r ih=>
  have h1: ∀l:List aA,(l.map px).filterMap (fun x=>x.2.map (·.1))=(l.filterMap (fun x=>x.2.map (·.1))).map (· +1000):=by
   intro l
   induction l with
   |nil=>rfl
   |cons a l To=>
    obtain⟨t,o⟩:=a
    cases o with
    |none=>simpa [px]using To
    |some y=>simp only[List.map_cons,px,List.filterMap_cons,Option.map_some,To]
  have e1:bk (u9 (c::r))=(c.2.map px).filterMap (fun x=>x.2.map (·.1))++bk (u9 r):=rfl
  have e2:bk (c::r)=c.2.filterMap (fun x=>x.2.map (·.1))++bk r:=rfl
  rw[e1,e2,ih,h1,List.map_append]
theorem DD{w w0:World}{S S':aO}{τ:Nat→Value}{c:aA}{v:Value}{d:D}(hb:c.bare=true)(hS: ∀b o,S b o→b<w0.heap.size)
  (fM: ∀T j,c.2=some (j,T)→ ∀b,(τ j).ownBlock=some b→w0.heap.size≤b) (h:im w 0 S' τ c v d):
  im w 0 S (fun j=>τ (j-1000)) (px c) v d:=by
 obtain⟨t,o⟩:=c
 cases o with
 |none=>
  obtain⟨h1,h2⟩:=h
  exact⟨GY hb h2 h1,h2⟩
 |some y=>
  obtain⟨j,T⟩:=y
  obtain⟨h1,h2⟩:=h
  have fu:t.cells.all Ty.bare=true:=hb
  rw[aV]at fu
  refine⟨by rw[h1];simp,?_⟩
  have e1:(fun j=>τ (j-1000)) (j+1000)=τ j:=by simp
  rw[e1,VE]
  obtain⟨k1,k2,xs,l,hl,bw,hf,hr⟩:=h2
  refine⟨k1,k2,xs,l,hl,bw,?_,?_⟩
  ·intro b tG o
   refine⟨fun hs=> ?_,fun hs=>Bool.noConfusion hs.1⟩
   have h3:=hS b o hs
   have h4:=fM T j rfl b tG
   omega
  ·intro i x k u y h3 h4 h5
   obtain⟨l',ks,_,hx⟩:=aD.1 k1
   rw[hl]at ks
   injection ks with ks
   subst ks
   have hxt:=hx x (aS h3)
   obtain⟨h6,h7⟩:=bp hxt
   have hk:k<t.cells.length:=by rw[←h6];exact(ai.1 h4).1
   have hu:t.cells[k]? =some t.cells[k] :=av hk
   obtain⟨z,hz,YY⟩:=h7 k _ hu
   rw[h4]at hz
   injection hz with hz
   subst hz
   exact GY (fu _ (List.getElem_mem hk)) YY (hr i x k u y h3 h4 h5)
theorem DC{w w0:World}{S S':aO}{τ:Nat→Value}{c:Bool×List aA}{v:Value}{d:D}(hb:(c.2.all aA.bare)=true)(hS: ∀b o,S b o→b<w0.heap.size)
  (fM: ∀x∈c.2,∀T j,x.2=some (j,T)→ ∀b,(τ j).ownBlock=some b→w0.heap.size≤b) (h:ep w 0 S' τ c v d):
  ep w 0 S (fun j=>τ (j-1000)) (c.1,c.2.map px) v d:=by
 rw[aV]at hb
 unfold ep at*
 split
 ·rename_i hc
  rw[if_pos hc]at h
  obtain⟨vs,ds,h1,h2,h3,h4,h5⟩:=h
  refine⟨vs,ds,h1,h2,by simpa using h3,by simpa using h4,fun i x u y hx hu hy=> ?_⟩
  simp only[List.getElem?_map,br]at hx
  obtain⟨x0,fL,rfl⟩:=hx
  exact DD (hb _ (aS fL)) hS (fM x0 (aS fL)) (h5 i x0 u y fL hu hy)
 ·rename_i hc
  rw[if_neg hc]at h
  obtain⟨x,hx,h1⟩:=h
  refine⟨px x,by simp[hx],?_⟩
  have hm:x∈c.2:=by rw[hx];simp
  exact DD (hb x hm) hS (fM x hm) h1
theorem eN.ap4{w:World}{base:Nat}{S:aO}{τ:Nat→Value}{res:List (Bool×List aA)}{v:Value}{d:D}(h:eN w base S τ res v d){j:Nat}(hj:j∈bk res):
  ∃(t:Ty) (T:TypeId) (d':D),tS (Ca j) w base S T t (τ j) d'∧ ∃c∈res,(t,some (j,T))∈c.2:=by
 obtain⟨c,hc,hj⟩:=List.mem_flatMap.1 hj
 obtain⟨⟨t,x⟩,hx,hxj⟩:=List.mem_filterMap.1 hj
 simp only[br]at hxj
 obtain⟨⟨j',T⟩,rfl,rfl⟩:=hxj
 have comp: ∀v d,ep w base S τ c v d→ ∃d',tS (Ca j') w base S T t (τ j') d':=by
  intro v d h
  unfold ep at h
  split at h
  ·obtain⟨vs,ds,_,_,h1,h2,h3⟩:=h
   obtain⟨i,hi⟩:=List.getElem?_of_mem hx
   have eX:i<c.2.length:=(ai.1 hi).1
   exact⟨_,(h3 i _ _ _ hi (av (by omega)) (av (by omega))).2⟩
  ·obtain⟨y,hy,h3⟩:=h
   rw[hy]at hx
   simp only[List.mem_singleton]at hx
   subst hx
   exact⟨_,h3.2⟩
 rcases h with⟨c',xR,h⟩|⟨_,vs,ds,_,_,h1,h2,h3⟩
 ·rw[xR]at hc
  simp only[List.mem_singleton]at hc
  subst hc
  obtain⟨d',h'⟩:=comp _ _ h
  exact⟨t,T,d',h',c,by rw[xR];simp,hx⟩
 ·obtain⟨i,hi⟩:=List.getElem?_of_mem hc
  have eX:i<res.length:=(ai.1 hi).1
  obtain⟨d',h'⟩:=comp _ _ (h3 i _ _ _ hi (av (by omega)) (av (by omega)))
  exact⟨t,T,d',h',c,hc,hx⟩
def nQ(res:List (Bool×List aA))(τ:Nat→Value):Nat→Value:=fun j=>if j∈bk res then τ j else .nilIface
theorem eN.af9{w:World}{base:Nat}{S:aO}{τ:Nat→Value}{res:List (Bool×List aA)}{v:Value}{d:D}(h:eN w base S τ res v d):eN w base S (nQ res τ) res v d:=by
 have comp: ∀c∈res,∀v d,ep w base S τ c v d→ep w base S (nQ res τ) c v d:=by
  intro c hc v d h
  have cell: ∀x∈c.2,∀v d,im w base S τ x v d→im w base S (nQ res τ) x v d:=by
   rintro⟨t,x⟩ hx v d h
   cases x with
   |none=>exact h
   |some y=>
    obtain⟨j,T⟩:=y
    have hj:j∈bk res:=List.mem_flatMap.2 ⟨c,hc,List.mem_filterMap.2 ⟨_,hx,rfl⟩⟩
    have e1:nQ res τ j=τ j:=if_pos hj
    show v=nQ res τ j∧tS (Ca j) w base S T t (nQ res τ j) d
    rw[e1];exact h
  unfold ep at*
  split
  ·rename_i h1
   rw[if_pos h1]at h
   obtain⟨vs,ds,a1,a2,a3,a4,a5⟩:=h
   exact⟨vs,ds,a1,a2,a3,a4,fun i x u y hx hu hy=>cell x (aS hx) u y (a5 i x u y hx hu hy)⟩
  ·rename_i h1
   rw[if_neg h1]at h
   obtain⟨x,hx,h2⟩:=h
   exact⟨x,hx,cell x (by rw[hx];simp) _ _ h2⟩
 rcases h with⟨c,hc,h⟩|⟨h0,vs,ds,a1,a2,a3,a4,a5⟩
 ·exact .inl ⟨c,hc,comp c (by rw[hc];simp) _ _ h⟩
 ·exact .inr ⟨h0,vs,ds,a1,a2,a3,a4,fun i x u y hx hu hy=>comp x (aS hx) u y (a5 i x u y hx hu hy)⟩
theorem Bk{w:World}{S:aO}{X:Nat→Prop}{t:Ty}{v:Value}{d:D}(hb:t.bare=true)(ht:Has t d)(h:bj w S v d):k9 X v:=by
 cases t<;>simp[Ty.bare]at hb
 ·obtain⟨n,rfl,_⟩:=bF.1 ht;rw[h.bD];trivial
 ·obtain⟨n,rfl⟩:=bA.1 ht;rw[h.eH];trivial
 ·obtain⟨n,rfl⟩:=kP.1 ht;rw[h.EW];trivial
theorem nC{w:World}{S:aO}{X:Nat→Prop}{t:Ty}{l:List D}{xs:List Value}(hb:(t.cells.all Ty.bare)=true)(ev:0<t.cells.length)(eI: ∀x∈l,Has t x)(hlen:xs.length=l.length*t.cells.length)
  (hr: ∀(i:Nat) d (j:Nat) v c,l[i]? =some d→d.cells[j]? =some c→xs[i*t.cells.length+j]? =some v→bj w S v c): ∀u∈xs,k9 X u:=by
 intro u hu
 obtain⟨q,hq⟩:=List.getElem?_of_mem hu
 have DO:q<xs.length:=(ai.1 hq).1
 have hi:q/t.cells.length<l.length:=by rw[Nat.div_lt_iff_lt_mul ev,←hlen];exact DO
 have hj:q % t.cells.length<t.cells.length:=Nat.mod_lt _ ev
 have hd:l[q/t.cells.length]? =some (l[q/t.cells.length]'hi):=av hi
 have fV:t.cells[q % t.cells.length]? =some (t.cells[q % t.cells.length]'hj):=av hj
 obtain⟨cc,m8,Ea⟩:=(bp (eI _ (aS hd))).2 _ _ fV
 have Tx:q/t.cells.length*t.cells.length+q % t.cells.length=q:=by rw[Nat.mul_comm];exact Nat.div_add_mod _ _
 exact Bk (aV.1 hb _ (List.getElem_mem hj)) Ea (hr _ _ _ u cc hd m8 (by rw[Tx];exact hq))
theorem Sj{w w0:World}{S0:ew}{S:aO}{T:TypeId}{t:Ty}{v:Value}{d:D}(hb:(t.cells.all Ty.bare)=true)(fM: ∀b,v.ownBlock=some b→gH w0 S0 b)(h:tS false w 0 S T t v d):zm (gH w0 S0) w S v:=by
 intro a n cap hv
 obtain⟨eS,fo,xs,l,rfl,bw,hS,hr⟩:=h
 obtain⟨l',ks,_,eI⟩:=aD.1 eS
 injection ks with ks;subst ks
 rcases bw.2 with⟨hn,_⟩|⟨b,Ec,cur,ng,_⟩
 ·rw[hn];exact .inl rfl
 ·have dw:v.ownBlock=some b:=by rw[ng];rfl
  rw[ng]
  by_cases hl:l.length=0
  ·exact .inl hl
  ·refine .inr ⟨b,0,rfl,fun b'=>b'=b,?_,rfl⟩
   rintro b' rfl
   have ev:0<xs.length:=by rw[bw.1];exact Nat.mul_pos (by omega) fo
   have hcz: ∃cur T,w.heap[b']? =some (.cells cur T (0,0)):=by
    rcases bw.2 with⟨hn,_⟩|⟨b2,arE,arA,Oa,_,BX,_⟩
    ·rw[hn]at dw;cases dw
    ·rw[Oa]at dw
     simp only[Value.ownBlock,Option.some.injEq]at dw
     subst dw
     exact⟨_,_,BX⟩
   refine⟨fM b' dw,⟨0,(hS b' dw 0).2 ⟨rfl,ev⟩⟩,hcz,fun o u hs hu=> ?_⟩
   have ho:=((hS b' dw o).1 hs).2
   have h3:=bw.cells (g:=b') dw o xs[o] (av ho)
   rw[dD,Nat.zero_add,hu]at h3
   injection h3 with h3
   subst h3
   exact nC hb fo eI bw.1 hr _ (List.getElem_mem ho)
theorem eN.fresh{w w0:World}{S0:ew}{S:aO}{τ:Nat→Value}{res:List (Bool×List aA)}{v:Value}{d:D}(h:eN w 0 S τ res v d)(hb:XJ res=true)(hx:IF res=true)
  (fM: ∀j b,j∈bk res→(τ j).ownBlock=some b→gH w0 S0 b) (aaW: ∀j,j∈bk res→Wp j=true→zm (gH w0 S0) w S (τ j)): ∀j,zm (gH w0 S0) w S (nQ res τ j):=by
 intro j
 unfold nQ
 split
 ·rename_i hj
  obtain⟨t,T,d',h1,c,hc,hm⟩:=h.ap4 hj
  have yN:=aV.1 (aV.1 hb c hc) _ hm
  have hxt:=aV.1 (aV.1 hx c hc) _ hm
  have hex:Ca j=false:=by simpa using hxt
  rw[hex]at h1
  have Pp:(t.cells.all Ty.bare||Wp j)=true:=yN
  rcases (Bool.or_eq_true _ _).mp Pp with Pp|Pp
  ·exact Sj Pp (fun b fu=>fM j b hj fu) h1
  ·exact aaW j hj Pp
 ·exact zm.nilIface
theorem ru{C:Cx}{w:World}{G:Gh}{N:Nat→Prop}{c:SC}{v:Value}(hf:EY c=true)(j6: ∀g,zm N w G.S (G.τ g))(hr:pX C w G c v):k9 (zn N w G.S) v:=by
 cases c with
 |eV e t=>exact Bk hf hr.2.2 hr.2.1
 |lU t=>simp only[pX]at hr;subst hr;exact .inl rfl
 |own g e t=>
  obtain⟨_,_,h3,h4,h5⟩:=hr
  obtain⟨l,hl,_⟩:=aD.1 h4
  rw[hl]at h3
  obtain⟨a,cap,hv⟩:=h3.oV
  exact h5▸j6 g a _ cap (by rw[←h5];exact hv)
 |_=>cases hf
theorem JL{w:World}{S:aO}{N:Nat→Prop}{v:Value}{l:List D}{A:Option Addr}{k c:Nat}{news:List Value}(hv:k9 (zn N w S) v)(h:bj w S v (.list l))(hk: ∀d∈l,d.cells.length=k)(DN:v= .slice A l.length c)
  (yK:news.length=l.length*k) (yL: ∀ad,A=some ad→ ∀(j:Nat) u,news[j]? =some u→w.cell? (ad.add j)=some u): ∀u∈news,k9 (zn N w S) u:=by
 intro u hu
 obtain⟨q,hq⟩:=List.getElem?_of_mem hu
 have DO:q<news.length:=(ai.1 hq).1
 cases h with
 |nil ad cap=>rw[yK]at DO;simp at DO
 |list b off cap sz xs _ fo dH gN hl hS hc hw hr=>
  have aax:sz=k:=by
   cases oa:l with
   |nil=>exact absurd oa dH
   |cons d r=>rw[←hw 0 d (by rw[oa];rfl)];exact hk d (by rw[oa];simp)
  subst aax
  injection DN with h1 h2 h3
  rcases hv with hv|⟨b',o',h5,h6⟩
  ·exact absurd (List.eq_nil_of_length_eq_zero hv) dH
  ·simp only[Option.some.injEq,Addr.mk.injEq]at h5
   obtain⟨rfl,rfl,_⟩:=h5
   have h7:=yL _ h1.symm q u hq
   rw[dD]at h7
   exact(zn.set N w S b h6).2.2.2 _ u (hS q (by omega)) h7
theorem Kh{res:List (Bool×List aA)}{c:Bool×List aA}{x:aA}{j:Nat}{T:TypeId}(hc:c∈res)(hx:x∈c.2)(h:x.2=some (j,T)):j∈bk res:=
 List.mem_flatMap.2 ⟨c,hc,List.mem_filterMap.2 ⟨x,hx,by rw[h];rfl⟩⟩
theorem ax.apD{P:Program}{f:Nat}{sig:bS}{Pre:List D→Prop}{Φ:List D→D}(h:ax P f sig Pre Φ)(dw:sig.ob=none)(hb:zC sig.res=true):ax P f (Ag sig) Pre Φ:=by
 refine⟨h.enter,fun _ w S vs ds hS hlen fa fV gE=> ?_,fun ob h1=> ?_,fun ob h1=> ?_⟩
 ·refine(h.calls dw w S vs ds hS hlen fa fV gE).mono ?_
  rintro e w' ⟨v,S',τ,rfl,iM,h1,h2,h3,h4,h5,h6,_⟩
  unfold zC at hb
  rw[aV]at hb
  refine⟨v,S,fun j=>τ (j-1000),rfl,iM,fun _ _ h=>h,fun b o hs=>Nat.lt_of_lt_of_le (hS b o hs) iM.size,fun _ _ h=> .inl h,?_,?_,?_,?_⟩
  ·have fM: ∀c∈sig.res,∀x∈c.2,∀T j,x.2=some (j,T)→ ∀b,(τ j).ownBlock=some b→w.heap.size≤b:=
    fun c hc x hx T j hj b tG=>h5 j b (Kh hc hx hj) tG
   rcases h4 with⟨c,hc,h4⟩|⟨dH,DH,ds',h7,h8,h9,Om,TN⟩
   ·refine .inl ⟨(c.1,c.2.map px),by simp[Ag,u9,hc],?_⟩
    have hm:c∈sig.res:=by rw[hc];simp
    exact DC (hb c hm) hS (fM c hm) h4
   ·refine .inr ⟨by simpa [Ag,u9]using dH,DH,ds',h7,h8,by simpa [Ag,u9]using h9,by simpa [Ag,u9]using Om,fun i x u y hx hu hy=> ?_⟩
    simp only[Ag,u9,List.getElem?_map,br]at hx
    obtain⟨c,hc,rfl⟩:=hx
    have hm:=aS hc
    exact DC (hb c hm) hS (fM c hm) (TN i c u y hc hu hy)
  ·intro j b hj hjb
   have yM:j∈(bk sig.res).map (· +1000):=by rw[←me];exact hj
   obtain⟨k,hk,rfl⟩:=List.mem_map.1 yM
   exact h5 k b hk (by simpa using hjb)
  ·intro j k b hj hk hjb hkb
   have yM:j∈(bk sig.res).map (· +1000):=by rw[←me];exact hj
   have KG:k∈(bk sig.res).map (· +1000):=by rw[←me];exact hk
   obtain⟨j0,hj0,rfl⟩:=List.mem_map.1 yM
   obtain⟨k0,Of,rfl⟩:=List.mem_map.1 KG
   rw[h6 j0 k0 b hj0 Of (by simpa using hjb) (by simpa using hkb)]
  ·intro j hj Wk
   have yM:j∈(bk sig.res).map (· +1000):=by rw[←me];exact hj
   obtain⟨k,_,rfl⟩:=List.mem_map.1 yM
   exfalso
   unfold Wp at Wk
   simp only[aw,aN]at Wk
   omega
 ·exact absurd h1 (by show sig.ob≠some ob;rw[dw];simp)
 ·exact absurd h1 (by show sig.ob≠some ob;rw[dw];simp)
theorem RF{P:Program}{cs:lD}{Φ:Nat→List D→D}{Pre:Nat→List D→Prop}{dst:Option Nat}{k:Nat}{sig:bS}(h:CR cs dst k=some sig)(fb: ∀k sig,lk cs.l k=some sig→ax P k sig (Pre k) (Φ k)):ax P k sig (Pre k) (Φ k):=by
 unfold CR at h
 split at h
 ·rename_i s hs
  split at h
  ·rename_i hc
   injection h with h;subst h
   exact(fb k s hs).apD hc.2.1 hc.2.2
  ·injection h with h;subst h;exact fb k _ hs
 ·cases h
section
variable{P:Program}{C:Cx}{w w0:World}{S0:ew}{G:Gh}{σ:St}{a:Act}{o:Oper}{pc:bI}{s:SV}{is:List Item}{Φ:Nat→List D→D}{Pre:Nat→List D→Prop}{n p:Nat}
theorem Np{rd:List Nat}(hm:cJ w0 S0 C G σ w)(ht:fI C w G σ.tm a)(bY:aq C.ρ pc=true)(hP:S0.prog=P)(h:Ej P σ pc o=some ((s,is),rd)):ig P C w G a o s:=by
 unfold Ej at h
 split at h
 ·rename_i T m x ho
  split at h
  ·rename_i id ek kt hgm hgx
   split at h
   ·rename_i ro cs cU
    split at h
    ·rename_i e kt' T' yU
     split at h
     ·rename_i hc
      obtain⟨rfl,rfl⟩:=hc
      injection h with h;simp only[Prod.mk.injEq]at h;obtain⟨⟨rfl,rfl⟩,rfl⟩:=h
      obtain⟨_,_,dq,_⟩:=hm.box _ _ _ cU
      unfold ij at dq
      rw[yU]at dq
      obtain⟨k1,k2,k3⟩:=dq
      obtain⟨q1,q2,q3⟩:=bT ht bY hgx
      have hv:=(bg ht bY hgm).2
      rw[hP]at k3
      have cM:=k3.lookup q2 q3
      refine⟨.bool ((den C.ρ e).ak.any fun z=>z.keq (den C.ρ ek)),?_,?_⟩
      ·unfold execOp;simp only[ho,hv]
       rw[Sem.run_bind,cM];rfl
      ·exact⟨by simp[E.lt,k1,q1], .bool _,bA.2 ⟨_,rfl⟩⟩
     ·cases h
    ·cases h
   ·cases h
  ·cases h
 ·cases h
end
section
variable{α β:Type}[DecidableEq α]
theorem bK(h:α→β):cG h [] =h:=by funext x;rfl
theorem rT(h:α→β)(k:α)(v:β)(l:List (α×β)):cG h ((k,v)::l)=fun x=>if x=k then v else cG h l x:=by
 funext x
 simp only[cG,lk]
 split<;>rename_i h1
 ·by_cases hx:x=k
  ·rw[if_pos hx]at h1;injection h1 with h1;rw[if_pos hx,h1]
  ·rw[if_neg hx]at h1;rw[if_neg hx,h1]
 ·by_cases hx:x=k
  ·rw[if_pos hx]at h1;cases h1
  ·rw[if_neg hx]at h1;rw[if_neg hx,h1]
theorem GP(h:Nat→β)(k:Nat)(v:β):cG h [(k,v)] =dp h k v:=by
 rw[rT];funext x;simp only[bK,dp]
theorem fF: ∀{l:List (α×β)} {x:α} {v:β},lk l x=some v→(x,v)∈l
 | [],_,_,h=>by cases h
 |(k,u)::r,x,v,h=>by
  simp only[lk]at h
  split at h
  ·rename_i hx;injection h with h;subst h;subst hx;simp
  ·exact List.mem_cons_of_mem _ (fF h)
end
section
variable{P:Program}{C:Cx}{w w0:World}{S0:ew}{G:Gh}{σ:St}{a:Act}{o:Oper}{pc:bI}{s:SV}{is:List Item}{Φ:Nat→List D→D}{Pre:Nat→List D→Prop}{n p:Nat}
theorem cJ.congr{σ':St}(h:cJ w0 S0 C G σ w)(h1:σ'.hp=σ.hp)(h2:σ'.live=σ.live):cJ w0 S0 C G σ' w:=by
 obtain⟨tm,hp,live⟩:=σ
 obtain⟨tm',Tz,live'⟩:=σ'
 simp only at h1 h2
 subst h1;subst h2
 exact⟨h.below,h.ic,h.keep,h.pd,h.jK,h.bL,h.eP,h.lG,h.box,h.inj,h.own,h.dM,h.gP,h.cz,h.fresh,h.wz⟩
theorem J8{rd:List Nat}(hm:cJ w0 S0 C G σ w)(ht:fI C w G σ.tm a)(bY:aq C.ρ pc=true)(hP:S0.prog=P)(h:pC P σ pc o=some ((s,is),rd))(eC: ∀it∈is,ct C Φ Pre it):ig P C w G a o s:=by
 unfold pC at h
 have strip: ∀{x:Option Pl},x.map (·,([] :List Nat))=some ((s,is),rd)→x=some (s,is):=by
  intro x hx
  simp only[br,Prod.mk.injEq]at hx
  obtain⟨y,h1,h2,_⟩:=hx
  rw[h1,h2]
 split at h
 ·exact Nq hm ht bY h
 ·exact Dg ht bY (strip h)
 ·exact Dg ht bY (strip h)
 ·exact No ht bY (strip h)
 ·exact Nr ht bY (strip h) eC
 ·exact Ly ht bY (strip h)
 ·exact Ly ht bY (strip h)
 ·exact Fl ht bY (strip h)
 ·exact BN ht bY (strip h)
 ·exact J9 ht bY (strip h)
 ·exact BM ht bY (strip h) eC
 ·exact RU ht bY (strip h) eC
 ·exact J7 ht bY (strip h) eC
 ·exact HD ht bY (strip h) eC
 ·exact Ka ht bY (strip h)
 ·exact Np hm ht bY hP h
 ·exact AT ht bY (strip h)
 ·exact AT ht bY (strip h)
 ·exact AT ht bY (strip h)
 ·cases h
def acY:Value→Option Bool
 | .bool b=>some b
 |_=>none
theorem dr{ops:Array Oper}(ht:fI C w G σ.tm a)(h:guardOf ops σ o=some pc):Region.wanted o (yielded ops a.tmps)=aq C.ρ pc∧ ∀x∈pc,x.1.lt C.N=true:=by
 unfold guardOf at h
 unfold Region.wanted
 split at h
 ·rename_i hg
  injection h with h;subst h
  rw[hg];exact⟨rfl,by simp⟩
 ·rename_i j want hg
  rw[hg]
  split at h
  ·rename_i t hj
   split at h
   ·rename_i c e uE
    injection h with h;subst h
    obtain⟨v,h1,h2,h0,h3⟩:=ht t c _ uE
    have hy:yielded ops a.tmps j=acY v:=by
     unfold yielded;rw[hj];simp only[Option.bind_some,h1]
     cases v<;>rfl
    refine⟨?_,fun x hx=> ?_⟩
    ·show(yielded ops a.tmps j==some want)=aq C.ρ ((e,want)::c)
     rw[hy]
     have akA:aq C.ρ ((e,want)::c)=(((den C.ρ e).eh==want)&&aq C.ρ c):=rfl
     rw[akA]
     by_cases hc:aq C.ρ c=true
     ·rw[if_pos hc]at h3
      obtain⟨_,k2,k3⟩:=h3
      obtain⟨b,hb⟩:=bA.1 k3
      have hv:=(hb▸k2).eH
      rw[hv,hb,hc,Bool.and_true]
      show(some b==some want)=(b==want)
      cases b<;>cases want<;>rfl
     ·rw[if_neg hc]at h3
      have:aq C.ρ c=false:=by simpa using hc
      rw[this,Bool.and_false,h3];rfl
    ·rcases List.mem_cons.1 hx with rfl|hx
     ·exact h0
     ·exact h2 x hx
   ·cases h
  ·cases h
def c9(P:Program)(n:Nat)(w0:World)(S0:ew)(C:Cx)(σ':St)(p:Nat)(ops:Array Oper)(a:Act)(w:World)(o:Oper):Prop:=
 ∀(K:Act→World→Prop) (Q:Exit→Act→World→Prop),(∀a' w' G',er n w0 S0 (C.add p) G' σ' a' w'→K a' w')→
  if Region.wanted o (yielded ops a.tmps) then o.wp P a w K Q else K (a.put o.dst undef) w
theorem Act.AS(a:Act)(d:Option Nat)(v:Value):(a.put d v).tmps.size=a.tmps.size:=by
 cases d<;>simp[Act.put]
theorem Act.Lw(a:Act)(d:Option Nat)(v:Value):(a.put d v).defers=a.defers:=by
 cases d<;>rfl
theorem er.step{e:fD}{w':World}{G':Gh}{v:Value}(hs:er n w0 S0 C G σ a w)(aU:bO C w G (C.add p) w' G')(hm:cJ w0 S0 (C.add p) G' (e.app σ) w')
  (hd:e.dst=o.dst) (aL:e.uz.2.lt C.N=true) (hc: ∀x∈e.uz.1,x.1.lt C.N=true) (hv:(∃d,o.dst=some d)→if aq C.ρ e.uz.1 then wQ (C.add p) w' G' e.uz.2 v else v=undef)
  (cp: ∀d,o.dst=some d→d<n):er n w0 S0 (C.add p) G' (e.app σ) (a.put o.dst v) w':=by
 refine⟨hm,?_,by rw[Act.AS];exact hs.sz,by rw[Act.Lw];exact hs.defers⟩
 cases wP:o.dst with
 |none=>
  have uE:(e.app σ).tm=σ.tm:=by unfold fD.app;rw[hd,wP]
  rw[uE];exact hs.t.later aU
 |some d=>
  have uE:(e.app σ).tm=dp σ.tm d (some (e.uz.1,e.uz.2)):=by unfold fD.app;rw[hd,wP]
  rw[uE]
  exact(hs.t.later aU).put (some d) v e.uz.1 e.uz.2 hc aL (hv ⟨d,wP⟩) (fun i hi=>by rw[hs.sz];exact cp i (by rw[wP];exact hi))
theorem CA{ops:Array Oper}{rd:List Nat}(hs:er n w0 S0 C G σ a w)(hg:guardOf ops σ o=some pc)(h:pC P σ pc o=some ((s,is),rd))(aL:s.lt C.N=true)
  (eC: ∀it∈is,ct C Φ Pre it) (cp: ∀d,o.dst=some d→d<n) (hP:S0.prog=P):
  c9 P n w0 S0 C ((⟨o.dst,(pc,s),[],[],rd,is⟩:fD).app σ) p ops a w o:=by
 intro K Q hK
 obtain⟨hw,hc⟩:=dr hs.t hg
 have hm:cJ w0 S0 (C.add p) G ((⟨o.dst,(pc,s),[],[],rd,is⟩:fD).app σ) w:=(hs.m.mF p).congr (bK _) (bK _)
 have aU:=bO.mF C w G p
 rw[hw]
 cases bY:aq C.ρ pc with
 |true=>
  obtain⟨v,h1,h2⟩:=J8 hs.m hs.t bY hP h eC
  simp only[if_true]
  unfold Oper.wp
  rw[h1]
  exact hK _ _ _ (hs.step (o:=o) (e:=⟨o.dst,(pc,s),[],[],rd,is⟩) aU hm rfl aL hc (by intro _;simp only[bY,if_true];exact h2.later aU) cp)
 |false=>
  simp only[Bool.false_eq_true,if_false]
  exact hK _ _ _ (hs.step (o:=o) (e:=⟨o.dst,(pc,s),[],[],rd,is⟩) aU hm rfl aL hc (by intro _;simp only[bY,Bool.false_eq_true,if_false]) cp)
theorem Nf{l:List SC}(ht:fI C w G σ.tm a)(bY:aq C.ρ pc=true)(h:z8 P σ pc o=some l)(jC:l.all SC.scalar=true):
  ∃(vs:List Value) (T:TypeId),(execOp a.eval o).run P w= .ok (.value (.pointer (some ⟨w.heap.size,0,none⟩))) (w.alloc (.cells vs.toArray T))∧iD C w G l vs:=by
 unfold z8 at h
 split at h
 ·rename_i t ho
  split at h
  ·rename_i ts z nh hz
   refine⟨z.cells.toList,t,?_,pD h⟩
   cases hi:P.info? t with
   |none=>simp[hi]at hz
   |some it=>
    simp[hi]at hz
    unfold execOp;simp only[ho,Instr.alloc]
    simp[zeroValue,typeInfo,hi,hz,newVar,newRow]
  ·rename_i z nh hz
   split at h
   ·rename_i hzc
    injection h with h;subst h
    refine⟨z.cells.toList,t,?_,by rw[hzc];rfl,?_⟩
    ·cases hi:P.info? t with
     |none=>simp[hi]at hz
     |some it=>
      simp[hi]at hz
      unfold execOp;simp only[ho,Instr.alloc]
      simp[zeroValue,typeInfo,hi,hz,newVar,newRow]
    ·rw[hzc]
     intro i c v hc hv
     match i,hc,hv with
     |0,hc,hv=>
      simp at hc hv
      subst hc hv
      exact .inl rfl
     |k+1,hc,hv=>simp at hc
   ·cases h
  ·cases h
 ·rename_i t x ho
  cases hg:dz P σ pc x t with
  |none=>simp[hg]at h
  |some sv=>
   simp only[hg,Option.bind_some]at h
   obtain⟨vs,hv,hr⟩:=pK h (bg ht bY hg) jC
   refine⟨vs,t,?_,hr⟩
   unfold execOp;simp only[ho,Instr.box]
   simp[newVar,newRow,hv]
 ·cases h
theorem Hw{ops:Array Oper}{l:List SC}(hs:er n w0 S0 C G σ a w)(hp: ¬C.M p)(hg:guardOf ops σ o=some [])(h:z8 P σ [] o=some l)(jC:l.all SC.scalar=true)
  (cp: ∀d,o.dst=some d→d<n):
  c9 P n w0 S0 C ((⟨o.dst,([], .one (.pa p 0)),[(p,some (false,l))],[],[],[]⟩:fD).app σ) p ops a w o:=by
 intro K Q hK
 obtain⟨hw,_⟩:=dr hs.t hg
 rw[hw]
 simp only[aq,List.all_nil,if_true]
 obtain⟨vs,T,h1,h2⟩:=Nf hs.t (pc:=[]) rfl h jC
 unfold Oper.wp
 rw[h1]
 obtain⟨aU,hm⟩:=hs.m.alloc hp h2 jC T
 exact hK _ _ _ (hs.step (o:=o) (e:=⟨o.dst,([], .one (.pa p 0)),[(p,some (false,l))],[],[],[]⟩) aU (hm.congr (GP _ _ _) (bK _)) rfl rfl (by simp)
  (by intro _;simp only[aq,List.all_nil,if_true];exact⟨.inr rfl,by simp[dp]⟩) cp)
theorem Cz{ops:Array Oper}{id:Nat}{l:List SC}(hs:er n w0 S0 C G σ a w)(hg:guardOf ops σ o=some [])(h:vm P σ [] o=some (id,l))(jC:l.all SC.scalar=true)(hd:o.dst=none):
  c9 P n w0 S0 C ((⟨none,([], .agg []),[(id,some (false,l))],[],[id],[]⟩:fD).app σ) p ops a w o:=by
 intro K Q hK
 obtain⟨hw,_⟩:=dr hs.t hg
 rw[hw]
 simp only[aq,List.all_nil,if_true]
 unfold vm at h
 split at h
 ·rename_i t x y ho
  split at h
  ·rename_i Tp off cs sz hx hy fo
   split at h
   ·rename_i zg cU
    split at h
    ·rename_i iT
     obtain⟨BW,hl,hle⟩:=iT
     injection h with h;simp only[Prod.mk.injEq]at h;obtain⟨rfl,rfl⟩:=h
     obtain⟨_,awj,dq,_⟩:=hs.m.box _ _ _ cU
     obtain⟨vs,T,wO,hr⟩:=dq.cells BW
     have DN:=(bg hs.t (pc:=[]) rfl hx).2
     cases Zg:dz P σ [] y t with
     |none=>simp[Zg]at hy
     |some sv=>
      simp only[Zg,Option.bind_some]at hy
      have Mw:cs.all SC.scalar=true:=by
       rw[List.all_append,List.all_append]at jC
       simp only[aw]at jC;exact jC.1.2
      obtain⟨us,hv,Tu⟩:=pK hy (bg hs.t (pc:=[]) rfl Zg) Mw
      have fM:=hr.QW Tu hle
      have fX: ∀u∈us,u.oneCell'=true:=by
       intro u hu
       obtain⟨i,hi⟩:=List.getElem?_of_mem hu
       have eX:i<us.length:=(ai.1 hi).1
       have KM:cs[i]? =some (cs[i]'(by rw[←Tu.1];exact eX)):=av _
       exact(Tu.2 i _ u KM hi).gq (aV.1 Mw _ (aS KM))
      have mj:=run_storeCells_at P (G.β Tp) off T us 0 vs.toArray w wO (by simp[Tu.1,hr.1];exact hle) fX
      simp only[Nat.add_zero]at mj
      have cM:(execOp a.eval o).run P w= .ok .skip (w.setRow (G.β Tp) (vs.take off++us++vs.drop (off+us.length)).toArray):=by
       have h1:=fc (P:=P) (w:=w) fo
       unfold execOp;simp only[ho,DN,Instr.storeAt,Instr.sureAddr]
       simp[storeVar,h1,hv,Tu.1,hl,mj]
      unfold Oper.wp
      rw[cM]
      obtain⟨aU,hm⟩:=hs.m.abi cU BW fM jC
      have Gx:=aU.trans (bO.mF C _ G p)
      exact hK _ _ _ (hs.step (o:=o) (e:=⟨none,([], .agg []),[(Tp,some (false,zg.take off++cs++zg.drop (off+cs.length)))],[],[Tp],[]⟩) Gx ((hm.mF p).congr (GP _ _ _) (bK _)) hd.symm rfl (by simp)
       (v:=undef) (by rintro⟨d,gZ⟩;rw[hd]at gZ;cases gZ) (by intro d gZ;rw[hd]at gZ;cases gZ))
    ·cases h
   ·cases h
  ·cases h
 ·cases h
end
section
variable{P:Program}{C:Cx}{w w0:World}{S0:ew}{G:Gh}{σ:St}{a:Act}{o:Oper}{pc:bI}{s:SV}{is:List Item}{Φ:Nat→List D→D}{Pre:Nat→List D→Prop}{n p:Nat}
theorem cJ.LI(hm:cJ w0 S0 C G σ w): ∀(fz:List (Nat×List SC)),(∀x∈fz,∃ro,σ.hp x.1=some (ro,x.2)∧mapOf x.2=none)→
  ∃G',bO C w G C w G'∧cJ w0 S0 C G' {σ with hp:=cG σ.hp (fz.map fun x=>(x.1,some (true,x.2)))} w∧(∀x∈fz,∀o,o<x.2.length→G'.S (G.β x.1) o)∧G'.β=G.β
 | [],_=>⟨G,bO.refl C w G,hm.congr (bK _) rfl,by simp,rfl⟩
 |(id,cs)::fz,h=>by
  obtain⟨G1,l1,m1,c1,b1⟩:=cJ.LI hm fz (fun x hx=>h x (List.mem_cons_of_mem _ hx))
  obtain⟨ro,cU,BW⟩:=h (id,cs) (by simp)
  simp only at cU BW
  have aaR: ∃FR,cG σ.hp (fz.map fun x=>(x.1,some (true,x.2))) id=some (FR,cs):=by
   unfold cG
   cases hl:lk (fz.map fun x=>(x.1,some (true,x.2))) id with
   |none=>exact⟨ro,cU⟩
   |some v=>
    have:=fF hl
    simp only[List.mem_map,Prod.mk.injEq]at this
    obtain⟨x,hx,rfl,rfl⟩:=this
    obtain⟨ro2,h2,_⟩:=h x (List.mem_cons_of_mem _ hx)
    rw[cU]at h2
    injection h2 with h2;simp only[Prod.mk.injEq]at h2
    exact⟨true,by rw[h2.2]⟩
  obtain⟨FR,aaR⟩:=aaR
  obtain⟨G2,l2,m2,c2,b2,_⟩:=m1.freeze (id:=id) (ro:=FR) (cs:=cs) aaR BW
  refine⟨G2,l1.trans l2,?_,?_,by rw[b2,b1]⟩
  ·refine m2.congr ?_ rfl
   show cG σ.hp ((id,some (true,cs))::fz.map fun x=>(x.1,some (true,x.2)))=dp (cG σ.hp (fz.map fun x=>(x.1,some (true,x.2)))) id (some (true,cs))
   rw[rT];rfl
  ·intro x hx o ho
   rcases List.mem_cons.1 hx with rfl|hx
   ·rw[←b1];exact c2 o ho
   ·exact l2.S _ _ (c1 x hx o ho)
theorem Bf: ∀{l:List Operand} {es:List (E×Ty)} {fz:List (Nat×List SC)},qP P σ pc l=some (es,fz)→ ∀x∈fz,∃ro,σ.hp x.1=some (ro,x.2)∧mapOf x.2=none
 | [],es,fz,h=>by simp only[qP,Option.some.injEq,Prod.mk.injEq]at h;obtain⟨rfl,rfl⟩:=h;simp
 |y::l,es,fz,h=>by
  simp only[qP]at h
  split at h
  ·rename_i id tg Th hg hr
   split at h
   ·rename_i ro cs cU
    split at h
    ·rename_i oa
     injection h with h;simp only[Prod.mk.injEq]at h;obtain⟨rfl,rfl⟩:=h
     intro x hx
     rcases List.mem_cons.1 hx with rfl|hx
     ·exact⟨ro,cU,fS oa⟩
     ·exact Bf hr x hx
    ·cases h
   ·cases h
  ·rename_i e fs tg Th hg hr
   injection h with h;simp only[Prod.mk.injEq]at h;obtain⟨rfl,rfl⟩:=h
   exact Bf hr
  ·cases h
theorem Be(hm:cJ w0 S0 C G σ w)(ht:fI C w G σ.tm a)(bY:aq C.ρ pc=true){G':Gh}(aU:bO C w G C w G'): ∀{l:List Operand} {es:List (E×Ty)} {fz:List (Nat×List SC)},qP P σ pc l=some (es,fz)→
  (∀x∈fz,∀o,o<x.2.length→G'.S (G.β x.1) o)→es.length=l.length∧ ∀(i:Nat) x e,l[i]? =some x→es[i]? =some e→e.1.lt C.N=true∧bj w G'.S (a.eval x) (den C.ρ e.1)∧Has e.2 (den C.ρ e.1)
 | [],es,fz,h,_=>by simp only[qP,Option.some.injEq,Prod.mk.injEq]at h;obtain⟨rfl,rfl⟩:=h;exact⟨rfl,by intro i x e hi;simp at hi⟩
 |y::l,es,fz,h,hS=>by
  simp only[qP]at h
  split at h
  ·rename_i id tg Th hg hr
   split at h
   ·rename_i ro cs cU
    split at h
    ·rename_i ds ts oa
     injection h with h;simp only[Prod.mk.injEq]at h;obtain⟨rfl,rfl⟩:=h
     obtain⟨k1,k2⟩:=Be hm ht bY aU hr (fun x hx=>hS x (List.mem_cons_of_mem _ hx))
     refine⟨by simp[k1],fun i x e hi he=> ?_⟩
     cases i with
     |succ i=>exact k2 i x e (by simpa using hi) (by simpa using he)
     |zero=>
      simp at hi he;subst hi;subst he
      have hv:=(bg ht bY hg).2
      obtain⟨_,_,dq,_⟩:=hm.box _ _ _ cU
      obtain⟨vs,T,fq,mB⟩:=dq.cells (fS oa)
      obtain⟨m1,m2,m3,m4,m5⟩:=kJ oa mB
      have hd:den C.ρ (.un .pj (.bQ ds))= .ptr (ds.map (den C.ρ)):=by simp only[den,dG,U.den,D.ak]
      refine⟨by simpa [E.lt]using m1,?_,?_⟩
      ·rw[hd,hv]
       refine .ptr _ vs _ (by simp[m2]) (fun i hi=>hS (id,cs) (by simp) i (by simp[m2,mB.1]at hi;exact hi)) (fun i v hi=> ?_) (fun i v d hi wP=> ?_)
       ·rw[cell_of_row w _ i _ T _ fq];simpa using hi
       ·simp only[List.getElem?_map,br]at wP
        obtain⟨e,he,rfl⟩:=wP
        exact(m4 i v e hi he).keep aU.S aU.cell
      ·rw[hd];exact fA.2 ⟨_,rfl,m5⟩
    ·cases h
   ·cases h
  ·rename_i e fs tg Th hg hr
   injection h with h;simp only[Prod.mk.injEq]at h;obtain⟨rfl,rfl⟩:=h
   obtain⟨k1,k2⟩:=Be hm ht bY aU hr hS
   refine⟨by simp[k1],fun i x e' hi he=> ?_⟩
   cases i with
   |succ i=>exact k2 i x e' (by simpa using hi) (by simpa using he)
   |zero=>
    simp at hi he;subst hi;subst he
    obtain⟨q1,q2,q3⟩:=bg ht bY hg
    exact⟨q1,q2.keep aU.S aU.cell,q3⟩
  ·cases h
theorem JP{ops:Array Oper}{e:E}{t:Ty}{fz:List (Nat×List SC)}(hs:er n w0 S0 C G σ a w)(hg:guardOf ops σ o=some pc)(h:O3 P σ pc o=some (e,t,fz))(aL:e.lt C.N=true)
  (cp: ∀d,o.dst=some d→d<n):
  c9 P n w0 S0 C ((⟨o.dst,(pc, .one (.eV e t)),fz.map fun x=>(x.1,some (true,x.2)),[],fz.map (·.1),[]⟩:fD).app σ) p ops a w o:=by
 intro K Q hK
 obtain⟨hw,hc⟩:=dr hs.t hg
 rw[hw]
 unfold O3 at h
 split at h
 ·rename_i f first captured ho
  split at h
  ·rename_i acP
   split at h
   ·rename_i es Th Ld
    injection h with h;simp only[Prod.mk.injEq]at h;obtain⟨hE,hT,hF⟩:=h
    subst hF
    obtain⟨G',aU,hm,MG,H2⟩:=hs.m.LI Th (Bf Ld)
    have Gx:=aU.trans (bO.mF C w G' p)
    have OG:=(hm.mF p)
    have fin:=fun(v:Value) hv=>hs.step (o:=o) (v:=v) (e:=(⟨o.dst,(pc, .one (.eV e t)),Th.map fun x=>(x.1,some (true,x.2)),[],Th.map (·.1),[]⟩:fD)) Gx (OG.congr rfl (bK _)) rfl aL hc hv cp
    cases bY:aq C.ρ pc with
    |false=>
     simp only[Bool.false_eq_true,if_false]
     exact hK _ _ _ (fin _ (by intro _;simp only[bY,Bool.false_eq_true,if_false]))
    |true=>
     simp only[if_true]
     obtain⟨k1,k2⟩:=Be hs.m hs.t bY aU Ld MG
     have hf0:first= #[] :=by apply Array.ext';simpa using acP
     have cM:(execOp a.eval o).run P w= .ok (.value (.func (.func f) #[] (captured.toList.map a.eval).toArray)) w:=by
      have Oe:(captured.toList.map a.eval).toArray=captured.map a.eval:=by apply Array.ext';simp
      unfold execOp;simp only[ho,Instr.makeFunc,hf0,Oe]
      simp
     unfold Oper.wp
     rw[cM]
     refine hK _ _ _ (fin _ ?_)
     intro _;simp only[bY,if_true]
     have hd:den C.ρ e= .fn f ((es.map (·.1)).map (den C.ρ)):=by rw[←hE];simp only[den,dG,U.den,D.ak]
     refine⟨aL,?_,?_⟩
     ·show bj w G'.S _ (den C.ρ _)
      rw[hd]
      refine .fn f _ _ (by simp[k1]) fun i v d hi wP=> ?_
      simp only[List.getElem?_map,br]at hi wP
      obtain⟨x,hx,rfl⟩:=hi
      obtain⟨e1,⟨e2,Wl,rfl⟩,rfl⟩:=wP
      exact(k2 i x e2 hx Wl).2.1
     ·show Has _ (den C.ρ _)
      rw[hd,←hT]
      refine jl.2 ⟨_,rfl,fK (by simp) fun j u x hj hx=> ?_⟩
      simp only[List.getElem?_map,br]at hj hx
      obtain⟨e1,B9,rfl⟩:=hj
      obtain⟨_,⟨e2,Wl,rfl⟩,rfl⟩:=hx
      rw[B9]at Wl;injection Wl with Wl;subst Wl
      have hlen:j<captured.toList.length:=by rw[←k1];exact(ai.1 B9).1
      exact(k2 j _ e1 (av hlen) B9).2.2
   ·cases h
  ·cases h
 ·cases h
theorem Hr(ht:fI C w G σ.tm a)(bY:aq C.ρ pc=true): ∀{l:List Operand} {ts:List TypeId} {es:List (E×Ty)},yc P σ pc l ts=some es→
  es.length=l.length∧ ∀(i:Nat) x e,l[i]? =some x→es[i]? =some e→bj w G.S (a.eval x) (den C.ρ e.1)∧Has e.2 (den C.ρ e.1)
 | [],[],es,h=>by simp only[yc,Option.some.injEq]at h;subst h;exact⟨rfl,by intro i x e hi;simp at hi⟩
 |y::l,t::ts,es,h=>by
  simp only[yc]at h
  split at h
  ·rename_i e tg h1 h2
   injection h with h;subst h
   obtain⟨k1,k2⟩:=Hr ht bY h2
   refine⟨by simp[k1],fun i x e' hi he=> ?_⟩
   cases i with
   |zero=>simp at hi he;subst hi;subst he;exact(bT ht bY h1).2
   |succ i=>exact k2 i x e' (by simpa using hi) (by simpa using he)
  ·cases h
 | [],_::_,_,h=>by cases h
 |_::_,[],_,h=>by cases h
theorem tS.ok{base:Nat}{S:aO}{T:TypeId}{t:Ty}{v:Value}{d:D}{g:Tag}(h:tS g.ex w base S T t v d){e:E}(hM:C.M g.1)(he:e.lt C.N=true)(hd:den C.ρ e=d)(hS:G.S=S)(eJ:G.τ g=v):
  gh C w base G g e T t:=by
 obtain⟨h1,h2,h3⟩:=h
 subst hd;subst hS;subst eJ
 exact⟨hM,he,h1,h3⟩
theorem nJ(own:Bool)(p:Nat)(e:E): ∀(l:List aA) (j i:Nat),(jW own p e j l)[i]? =(l[i]?).map fun c=>mO own p (.un (.cell (j+i)) e) c
 | [],j,i=>by simp[jW]
 |c::l,j,0=>by simp[jW]
 |c::l,j,i+1=>by simp only[jW,List.getElem?_cons_succ,nJ own p e l (j+1) i];congr 2;funext t;congr 3;omega
theorem rv(own:Bool)(p:Nat)(e:E): ∀(l:List aA) (j:Nat),(jW own p e j l).length=l.length
 | [],_=>rfl
 |_::l,j=>by simp[jW,rv own p e l]
theorem yy(own:Bool)(p:Nat)(e:E): ∀(l:List (Bool×List aA)) (j i:Nat),(lZ own p e j l)[i]? =(l[i]?).map fun c=>AD own p (.un (.cell (j+i)) e) c
 | [],j,i=>by simp[lZ]
 |c::l,j,0=>by simp[lZ]
 |c::l,j,i+1=>by simp only[lZ,List.getElem?_cons_succ,yy own p e l (j+1) i];congr 2;funext t;congr 3;omega
theorem yx(own:Bool)(p:Nat)(e:E): ∀(l:List (Bool×List aA)) (j:Nat),(lZ own p e j l).length=l.length
 | [],_=>rfl
 |_::l,j=>by simp[lZ,yx own p e l]
theorem sr{base:Nat}{τ:Nat→Value}{c:aA}{v:Value}{d:D}{e:E}(h:im w base G.S τ c v d)(hM:C.M p)(he:e.lt C.N=true)(hd:den C.ρ e=d)(eJ: ∀j,G.τ (p,j)=τ j)(own:Bool)(hx:own=true∨ ∀j T,c.2=some (j,T)→Ca j=false:=by exact .inl rfl):
  pX C w G (mO own p e c) v:=by
 obtain⟨t,_|⟨j,T⟩⟩:=c
 ·obtain⟨h1,h2⟩:=h
  exact⟨he,hd▸h1,hd▸h2⟩
 ·obtain⟨rfl,h2⟩:=h
  have bM:=tS.ok (C:=C) (G:=G) (g:=(p,j)) h2 hM he hd rfl (eJ j)
  cases Mg:Ca j with
  |true=>
   have ho:own=true:=hx.elim id fun h=>by rw[h j T rfl]at Mg;cases Mg
   subst ho
   simp only[mO,if_true,Mg]
   refine⟨hM,(eJ j).symm,?_⟩
   obtain⟨xs,l,_,bw,_⟩:=h2.own
   rcases bw.2 with⟨hv,_⟩|⟨b,cap,cur,hv,_⟩
   ·exact⟨_,_,_,hv⟩
   ·exact⟨_,_,_,hv⟩
  |false=>
   have fa:=bM.rep h2.sz Mg
   rw[eJ j]at fa
   cases own with
   |true=>simp only[mO,if_true,Mg,Bool.false_eq_true,if_false];exact⟨hM,he,fa,bM.has,(eJ j).symm⟩
   |false=>exact⟨he,fa,bM.has⟩
theorem DB{base:Nat}{τ:Nat→Value}{c:Bool×List aA}{v:Value}{d:D}{e:E}(h:ep w base G.S τ c v d)(hM:C.M p)(he:e.lt C.N=true)(hd:den C.ρ e=d)(eJ: ∀j,G.τ (p,j)=τ j)(own:Bool)(hx:own=true∨ ∀y∈c.2,∀j T,y.2=some (j,T)→Ca j=false:=by exact .inl rfl):
  ko C w G (AD own p e c) v:=by
 have iA:=hx
 clear hx
 unfold ep at h
 unfold ko AD
 cases hc:c.1 with
 |true=>
  simp only[hc,if_true]at h⊢
  obtain⟨vs,ds,rfl,rfl,wN,nL,cB⟩:=h
  refine⟨vs,rfl,by rw[rv,wN],fun i x u hx hu=> ?_⟩
  rw[nJ]at hx
  simp only[br]at hx
  obtain⟨y,hy,rfl⟩:=hx
  have eX:i<ds.length:=by rw[nL];exact(ai.1 hy).1
  have OL:ds[i]? =some ds[i] :=av eX
  refine sr (cB i y u _ hy hu OL) hM (by simpa [E.lt]using he) ?_ eJ own (iA.imp id fun h=>h y (aS hy))
  simp only[den,U.den,hd,D.ak,Nat.zero_add];exact dX OL
 |false=>
  simp only[hc,Bool.false_eq_true,if_false]at h⊢
  obtain⟨x,hx,B3⟩:=h
  exact⟨mO own p e x,by rw[hx];rfl,sr B3 hM he hd eJ own (iA.imp id fun h=>h x (by rw[hx];simp))⟩
theorem Db{base:Nat}{τ:Nat→Value}{res:List (Bool×List aA)}{v:Value}{e:E}(h:eN w base G.S τ res v (den C.ρ e))(hM:C.M p)(he:e.lt C.N=true)(eJ: ∀j,G.τ (p,j)=τ j)(own:Bool)(hx:own=true∨IF res=true:=by exact .inl rfl):
  wQ C w G (tU own p e res) v:=by
 have iA:own=true∨ ∀c∈res,∀y∈c.2,∀j T,y.2=some (j,T)→Ca j=false:=hx.imp id fun h c hc y hy j T hj=>by
  have:=aV.1 (aV.1 h c hc) y hy
  rw[hj]at this;simpa using this
 clear hx
 rcases h with⟨c,rfl,h⟩|⟨dH,vs,ds,rfl,hd,wN,nL,Qv⟩
 ·have:=DB h hM he rfl eJ own (iA.imp id fun h=>h c (by simp))
  unfold ko at this
  simp only[tU]
  split
  ·rename_i l hl
   rw[hl]at this
   simpa [wQ]using this
  ·rename_i l hl
   rw[hl]at this
   simp only[Bool.false_eq_true,if_false]at this
   obtain⟨c',rfl,xR⟩:=this
   exact xR
 ·have hr:tU own p e res= .cW (lZ own p e 0 res):=by
   match res,dH with
   | [],_=>rfl
   | [c],dH=>exact absurd rfl dH
   |_::_::_,_=>rfl
  rw[hr]
  refine⟨vs,rfl,by rw[yx,wN],fun i x u hx hu=> ?_⟩
  rw[yy]at hx
  simp only[br]at hx
  obtain⟨y,hy,rfl⟩:=hx
  have eX:i<ds.length:=by rw[nL];exact(ai.1 hy).1
  have OL:ds[i]? =some ds[i] :=av eX
  refine DB (Qv i y u _ hy hu OL) hM (by simpa [E.lt]using he) ?_ eJ own (iA.imp id fun h=>h y (aS hy))
  simp only[den,U.den,hd,D.ak,Nat.zero_add];exact dX OL
def xj(C:Cx)(w:World)(base:Nat)(G:Gh)(p:Nat)(idx:List Nat)(x:Tag×Option (E×TypeId×Ty)):Prop:=
 x.1.1=p∧x.1.2∈idx∧ ∃e T t,x.2=some (e,T,t)∧gh C w base G x.1 e T t
theorem rz{base:Nat}{τ:Nat→Value}{c:aA}{v:Value}{d:D}{e:E}{idx:List Nat}(h:im w base G.S τ c v d)(hM:C.M p)(he:e.lt C.N=true)(hd:den C.ρ e=d)(eJ: ∀j,G.τ (p,j)=τ j)
  (qE: ∀j T,c.2=some (j,T)→j∈idx): ∀x∈iY p e c,xj C w base G p idx x:=by
 obtain⟨t,_|⟨j,T⟩⟩:=c
 ·intro x hx;simp[iY]at hx
 ·intro x hx
  simp only[iY,List.mem_singleton]at hx
  subst hx
  obtain⟨rfl,h2⟩:=h
  exact⟨rfl,qE j T rfl,e,T,t,rfl,tS.ok (g:=(p,j)) h2 hM he hd rfl (eJ j)⟩
theorem nY(p:Nat)(e:E): ∀(l:List aA) (j:Nat) (x),x∈kD p e j l→ ∃(i:Nat) (c:aA),l[i]? =some c∧x∈iY p (.un (.cell (j+i)) e) c
 | [],j,x,h=>by simp[kD]at h
 |c::l,j,x,h=>by
  simp only[kD,List.mem_append]at h
  rcases h with h|h
  ·exact⟨0,c,rfl,h⟩
  ·obtain⟨i,c',h1,h2⟩:=nY p e l (j+1) x h
   exact⟨i+1,c',by simpa using h1,by rw[show j+(i+1)=j+1+i by omega];exact h2⟩
theorem tA(p:Nat)(e:E): ∀(l:List (Bool×List aA)) (j:Nat) (x),x∈mz p e j l→ ∃(i:Nat) (c:Bool×List aA),l[i]? =some c∧x∈rj p (.un (.cell (j+i)) e) c
 | [],j,x,h=>by simp[mz]at h
 |c::l,j,x,h=>by
  simp only[mz,List.mem_append]at h
  rcases h with h|h
  ·exact⟨0,c,rfl,h⟩
  ·obtain⟨i,c',h1,h2⟩:=tA p e l (j+1) x h
   exact⟨i+1,c',by simpa using h1,by rw[show j+(i+1)=j+1+i by omega];exact h2⟩
theorem yz{base:Nat}{τ:Nat→Value}{c:Bool×List aA}{v:Value}{d:D}{e:E}{idx:List Nat}(h:ep w base G.S τ c v d)(hM:C.M p)(he:e.lt C.N=true)(hd:den C.ρ e=d)(eJ: ∀j,G.τ (p,j)=τ j)
  (qE: ∀y∈c.2,∀j T,y.2=some (j,T)→j∈idx): ∀x∈rj p e c,xj C w base G p idx x:=by
 intro x hx
 unfold ep at h
 unfold rj at hx
 cases hc:c.1 with
 |true=>
  simp only[hc,if_true]at h hx
  obtain⟨vs,ds,rfl,rfl,wN,nL,cB⟩:=h
  obtain⟨i,y,hy,hx⟩:=nY p e _ _ _ hx
  have eX:i<c.2.length:=(ai.1 hy).1
  have OL:ds[i]? =some (ds[i]'(by omega)):=av _
  have FX:vs[i]? =some (vs[i]'(by omega)):=av _
  refine rz (cB i y _ _ hy FX OL) hM (by simpa [E.lt]using he) ?_ eJ (fun j T hj=>qE y (aS hy) j T hj) x hx
  simp only[den,U.den,hd,D.ak,Nat.zero_add];exact dX OL
 |false=>
  simp only[hc,Bool.false_eq_true,if_false]at h hx
  obtain⟨y,hy,wM⟩:=h
  rw[hy]at hx
  simp only[List.flatMap_cons,List.flatMap_nil,List.append_nil]at hx
  exact rz wM hM he hd eJ (fun j T hj=>qE y (by rw[hy];simp) j T hj) x hx
theorem yh{base:Nat}{τ:Nat→Value}{res:List (Bool×List aA)}{v:Value}{e:E}(h:eN w base G.S τ res v (den C.ρ e))(hM:C.M p)(he:e.lt C.N=true)(eJ: ∀j,G.τ (p,j)=τ j):
  ∀x∈mP p e res,xj C w base G p (bk res) x:=by
 have qE: ∀c∈res,∀y∈c.2,∀j T,y.2=some (j,T)→j∈bk res:=by
  intro c hc y hy j T hj
  unfold bk
  rw[List.mem_flatMap]
  exact⟨c,hc,List.mem_filterMap.2 ⟨y,hy,by rw[hj];rfl⟩⟩
 rcases h with⟨c,rfl,h⟩|⟨dH,vs,ds,rfl,hd,wN,nL,Qv⟩
 ·exact yz h hM he rfl eJ (qE c (by simp))
 ·have hr:mP p e res=mz p e 0 res:=by
   match res,dH with
   | [],_=>rfl
   | [c],dH=>exact absurd rfl dH
   |_::_::_,_=>rfl
  rw[hr]
  intro x hx
  obtain⟨i,y,hy,hx⟩:=tA p _ _ _ _ hx
  have eX:i<res.length:=(ai.1 hy).1
  have OL:ds[i]? =some (ds[i]'(by omega)):=av _
  have FX:vs[i]? =some (vs[i]'(by omega)):=av _
  refine yz (Qv i y _ _ hy FX OL) hM (by simpa [E.lt]using he) ?_ eJ (qE y (aS hy)) x hx
  simp only[den,U.den,hd,D.ak,Nat.zero_add];exact dX OL
theorem vE{base:Nat}{τ:Nat→Value}{res:List (Bool×List aA)}{v:Value}(h:eN w base G.S τ res v (C.ρ p))(hM:C.M p)(hp:p<C.N)(eJ: ∀j,G.τ (p,j)=τ j)(own:Bool)(hx:own=true∨IF res=true:=by exact .inl rfl):
  wQ C w G (ke own p res) v:=Db (e:= .var p) h hM (by simpa [E.lt]using hp) eJ own hx
theorem ub{base:Nat}{τ:Nat→Value}{res:List (Bool×List aA)}{v:Value}(h:eN w base G.S τ res v (C.ρ p))(hM:C.M p)(hp:p<C.N)(eJ: ∀j,G.τ (p,j)=τ j):
  ∀x∈eF p res,xj C w base G p (bk res) x:=yh (e:= .var p) h hM (by simpa [E.lt]using hp) eJ
end
theorem pP: ∀{l:List (Option Tag)},ju l=true→ ∀(i j:Nat) g,l[i]? =some (some g)→l[j]? =some (some g)→i=j
 | [],_,i,j,g,h,_=>by simp at h
 |x::r,hn,i,j,g,hi,hj=>by
  have hr:ju r=true:=by cases x<;>simp[ju]at hn<;>first|exact hn|exact hn.2
  have hx:x=some g→some g∉r:=by
   rintro rfl
   simp only[ju,aw,Bool.not_eq_true']at hn
   simpa using hn.1
  cases i with
  |zero=>
   cases j with
   |zero=>rfl
   |succ j=>
    simp at hi hj
    exact absurd (aS hj) (hx hi)
  |succ i=>
   cases j with
   |zero=>
    simp at hi hj
    exact absurd (aS hi) (hx hj)
   |succ j=>rw[pP hr i j g (by simpa using hi) (by simpa using hj)]
section
variable{P:Program}{C:Cx}{w w0:World}{S0:ew}{G:Gh}{σ:St}{a:Act}{n:Nat}
def oq(G:Gh)(l:jI):Nat→Value:=fun j=>match lk l j with
 |some (some g)=>G.τ g
 |_=> .slice none 0 0
theorem kB{α β:Type}[DecidableEq α] : ∀{l:List (α×β)} {k:α} {v:β},(l.map (·.1)).Nodup→(k,v)∈l→lk l k=some v
 | [],_,_,_,h=>by simp at h
 |(a,b)::l,k,v,hn,h=>by
  simp only[List.map_cons,List.nodup_cons]at hn
  simp only[lk]
  rcases List.mem_cons.1 h with h|h
  ·simp only[Prod.mk.injEq]at h;obtain⟨rfl,rfl⟩:=h;simp
  ·have:k≠a:=fun e=>hn.1 (List.mem_map.2 ⟨(k,v),h,e⟩)
   rw[if_neg this];exact kB hn.2 h
theorem J2{r:aA}{c:SC}{e:E}{l L:jI}{v:Value}(hm:cJ w0 S0 C G σ w)(h:gQ σ r c=some (e,l))(hr:pX C w G c v)(hL: ∀x∈l,x∈L)(hn:(L.map (·.1)).Nodup):
  im w 0 G.S (oq G L) r v (den C.ρ e):=by
 obtain⟨t,_|⟨j,T⟩⟩:=r
 ·simp only[gQ]at h
  split at h
  ·rename_i e' t' hd
   split at h
   ·rename_i FY
    injection h with h;simp only[Prod.mk.injEq]at h;obtain⟨rfl,rfl⟩:=h
    subst FY
    exact(jw hd hr).2
   ·cases h
  ·split at h
   ·split at h
    ·rename_i FY
     injection h with h;simp only[Prod.mk.injEq]at h;obtain⟨rfl,rfl⟩:=h
     subst FY
     obtain⟨_,rfl⟩:=hr
     exact⟨.ptr _ [] [] rfl (fun i hi=>by simp at hi) (fun i v hi=>by simp at hi) (fun i v d hi=>by simp at hi),⟨[],rfl,rfl⟩⟩
    ·cases h
   ·cases h
 ·simp only[gQ]at h
  split at h
  ·rename_i t'
   split at h
   ·rename_i hc
    obtain⟨rfl,ev⟩:=hc
    injection h with h;simp only[Prod.mk.injEq]at h;obtain⟨rfl,rfl⟩:=h
    have eJ:oq G L j= .slice none 0 0:=by unfold oq;rw[kB hn (hL (j,none) (by simp))]
    refine⟨by rw[eJ];exact hr,⟨aD.2 ⟨[],rfl,db _,by simp⟩,ev,[],[],rfl,?_,?_,by simp⟩⟩
    ·rw[eJ];exact World.ownsRow_nil w _ _ _
    ·rw[eJ];intro b hb;cases hb
   ·cases h
  ·rename_i g e0 t'
   split at h
   ·rename_i e1 T' YQ hl
    split at h
    ·rename_i hc
     obtain⟨rfl,rfl,rfl,ev,lR,DR⟩:=hc
     injection h with h;simp only[Prod.mk.injEq]at h;obtain⟨rfl,rfl⟩:=h
     have eJ:oq G L j=G.τ g:=by unfold oq;rw[kB hn (hL (j,some g) (by simp))]
     have ho:=hm.own _ _ _ _ hl
     refine⟨by rw[eJ];exact hr.2.2.2.2,⟨ho.has,ev,?_⟩⟩
     rw[eJ];have e:Ca j=g.ex:=by rw[DR,lR]
     rw[e];exact ho.own
    ·cases h
   ·cases h
  ·rename_i g t'
   split at h
   ·rename_i e1 T' YQ hl
    split at h
    ·rename_i hc
     obtain⟨rfl,rfl,rfl,ev,lR,DR⟩:=hc
     injection h with h;simp only[Prod.mk.injEq]at h;obtain⟨rfl,rfl⟩:=h
     have eJ:oq G L j=G.τ g:=by unfold oq;rw[kB hn (hL (j,some g) (by simp))]
     have ho:=hm.own _ _ _ _ hl
     refine⟨by rw[eJ];exact hr.2.1,⟨ho.has,ev,?_⟩⟩
     rw[eJ];have e:Ca j=g.ex:=by rw[DR,lR]
     rw[e];exact ho.own
    ·cases h
   ·cases h
  ·cases h
theorem iw{L:jI}(hm:cJ w0 S0 C G σ w)(hn:(L.map (·.1)).Nodup): ∀{rs:List aA} {cs:List SC} {es:List E} {l:jI} {vs:List Value},dY σ rs cs=some (es,l)→iD C w G cs vs→(∀x∈l,x∈L)→
  es.length=rs.length∧vs.length=rs.length∧ ∀(i:Nat) r v e,rs[i]? =some r→vs[i]? =some v→es[i]? =some e→im w 0 G.S (oq G L) r v (den C.ρ e)
 | [],[],es,l,vs,h,hr,_=>by
  simp only[dY,Option.some.injEq,Prod.mk.injEq]at h
  obtain⟨rfl,rfl⟩:=h
  exact⟨rfl,by have:=hr.1;simpa using this,by intro i r v e hi;simp at hi⟩
 | [],_::_,_,_,_,h,_,_=>by cases h
 |_::_,[],_,_,_,h,_,_=>by cases h
 |r::rs,c::cs,es,l,vs,h,hr,hL=>by
  simp only[dY]at h
  split at h
  ·rename_i e l1 tg l2 h1 h2
   injection h with h;simp only[Prod.mk.injEq]at h;obtain⟨rfl,rfl⟩:=h
   cases vs with
   |nil=>have:=hr.1;simp at this
   |cons v vs=>
    have FO:iD C w G cs vs:=⟨by have:=hr.1;simpa using this,fun i c v hi hv=>hr.2 (i+1) c v (by simpa using hi) (by simpa using hv)⟩
    obtain⟨k1,k2,k3⟩:=iw hm hn h2 FO (fun x hx=>hL x (by simp[hx]))
    refine⟨by simp[k1],by simp[k2],fun i r' v' e' hi hv he=> ?_⟩
    cases i with
    |zero=>
     simp at hi hv he;subst hi;subst hv;subst he
     exact J2 hm h1 (hr.2 0 c _ rfl rfl) (fun x hx=>hL x (by simp[hx])) hn
    |succ i=>exact k3 i r' v' e' (by simpa using hi) (by simpa using hv) (by simpa using he)
  ·cases h
theorem HC{r:aA}{c:SC}{e:E}{l:jI}(h:gQ σ r c=some (e,l)):(r.2.map (·.1)).toList=l.map (·.1):=by
 obtain⟨t,_|⟨j,T⟩⟩:=r
 ·simp only[gQ]at h
  split at h
  ·split at h
   ·injection h with h;simp only[Prod.mk.injEq]at h;rw[←h.2];rfl
   ·cases h
  ·split at h
   ·split at h
    ·injection h with h;simp only[Prod.mk.injEq]at h;rw[←h.2];rfl
    ·cases h
   ·cases h
 ·simp only[gQ]at h
  split at h
  ·split at h
   ·injection h with h;simp only[Prod.mk.injEq]at h;rw[←h.2];rfl
   ·cases h
  ·split at h
   ·split at h
    ·injection h with h;simp only[Prod.mk.injEq]at h;rw[←h.2];rfl
    ·cases h
   ·cases h
  ·split at h
   ·split at h
    ·injection h with h;simp only[Prod.mk.injEq]at h;rw[←h.2];rfl
    ·cases h
   ·cases h
  ·cases h
theorem mc: ∀{rs:List aA} {cs:List SC} {es:List E} {l:jI},dY σ rs cs=some (es,l)→(rs.filterMap fun x=>x.2.map (·.1))=l.map (·.1)
 | [],cs,es,l,h=>by
  cases cs<;>simp[dY]at h
  obtain⟨rfl,rfl⟩:=h;rfl
 |_::_,[],_,_,h=>by cases h
 |r::rs,c::cs,es,l,h=>by
  simp only[dY]at h
  split at h
  ·rename_i q1 q2
   injection h with h;simp only[Prod.mk.injEq]at h;rw[←h.2,List.map_append,←HC q1,←mc q2]
   cases hr:r.2 with
   |none=>simp[hr]
   |some x=>simp[hr]
  ·cases h
theorem Fe{r:aA}{c:SC}{e:E}{l:jI}{j:Nat}{g:Tag}(h:gQ σ r c=some (e,l))(hm:(j,some g)∈l): ∃z,σ.live g=some z:=by
 obtain⟨t,_|⟨j0,T⟩⟩:=r
 ·simp only[gQ]at h
  split at h
  ·split at h
   ·injection h with h;simp only[Prod.mk.injEq]at h;rw[←h.2]at hm;simp at hm
   ·cases h
  ·split at h
   ·split at h
    ·injection h with h;simp only[Prod.mk.injEq]at h;rw[←h.2]at hm;simp at hm
    ·cases h
   ·cases h
 ·simp only[gQ]at h
  split at h
  ·split at h
   ·injection h with h;simp only[Prod.mk.injEq]at h;rw[←h.2]at hm;simp at hm
   ·cases h
  ·split at h
   ·rename_i hl
    split at h
    ·injection h with h;simp only[Prod.mk.injEq]at h;rw[←h.2]at hm
     simp at hm;obtain⟨rfl,rfl⟩:=hm;exact⟨_,hl⟩
    ·cases h
   ·cases h
  ·split at h
   ·rename_i hl
    split at h
    ·injection h with h;simp only[Prod.mk.injEq]at h;rw[←h.2]at hm
     simp at hm;obtain⟨rfl,rfl⟩:=hm;exact⟨_,hl⟩
    ·cases h
   ·cases h
  ·cases h
theorem kS: ∀{rs:List aA} {cs:List SC} {es:List E} {l:jI} {j:Nat} {g:Tag},dY σ rs cs=some (es,l)→(j,some g)∈l→ ∃z,σ.live g=some z
 | [],[],es,l,j,g,h,hm=>by simp[dY]at h;obtain⟨rfl,rfl⟩:=h;simp at hm
 | [],_::_,_,_,_,_,h,_=>by cases h
 |_::_,[],_,_,_,_,h,_=>by cases h
 |r::rs,c::cs,es,l,j,g,h,hm=>by
  simp only[dY]at h
  split at h
  ·rename_i q1 q2
   injection h with h;simp only[Prod.mk.injEq]at h;rw[←h.2]at hm
   rcases List.mem_append.1 hm with hm|hm
   ·exact Fe q1 hm
   ·exact kS q2 hm
  ·cases h
theorem xu{l:jI}(hm:cJ w0 S0 C G σ w)(bM:nR l=true)(bf: ∀j g,(j,some g)∈l→ ∃z,σ.live g=some z){j k b:Nat}(hj:j∈l.map (·.1))(hk:k∈l.map (·.1))
  (ON:(oq G l j).ownBlock=some b) (F6:(oq G l k).ownBlock=some b):j=k:=by
 unfold nR at bM
 simp only[aw,aN]at bM
 obtain⟨hnt,OE⟩:=bM
 obtain⟨x,hx,rfl⟩:=List.mem_map.1 hj
 obtain⟨y,hy,rfl⟩:=List.mem_map.1 hk
 have ex:lk l x.1=some x.2:=kB OE hx
 have ey:lk l y.1=some y.2:=kB OE hy
 unfold oq at ON F6
 rw[ex]at ON
 rw[ey]at F6
 obtain⟨jx,_|gx⟩:=x
 ·cases ON
 ·obtain⟨jy,_|gy⟩:=y
  ·cases F6
  ·simp only at ON F6
   obtain⟨zx,hzx⟩:=bf _ _ hx
   obtain⟨zy,hzy⟩:=bf _ _ hy
   have hg:=hm.gP gx gy _ _ b hzx hzy ON F6
   subst hg
   obtain⟨i1,Wg⟩:=List.getElem?_of_mem hx
   obtain⟨i2,KJ⟩:=List.getElem?_of_mem hy
   have:=pP hnt i1 i2 gx (by rw[List.getElem?_map,Wg];rfl) (by rw[List.getElem?_map,KJ];rfl)
   subst this
   rw[Wg]at KJ;injection KJ with KJ
   simp only[Prod.mk.injEq]at KJ
   exact KJ.1
theorem vj{l:jI}(bM:nR l=true){j b:Nat}(hj:j∈l.map (·.1))(hb:(oq G l j).ownBlock=some b): ∃g,(j,some g)∈l∧(G.τ g).ownBlock=some b:=by
 unfold nR at bM
 simp only[aw,aN]at bM
 obtain⟨x,hx,rfl⟩:=List.mem_map.1 hj
 have ex:lk l x.1=some x.2:=kB bM.2 hx
 unfold oq at hb
 rw[ex]at hb
 obtain⟨jx,_|gx⟩:=x
 ·cases hb
 ·exact⟨gx,hx,hb⟩
end
section
variable{P:Program}{C:Cx}{w w0:World}{S0:ew}{G:Gh}{σ:St}{a:Act}{n p:Nat}
theorem cJ.UW(h:cJ w0 S0 C G σ w)(hp: ¬C.M p){w':World}{S':aO}{τ':Nat→Value}{βn:Nat}{ids:List Nat}{kill:List Tag}{mu:Nat→Prop}
  (iM:dU mu w w') (uw: ∀b,mu b→(∃id∈ids,b=G.β id)∨ ∃g∈kill,(G.τ g).ownBlock=some b)
  (gG: ∀id∈ids,∃cs,σ.hp id=some (false,cs)) (Qp: ∀g∈kill,∃x,σ.live g=some x)
  (hS: ∀b o,G.S b o→S' b o) (aL: ∀b o,S' b o→b<w'.heap.size) (fM: ∀b o,S' b o→G.S b o∨w.heap.size≤b∨mu b) (jM: ∀b o,G.S b o→w'.cell? ⟨b,o,none⟩=w.cell? ⟨b,o,none⟩)
  (Tz:Nat→Option (Bool×List SC)) (live':Tag→Option (E×TypeId×Ty)) (G':Gh)
  (hG:G'={S:=S',β:=dp G.β p βn,τ:=fun g=>if g.1=p then τ' g.2 else G.τ g})
  (qn: ∀id x,Tz id=some x→(id∉ids∧id≠p∧σ.hp id=some x)∨(x.1=false∧(id∈ids∨(id=p∧(w.heap.size≤βn∨ ∃DM∈ids,βn=G.β DM∧Tz DM=none)))∧x.2.all SC.scalar=true∧
   ij S0.prog (C.add p) w' G' (G'.β id) x.2∧ ∀o,¬S' (G'.β id) o))
  (bf: ∀g x,live' g=some x→(g.1≠p∧g∉kill∧σ.live g=some x)∨(g.1=p∧gh (C.add p) w' 0 G' g x.1 x.2.1 x.2.2∧ ∀b,(τ' g.2).ownBlock=some b→w.heap.size≤b∨mu b))
  (Cp: ∀j k x y b,live' (p,j)=some x→live' (p,k)=some y→(τ' j).ownBlock=some b→(τ' k).ownBlock=some b→j=k)
  (dw: ∀j id x y b,live' (p,j)=some x→Tz id=some y→(id∈ids∨id=p)→(τ' j).ownBlock=some b→b≠G'.β id) (nK: ¬S0.fr) (jg: ¬S0.wz):
  bO C w G (C.add p) w' G'∧cJ w0 S0 (C.add p) G' {σ with hp:=Tz,live:=live'} w':=by
 subst hG
 have ME: ∀id∈ids,C.M id:=fun id hi=>by obtain⟨cs,gS⟩:=gG id hi;exact h.lG _ _ gS
 have H2: ∀id,C.M id→dp G.β p βn id=G.β id:=fun id hi=>cS _ _ (fun e=>hp (e▸hi))
 have eJ: ∀g:Tag,C.M g.1→(if g.1=p then τ' g.2 else G.τ g)=G.τ g:=fun g hg=>if_neg (fun e=>hp (by rw[←e];exact hg))
 have aaN: ∀b,mu b→gH w0 S0 b∧b<w.heap.size:=by
  intro b hb
  rcases uw b hb with⟨id,cU,rfl⟩|⟨g,hg,fq⟩
  ·obtain⟨cs,gS⟩:=gG id cU
   exact⟨h.aaj (h.box _ _ _ gS).1,h.jR gS⟩
  ·obtain⟨x,hx⟩:=Qp g hg
   exact⟨h.dM g x b hx fq,((h.own g x.1 x.2.1 x.2.2 hx).dW b fq).2⟩
 have aU:bO C w G (C.add p) w' {S:=S',β:=dp G.β p βn,τ:=fun g=>if g.1=p then τ' g.2 else G.τ g}:=
  ⟨fun _ h=>⟨rfl,h⟩,fun _ h=> .inl h,hS,jM,fun i hi=>H2 i hi,fun g hg=>eJ g hg⟩
 have Ra: ∀id x,id∉ids→σ.hp id=some x→ ¬mu (G.β id):=by
  intro id x hn hx hb
  rcases uw _ hb with⟨N8,h2,he⟩|⟨g,hg,fq⟩
  ·obtain⟨cs,gS⟩:=gG N8 h2
   exact hn (h.inj id N8 _ _ hx gS he▸h2)
  ·obtain⟨y,hy⟩:=Qp g hg
   exact h.cz g id y x _ hy hx fq rfl
 have Em: ∀g x b,g∉kill→σ.live g=some x→(G.τ g).ownBlock=some b→ ¬mu b:=by
  intro g x b hn hx fq hb
  rcases uw _ hb with⟨N8,h2,he⟩|⟨g2,BX,aq3⟩
  ·obtain⟨cs,gS⟩:=gG N8 h2
   exact h.cz g N8 x _ b hx gS fq he
  ·obtain⟨y,hy⟩:=Qp g2 BX
   exact hn (h.gP g g2 x y b hx hy fq aq3▸BX)
 have fo:=h.below.size
 have key: ∀i x,Tz i=some x→(C.M i∧(∃x',σ.hp i=some x')∧dp G.β p βn i=G.β i)∨(i=p∧(w.heap.size≤βn∨ ∃DM∈ids,βn=G.β DM∧Tz DM=none)):=by
  intro i x hi
  rcases qn i x hi with⟨_,_,h2⟩|⟨_,h2|h2,_⟩
  ·exact .inl ⟨h.lG _ _ h2,⟨_,h2⟩,H2 _ (h.lG _ _ h2)⟩
  ·obtain⟨cs,gS⟩:=gG i h2
   exact .inl ⟨ME i h2,⟨_,gS⟩,H2 _ (ME i h2)⟩
  ·exact .inr h2
 refine⟨aU,⟨?_,fun b o hs=>hS b o (h.ic b o hs),h.kG aU,h.mo aU,h.jK,aL,?_,?_,?_,?_,?_,?_,?_,?_,fun h=>absurd h nK,fun h=>absurd h jg⟩⟩
 ·refine⟨iM.os.trans h.below.os,iM.tape.trans h.below.tape,iM.output.trans h.below.output,Nat.le_trans fo iM.size,fun k hk hm=>(iM.block k (by omega) (fun hb=> ?_)).trans (h.below.block k hk hm)⟩
  rcases (aaN k hb).1 with h3|h3
  ·omega
  ·exact hm h3
 ·intro b o hs
  rcases fM b o hs with h1|h1|h1
  ·exact h.eP b o h1
  ·exact .inr (.inl (by omega))
  ·exact .inr (aaN b h1).1
 ·intro id x hx
  rcases key id x hx with⟨h1,_⟩|⟨rfl,_⟩
  ·exact .inl h1
  ·exact .inr rfl
 ·intro id ro cs hx
  rcases qn id _ hx with⟨n1,n2,iA⟩|⟨hf,cU,jC,cB,DQ⟩
  ·obtain⟨b1,b2,b3,b5⟩:=h.box id ro cs iA
   have hb:=H2 id (h.lG _ _ iA)
   have BW:=Ra id _ n1 iA
   have iR:=h.jR iA
   refine⟨by show I0 w0 S0 (dp G.β p βn id);rw[hb];exact b1,b2,by show ij S0.prog _ w' _ (dp G.β p βn id) cs;rw[hb];exact b3.later aU (iM.block _ iR BW),?_⟩
   show if ro=true then∀o,o<cs.length→S' (dp G.β p βn id) o else∀o,¬S' (dp G.β p βn id) o
   rw[hb]
   cases ro with
   |true=>simp only[if_true]at b5⊢;exact fun o ho=>hS _ _ (b5 o ho)
   |false=>
    simp only[Bool.false_eq_true,if_false]at b5⊢
    intro o ho
    rcases fM _ _ ho with h6|h6|h6
    ·exact b5 o h6
    ·omega
    ·exact BW h6
  ·simp only at hf
   subst hf
   refine⟨?_,jC,cB,by simp only[Bool.false_eq_true,if_false];exact DQ⟩
   show I0 w0 S0 (dp G.β p βn id)
   rcases cU with cU|⟨rfl,Cj⟩
   ·rw[H2 id (ME id cU)]
    obtain⟨pW,wW⟩:=gG id cU
    exact(h.box _ _ _ wW).1
   ·rw[ca]
    rcases Cj with Cj|⟨DM,IP,Cj,_⟩
    ·exact .inl (by omega)
    ·rw[Cj]
     obtain⟨pW,wW⟩:=gG DM IP
     exact(h.box _ _ _ wW).1
 ·intro i j x y hi hj he
  have F4:dp G.β p βn i=dp G.β p βn j:=he
  rcases key i x hi with⟨_,⟨x',iA⟩,e1⟩|⟨rfl,e1⟩<;>rcases key j y hj with⟨_,⟨y',kU⟩,e2⟩|⟨rfl,e2⟩
  ·rw[e1,e2]at F4
   exact h.inj i j _ _ iA kU F4
  ·rw[e1,ca]at F4
   have:=h.jR iA
   rcases e2 with e2|⟨DM,IP,e2,e3⟩
   ·omega
   ·obtain⟨pW,wW⟩:=gG DM IP
    have e4:=h.inj i DM _ _ iA wW (F4.trans e2)
    have FP:Tz i=some x:=hi
    rw[e4,e3]at FP;cases FP
  ·rw[e2,ca]at F4
   have:=h.jR kU
   rcases e1 with e1|⟨DM,IP,e1,e3⟩
   ·omega
   ·obtain⟨pW,wW⟩:=gG DM IP
    have e4:=h.inj j DM _ _ kU wW (F4.symm.trans e1)
    have yM:Tz j=some y:=hj
    rw[e4,e3]at yM;cases yM
  ·rfl
 ·intro g e T t hx
  rcases bf g _ hx with⟨h1,h2,h3⟩|⟨h1,h2,_⟩
  ·have ho:=h.own g e T t h3
   refine ho.later aU (fun b hb=>iM.block b (ho.dW b hb).2 (Em g _ b h2 h3 hb)) (fun b hb o hs=> ?_)
   rcases fM b o hs with h6|h6|h6
   ·exact h6
   ·have:=(ho.dW b hb).2;omega
   ·exact absurd h6 (Em g _ b h2 h3 hb)
  ·exact h2
 ·intro g x b hx fq
  rcases bf g _ hx with⟨h1,h2,h3⟩|⟨h1,_,h2⟩
  ·simp only[if_neg h1]at fq
   exact h.dM g x b h3 fq
  ·simp only[if_pos h1]at fq
   rcases h2 b fq with h4|h4
   ·exact .inl (by omega)
   ·exact(aaN b h4).1
 ·intro g g' x y b hx hy fq kX
  rcases bf g _ hx with⟨h1,h2,h3⟩|⟨h1,_,h2⟩<;>rcases bf g' _ hy with⟨h4,h5,h6⟩|⟨h4,_,h5⟩
  ·simp only[if_neg h1]at fq;simp only[if_neg h4]at kX
   exact h.gP g g' x y b h3 h6 fq kX
  ·simp only[if_neg h1]at fq;simp only[if_pos h4]at kX
   rcases h5 b kX with h7|h7
   ·have:=((h.own g x.1 x.2.1 x.2.2 h3).dW b fq).2;omega
   ·exact absurd h7 (Em g x b h2 h3 fq)
  ·simp only[if_pos h1]at fq;simp only[if_neg h4]at kX
   rcases h2 b fq with h7|h7
   ·have:=((h.own g' y.1 y.2.1 y.2.2 h6).dW b kX).2;omega
   ·exact absurd h7 (Em g' y b h5 h6 kX)
  ·obtain⟨g1,j⟩:=g
   obtain⟨g2,k⟩:=g'
   simp only at h1 h4
   subst h1;subst h4
   simp only[if_true]at fq kX
   rw[Cp j k x y b hx hy fq kX]
 ·intro g id x y b hx hy fq
  show b≠dp G.β p βn id
  rcases bf g _ hx with⟨h1,h2,h3⟩|⟨h1,_,h2⟩
  ·simp only[if_neg h1]at fq
   rcases key id y hy with⟨_,⟨y',kU⟩,e2⟩|⟨rfl,e2⟩
   ·rw[e2];exact h.cz g id x y' b h3 kU fq
   ·rw[ca]
    rcases e2 with e2|⟨DM,IP,e2,_⟩
    ·have:=((h.own g x.1 x.2.1 x.2.2 h3).dW b fq).2;omega
    ·obtain⟨pW,wW⟩:=gG DM IP
     rw[e2];exact h.cz g DM x _ b h3 wW fq
  ·obtain⟨g1,j⟩:=g
   simp only at h1
   subst h1
   simp only[if_true]at fq
   rcases qn id y hy with⟨n1,n2,iA⟩|⟨_,cU,_⟩
   ·rw[H2 id (h.lG _ _ iA)]
    intro he
    have:=h.jR iA
    rcases h2 b fq with h7|h7
    ·omega
    ·rw[he]at h7;exact Ra id _ n1 iA h7
   ·exact dw j id x y b hx hy (cU.imp (fun h=>h) And.left) fq
end
theorem rr: ∀{a b:List Ty} {x y:List D},bV (.bQ a) x→bV (.bQ b) y→bV (.bQ (a++b)) (x++y)
 | [],b,x,y,h,h'=>by rw[bE.1 h];exact h'
 |t::a,b,x,y,h,h'=>by
  obtain⟨d,r,rfl,h1,h2⟩:=aa.1 h
  exact aa.2 ⟨d,r++y,rfl,h1,rr h2 h'⟩
section
variable{P:Program}{C:Cx}{w w0:World}{S0:ew}{G:Gh}{σ:St}{a:Act}{o:Oper}{pc:bI}{Φ:Nat→List D→D}{Pre:Nat→List D→Prop}{n p:Nat}{cs:lD}
theorem vL(ht:fI C w G σ.tm a){pc:bI}(bY:aq C.ρ pc=true){β:Nat→Nat}: ∀{sh:List Bool} {l:List Operand} {ts:List TypeId} {es:List (E×Ty)} {ids:List Nat} {k:Nat},jL P σ pc sh l ts=some (es,ids)→(∀(i:Nat) id,ids[i]? =some id→β (k+i)=G.β id)→
  qQ w G.S β sh k (l.map a.eval) (es.map fun x=>den C.ρ x.1)∧bV (.bQ (es.map (·.2))) (es.map fun x=>den C.ρ x.1)
 | [],[],[],es,ids,k,h,_=>by
  simp only[jL,Option.some.injEq,Prod.mk.injEq]at h
  obtain⟨rfl,rfl⟩:=h
  exact⟨trivial,bE.2 rfl⟩
 |false::sh,x::l,t::ts,es,ids,k,h,H2=>by
  simp only[jL]at h
  split at h
  ·rename_i e tg qh h1 h2
   injection h with h;simp only[Prod.mk.injEq]at h;obtain⟨rfl,rfl⟩:=h
   obtain⟨q1,q2⟩:=vL ht bY h2 H2
   obtain⟨e1,t1⟩:=e
   obtain⟨_,r1,r2⟩:=bT ht bY h1
   exact⟨⟨r1,q1⟩,aa.2 ⟨_,_,rfl,r2,q2⟩⟩
  ·cases h
 |true::sh,x::l,t::ts,es,ids,k,h,H2=>by
  simp only[jL]at h
  split at h
  ·rename_i id tg qh h1 h2
   injection h with h;simp only[Prod.mk.injEq]at h;obtain⟨rfl,rfl⟩:=h
   obtain⟨q1,q2⟩:=vL (k:=k+1) ht bY h2 (fun i Tp hi=>by rw[show k+1+i=k+(i+1) by omega];exact H2 (i+1) Tp (by simpa using hi))
   have hv:=(bg ht bY h1).2
   have hb:β k=G.β id:=by simpa using H2 0 id rfl
   exact⟨⟨by rw[hv,hb],q1⟩,q2⟩
  ·cases h
 | [],[],_::_,_,_,_,h,_=>by simp[jL]at h
 | [],_::_,ts,_,_,_,h,_=>by cases ts<;>simp[jL]at h
 |b::_,[],ts,_,_,_,h,_=>by cases b<;>cases ts<;>simp[jL]at h
 |b::_,_::_,[],_,_,_,h,_=>by cases b<;>simp[jL]at h
theorem AV: ∀{rcs:List (List aA)} {ids:List Nat} {wK:List (List E)} {l:jI},tk σ rcs ids=some (wK,l)→
  wK.length=rcs.length∧ids.length=rcs.length∧rcs.flatMap Gq=l.map (·.1)∧(∀id∈ids,∃cs,σ.hp id=some (false,cs))∧(∀j g,(j,some g)∈l→ ∃z,σ.live g=some z)∧
  ∀(i:Nat) rc id es,rcs[i]? =some rc→ids[i]? =some id→wK[i]? =some es→ ∃cs lo,σ.hp id=some (false,cs)∧dY σ rc cs=some (es,lo)∧ ∀x∈lo,x∈l
 | [],[],wK,l,h=>by
  simp only[tk,Option.some.injEq,Prod.mk.injEq]at h
  obtain⟨rfl,rfl⟩:=h
  exact⟨rfl,rfl,rfl,by simp,by simp,by intro i rc id es hi;simp at hi⟩
 |rc::r,id::ids,wK,l,h=>by
  simp only[tk]at h
  split at h
  ·rename_i cs cU
   split at h
   ·rename_i es l1 awx l2 h1 h2
    injection h with h;simp only[Prod.mk.injEq]at h;obtain⟨rfl,rfl⟩:=h
    obtain⟨q1,q2,q3,q4,q5,q6⟩:=AV h2
    refine⟨by simp[q1],by simp[q2],?_,?_,?_,?_⟩
    ·rw[List.flatMap_cons,q3,List.map_append,←mc h1];rfl
    ·simp only[List.mem_cons,forall_eq_or_imp];exact⟨⟨cs,cU⟩,q4⟩
    ·intro j g hm
     rcases List.mem_append.1 hm with hm|hm
     ·exact kS h1 hm
     ·exact q5 j g hm
    ·intro i V5 Tp tg hi hj hk
     cases i with
     |zero=>simp at hi hj hk;subst hi;subst hj;subst hk;exact⟨cs,l1,cU,h1,fun x hx=>List.mem_append_left _ hx⟩
     |succ i=>
      obtain⟨pW,lo,r1,r2,r3⟩:=q6 i V5 Tp tg (by simpa using hi) (by simpa using hj) (by simpa using hk)
      exact⟨pW,lo,r1,r2,fun x hx=>List.mem_append_right _ (r3 x hx)⟩
   ·cases h
  ·cases h
 | [],_::_,_,_,h=>by cases h
 |_::_,[],_,_,h=>by cases h
theorem Dk{ob:Ob}{ids:List Nat}{i id:Nat}(h:ids[i]? =some id):(mI σ ob ids)[i]? =some id:=by
 have hl:i<ids.length:=(ai.1 h).1
 unfold mI
 split
 ·split
  ·split
   ·rw[List.getElem?_append_left hl];exact h
   ·exact h
  ·exact h
 ·exact h
theorem ET{lk:Option Nat}: ∀{k:Nat} {ids:List Nat} {rcs:List (List aA)} {id:Nat} {v:Option (Bool×List SC)},(id,v)∈Tn lk p k ids rcs→ ∃(i:Nat) (rc:List aA),ids[i]? =some id∧rcs[i]? =some rc∧v=some (false,tQ lk rc (jW true p (.un (.cell (k+i)) (.var p)) 0 rc))
 |k,[],rcs,id,v,h=>by cases rcs<;>simp[Tn]at h
 |k,_::_,[],id,v,h=>by simp[Tn]at h
 |k,x::ids,rc::rcs,id,v,h=>by
  simp only[Tn,List.mem_cons,Prod.mk.injEq]at h
  rcases h with⟨rfl,rfl⟩|h
  ·exact⟨0,rc,rfl,rfl,rfl⟩
  ·obtain⟨i,V5,h1,h2,h3⟩:=ET h
   exact⟨i+1,V5,by simpa using h1,by simpa using h2,by rw[h3,show k+1+i=k+(i+1) by omega]⟩
theorem G5{lkk:Option Nat}{id:Nat}: ∀{k:Nat} {ids:List Nat} {rcs:List (List aA)},lk (Tn lkk p k ids rcs) id=none→ids.length≤rcs.length→id∉ids
 |k,[],rcs,_,_=>by simp
 |k,_::_,[],_,hl=>by simp at hl
 |k,x::ids,rc::rcs,h,hl=>by
  simp only[Tn,lk]at h
  split at h
  ·cases h
  ·rename_i hx
   simp only[List.mem_cons,not_or]
   exact⟨hx,G5 h (by simpa using hl)⟩
theorem Dh: ∀{k:Nat} {rcs:List (List aA)} {x:Tag×Option (E×TypeId×Ty)},x∈xW p k rcs→ ∃(i:Nat) (rc:List aA),rcs[i]? =some rc∧x∈kD p (.un (.cell (k+i)) (.var p)) 0 rc
 |k,[],x,h=>by simp[xW]at h
 |k,rc::rcs,x,h=>by
  simp only[xW,List.mem_append]at h
  rcases h with h|h
  ·exact⟨0,rc,rfl,h⟩
  ·obtain⟨i,V5,h1,h2⟩:=Dh h
   exact⟨i+1,V5,by simpa using h1,by rw[show k+(i+1)=k+1+i by omega];exact h2⟩
theorem nH{α β:Type}[DecidableEq α] : ∀{l:List (α×β)} {k:α},lk l k=none→ ∀v,(k,v)∉l
 | [],k,_,v=>by simp
 |(a,b)::l,k,h,v=>by
  simp only[lk]at h
  split at h
  ·cases h
  ·rename_i hk
   simp only[List.mem_cons,Prod.mk.injEq,not_or,not_and]
   exact⟨fun e=>absurd e hk,nH h v⟩
theorem G4{w:World}{S:aO}{τ:Nat→Value}: ∀{rcs:List (List aA)} {oo:List (List D)} {β:Nat→Nat} {k:Nat},oo.length=rcs.length→(∀(i:Nat) rc cells,rcs[i]? =some rc→oo[i]? =some cells→C4 w S τ rc (β (k+i)) cells)→
  bV (.bQ (rcs.flatten.map Gd)) oo.flatten
 | [],[],β,k,_,_=>bE.2 rfl
 | [],_::_,_,_,h,_=>by simp at h
 |_::_,[],_,_,h,_=>by simp at h
 |rc::rcs,cells::oo,β,k,hl,h=>by
  obtain⟨fW,T,_,h2,h3,h4,_⟩:=h 0 rc cells rfl rfl
  rw[List.flatten_cons,List.flatten_cons,List.map_append]
  refine rr (fK (by simp[h3]) fun j u x hj hx=> ?_) (G4 (k:=k+1) (β:=β) (by simpa using hl) (fun i V5 c' hi hc=>by rw[show k+1+i=k+(i+1) by omega];exact h (i+1) V5 c' (by simpa using hi) (by simpa using hc)))
  simp only[List.getElem?_map,br]at hj
  obtain⟨r,hr,rfl⟩:=hj
  have jh:j<rc.length:=(ai.1 hr).1
  have:=h4 j r _ x hr (av (by omega)) hx
  obtain⟨t,_|⟨j0,T0⟩⟩:=r
  ·exact this.2
  ·exact this.2.has
theorem nT{ops:Array Oper}{x:nr}(hs:er n w0 S0 C G σ a w)(hp: ¬C.M p)(uF:p<C.N)(hg:guardOf ops σ o=some pc)(bY:aq C.ρ pc=true)(h:fJ P cs σ pc o=some x)
  (fb: ∀k sig,lk cs.l k=some sig→ax P k sig (Pre k) (Φ k)) (eC:ct C Φ Pre (.call p x.k x.args [])) (aL:(x.DU p o.dst).uz.2.lt C.N=true) (cp: ∀d,o.dst=some d→d<n) (nK: ¬S0.fr) (jg: ¬S0.wz):
  c9 P n w0 S0 C ((x.DU p o.dst).app σ) p ops a w o:=by
 intro K Q hK
 obtain⟨hw,hc⟩:=dr hs.t hg
 rw[hw,if_pos bY]
 unfold fJ at h
 split at h
 ·rename_i f args argTypes ho
  split at h
  ·rename_i fe k' hf
   split at h
   ·rename_i sig lV
    split at h
    ·rename_i ob dw
     split at h
     ·rename_i es O7 pe
      split at h
      ·rename_i wK l kY
       split at h
       ·rename_i iT
        obtain⟨ids,gG⟩: ∃ids,ids=mI σ ob O7:=⟨_,rfl⟩
        rw[←gG]at iT kY h
        obtain⟨fV,ahT,bw,qE,EB,Ad,jC,zX,MA,OF⟩:=iT
        injection h with h;subst h
        have akd: ∀(i:Nat) id,O7[i]? =some id→ids[i]? =some id:=fun i id hi=>by rw[gG];exact Dk hi
        obtain⟨f1,f2,f3⟩:=bg hs.t (pc:=[]) rfl hf
        obtain⟨fl,sZ,KK⟩:=jl.1 f3
        have D8:fl=[] :=bE.1 KK
        subst D8
        obtain⟨Ia,Mf,qM,_⟩:=(sZ▸f2).tW
        have D9:Ia=[] :=List.eq_nil_of_length_eq_zero qM
        subst D9
        have eR:=fb _ _ lV
        obtain⟨q1,q2,q3,q4,q5,q6⟩:=AV kY
        let CJ:Nat→Nat:=fun i=>G.β (ids.getD i 0)
        have yS: ∀(i:Nat) id,ids[i]? =some id→CJ i=G.β id:=fun i id hi=>by show G.β (ids.getD i 0)=_;rw[List.getD_eq_getElem?_getD,hi];rfl
        obtain⟨cZ,Qs⟩:=vL (k:=0) (β:=CJ) hs.t bY pe (fun i id hi=>by rw[Nat.zero_add];exact yS i id (akd i id hi))
        have ME: ∀id∈ids,C.M id:=fun id hi=>by obtain⟨cs,gS⟩:=q4 id hi;exact hs.m.lG _ _ gS
        have Xs:p∉ids:=fun hi=>hp (ME p hi)
        have OE:(l.map (·.1)).Nodup:=by
         unfold nR at bw
         simp only[aw,aN]at bw
         exact bw.2
        let Oo:=oq G l
        let dd:=es.map fun x=>den C.ρ x.1
        let oo:=wK.map fun es=>es.map (den C.ρ)
        have dC:(den C.ρ (.bQ (es.map (·.1)++wK.flatten))).ak=dd++oo.flatten:=by
         rw[dG]
         simp only[D.ak,List.map_append,List.map_map,dd,oo,List.map_flatten]
         rfl
        have LD: ∀(i:Nat) rc cells,ob.ba[i]? =some rc→oo[i]? =some cells→C4 w G.S Oo rc (CJ i) cells:=by
         intro i rc cells hi Rq
         simp only[oo,List.getElem?_map,br]at Rq
         obtain⟨ees,aq6,rfl⟩:=Rq
         have eX:i<ids.length:=by rw[q2];exact(ai.1 hi).1
         have cU:ids[i]? =some ids[i] :=av eX
         obtain⟨ccs,lo,r1,r2,r3⟩:=q6 i rc _ ees hi cU aq6
         obtain⟨b1,b2,dq,b5⟩:=hs.m.box _ _ _ r1
         obtain⟨vs,T,b3,b4⟩:=dq.cells (jf r2)
         obtain⟨k1,k2,k3⟩:=iw (L:=l) hs.m OE r2 b4 r3
         rw[yS i _ cU]
         refine⟨vs,T,b3,k2,by simp[k1],fun j r v d hr hv hd=> ?_,by simpa using b5⟩
         simp only[List.getElem?_map,br]at hd
         obtain⟨e,he,rfl⟩:=hd
         exact k3 j r v e hr hv he
        have gY:C5 w G.S ob CJ Oo (args.toList.map a.eval) dd oo:=by
         refine⟨hs.m.bL,cZ,by simp[oo,q1],LD,?_,?_,?_,?_⟩
         ·intro i j hi hj he
          have h1:ids[i]? =some (ids[i]'(by omega)):=av _
          have h2:ids[j]? =some (ids[j]'(by omega)):=av _
          rw[yS i _ h1,yS j _ h2]at he
          obtain⟨c1,qf⟩:=q4 _ (List.getElem_mem (l:=ids) (n:=i) (by omega))
          obtain⟨c2,wH⟩:=q4 _ (List.getElem_mem (l:=ids) (n:=j) (by omega))
          have:=hs.m.inj _ _ _ _ qf wH he
          exact(List.getElem_inj ahT).1 this
         ·intro j k b hj hk ON F6
          unfold Ob.ia at hj hk
          rw[q3]at hj hk
          exact xu hs.m bw q5 hj hk ON F6
         ·intro j i b hj hi hb he
          unfold Ob.ia at hj
          rw[q3]at hj
          obtain⟨g,OJ,fq⟩:=vj bw hj hb
          obtain⟨z,hz⟩:=q5 _ _ OJ
          have h1:ids[i]? =some (ids[i]'(by omega)):=av _
          obtain⟨c1,qf⟩:=q4 _ (List.getElem_mem (l:=ids) (n:=i) (by omega))
          rw[yS i _ h1]at he
          exact hs.m.cz g _ z _ b hz qf fq he
         ·intro Cn o c rc ho hc
          have lQ:o<ob.ba.length:=(ai.1 ho).1
          have h1:ids[o]? =some (ids[o]'(by omega)):=av _
          have h2:ids[ob.ba.length-1]? =some (ids[ob.ba.length-1]'(by omega)):=av _
          obtain⟨ccs,r1⟩:=q4 _ (List.getElem_mem (l:=ids) (n:=o) (by omega))
          have Ii:CU ob ids=some (ids[ob.ba.length-1]'(by omega)):=by unfold CU;rw[if_pos Cn,h2]
          rw[Ii]at MA
          have tH:=AX MA ho h1 r1
          obtain⟨b1,b2,dq,b5⟩:=hs.m.box _ _ _ r1
          obtain⟨awC,lo,r1',r2,_⟩:=q6 o rc _ _ ho h1 (av (by rw[q1];exact lQ))
          rw[r1]at r1'
          injection r1' with r1'
          simp only[Prod.mk.injEq,true_and]at r1'
          subst r1'
          obtain⟨vs,T,b3,b4⟩:=dq.cells (jf r2)
          obtain⟨k1,k2,_⟩:=iw (L:=l) hs.m OE r2 b4 (fun x hx=>by
           obtain⟨awB,n7,y1,y2,y3⟩:=q6 o rc _ _ ho h1 (av (by rw[q1];exact lQ))
           rw[r1]at y1
           injection y1 with y1
           simp only[Prod.mk.injEq,true_and]at y1
           subst y1
           rw[r2]at y2
           injection y2 with y2
           simp only[Prod.mk.injEq,true_and]at y2
           subst y2
           exact y3 x hx)
          have gz:c<rc.length:=(ai.1 hc).1
          have DT:c<vs.length:=by rw[k2];exact gz
          have m8:c<ccs.length:=by rw[←b4.1];exact DT
          have Mw:=xy tH hc (av m8)
          have hrs:=b4.2 c _ _ (av m8) (av DT)
          rw[Mw]at hrs
          obtain⟨_,wF⟩:=hrs
          rw[yS o _ h1,yS _ _ h2,cell_of_row w _ c _ T (0,0) b3]
          rw[List.getElem?_toArray,av DT,wF]
        have eS:bV (.bQ sig.params) (dd++oo.flatten):=by
         rw[←fV]
         exact rr Qs (G4 (k:=0) (β:=CJ) (by simp[oo,q1]) (fun i rc cells hi gz=>by rw[Nat.zero_add];exact LD i rc cells hi gz))
        obtain⟨_,_,sW,gE⟩:=eC
        have iV:=gE rfl
        rw[dC]at sW iV
        have cM:(execOp a.eval o).run P w= .ok (.enter k' (args.toList.map a.eval).toArray) w:=by
         have e1:(args.toList.map a.eval).toArray=args.map a.eval:=by apply Array.ext';simp
         unfold execOp;simp only[ho,resolve,Mf,Deferred.ofValue,e1]
         have:=eR.enter (args.map a.eval) w
         simpa [invoke]using this
        unfold Oper.wp
        rw[cM]
        have aqJ:ob.wV=false:=by
         rw[Bool.eq_false_iff];intro tF
         unfold Ob.wV at tF
         simp only[aw,List.isEmpty_iff,beq_iff_eq]at tF
         obtain⟨⟨_,h1⟩,h2⟩:=tF
         have h3:=Ad
         rw[h2,zX,h1]at h3
         cases j6:ob.new<;>rw[j6]at h3<;>simp at h3
        refine(eR.Ao ob dw aqJ w G.S CJ Oo _ dd oo gY eS iV).mono ?_
        rintro e' w' ⟨v,S',τ',βn,rfl,gF⟩
        simp only
        rw[←sW]at gF
        obtain⟨d0,outs,hd,lQ,cw,acL⟩:=gF.res
        let SF:Nat:=if ob.new=true∨ob.mv=true then βn else G.β p
        let G':Gh:={S:=S',β:=dp G.β p SF,τ:=fun g=>if g.1=p then τ' g.2 else G.τ g}
        have eJ: ∀j,G'.τ (p,j)=τ' j:=fun j=>if_pos rfl
        have hM:(C.add p).M p:= .inr rfl
        have hvp:(E.var p).lt C.N=true:=by simpa [E.lt]using uF
        have ahM: ∀j,(E.un (.cell j) (.var p)).lt (C.add p).N=true:=fun j=>hvp
        have Xx: ∀i j,(E.un (.cell j) (.un (.cell i) (.var p))).lt (C.add p).N=true:=fun i j=>hvp
        have Rs:den C.ρ (.un (.cell 0) (.var p))=d0:=by simp only[den,U.den,hd,D.ak];rfl
        have Rr: ∀(i:Nat) cells,outs[i]? =some cells→den C.ρ (.un (.cell (1+i)) (.var p))= .agg cells:=by
         intro i cells hi
         simp only[den,U.den,hd,D.ak]
         exact dX (by rw[Nat.add_comm];simp[hi])
        have Qy: ∀id∈ids,G'.β id=G.β id:=fun id hi=>cS _ _ (fun e=>Xs (e▸hi))
        have aaY:ob.new=true→SF=βn:=fun j6=>if_pos (.inl j6)
        have aaX:ob.mv=true→SF=βn:=fun j6=>if_pos (.inr j6)
        have AB:ob.mv=true→(ids[ob.ba.length-1]? =some (ids.getD (ob.ba.length-1) 0)∧ids.getD (ob.ba.length-1) 0∈ids):=by
         intro hm
         have h3:=OF hm
         have h4:ids[ob.ba.length-1]? =some (ids[ob.ba.length-1]'(by omega)):=av _
         have h5:ids.getD (ob.ba.length-1) 0=ids[ob.ba.length-1]'(by omega):=by rw[List.getD_eq_getElem?_getD,h4];rfl
         rw[h5]
         exact⟨h4,List.getElem_mem _⟩
        have aks:ob.mv=true→cG σ.hp (nr.DU ⟨k', .bQ (es.map (·.1)++wK.flatten),sig,ob,ids,l⟩ p o.dst).hp (ids.getD (ob.ba.length-1) 0)=none:=by
         intro hm
         have BW:ids.getD (ob.ba.length-1) 0∉jQ ob ids p:=by
          unfold jQ
          rw[if_pos hm]
          intro hh
          rcases List.mem_append.1 hh with hh|hh
          ·obtain⟨i,hi⟩:=List.getElem?_of_mem hh
           rw[List.getElem?_take]at hi
           split at hi
           ·rename_i eX
            have h6:=(AB hm).1
            have h7:=(ai.1 hi)
            obtain⟨h8,h9⟩:=h7
            obtain⟨Om,TN⟩:=ai.1 h6
            have:=(List.getElem_inj ahT (h₀:=h8) (h₁:=Om)).1 (h9.trans TN.symm)
            omega
           ·cases hi
          ·simp only[List.mem_singleton]at hh
           exact Xs (hh▸(AB hm).2)
         unfold cG nr.DU
         simp only[hm,if_true]
         split
         ·rename_i y hy
          rcases List.mem_append.1 (fF hy) with h7|h7
          ·obtain⟨i,rc,h8,_⟩:=ET h7
           exact absurd (aS h8) BW
          ·simp only[List.mem_singleton,Prod.mk.injEq]at h7
           exact h7.2
         ·rename_i hy
          exact absurd (List.mem_append_right _ (List.mem_singleton.2 rfl)) (nH hy none)
        have Z3: ∀(i:Nat) id rc,(jQ ob ids p)[i]? =some id→ob.outs[i]? =some rc→ ∃cells,outs[i]? =some cells∧C4 w' S' τ' rc (G'.β id) cells∧(id∈ids∨(id=p∧(w.heap.size≤SF∨ ∃DM∈ids,SF=G.β DM∧cG σ.hp (nr.DU ⟨k', .bQ (es.map (·.1)++wK.flatten),sig,ob,ids,l⟩ p o.dst).hp DM=none)))∧iL ob CJ βn i=G'.β id:=by
         intro i id rc hi mB
         have hoi:i<outs.length:=by rw[lQ];exact(ai.1 mB).1
         have Zc:outs[i]? =some outs[i] :=av hoi
         have hko:=acL i rc _ mB Zc
         cases jD:ob.mv with
         |true=>
          have K9:=Ob.Ez jD
          unfold jQ at hi
          rw[jD,if_pos rfl]at hi
          have hle:(ids.take (ob.ba.length-1)).length=ob.ba.length-1:=by rw[List.length_take];omega
          by_cases tP:i<ob.ba.length-1
          ·rw[List.getElem?_append_left (by omega),List.getElem?_take,if_pos tP]at hi
           have Pm:id∈ids:=aS hi
           have e1:iL ob CJ βn i=G'.β id:=by unfold iL;rw[if_pos ⟨by omega,fun h=>by omega⟩,yS i id hi,Qy id Pm]
           exact⟨_,Zc,e1▸hko, .inl Pm,e1⟩
          ·rw[List.getElem?_append_right (by omega)]at hi
           have Wh:i-(ids.take (ob.ba.length-1)).length=0:=by
            have:=(ai.1 hi).1
            simp at this;omega
           rw[Wh]at hi
           simp only[List.getElem?_cons_zero,Option.some.injEq]at hi
           subst hi
           have eX:i=ob.ba.length-1:=by have:=OF jD;omega
           have e1:iL ob CJ βn i=G'.β p:=by
            unfold iL
            rw[if_neg (fun h=>h.2 ⟨jD,eX⟩)]
            show βn=dp G.β p SF p
            rw[ca,aaX jD]
           refine⟨_,Zc,e1▸hko, .inr ⟨rfl,?_⟩,e1⟩
           rw[aaX jD]
           rcases gF.mvd jD with h|h
           ·exact .inr ⟨_,(AB jD).2,h.trans (yS _ _ (AB jD).1),aks jD⟩
           ·exact .inl h
         |false=>
         unfold jQ at hi
         simp only[jD,Bool.false_eq_true,if_false]at hi
         by_cases tP:i<ids.length
         ·rw[List.getElem?_append_left tP]at hi
          have Pm:id∈ids:=aS hi
          have e1:iL ob CJ βn i=G'.β id:=by unfold iL;rw[if_pos ⟨by omega,fun h=>by rw[jD]at h;cases h.1⟩,yS i id hi,Qy id Pm]
          exact⟨_,Zc,e1▸hko, .inl Pm,e1⟩
         ·rw[List.getElem?_append_right (by omega)]at hi
          cases j6:ob.new with
          |false=>rw[j6]at hi;simp at hi
          |true=>
           rw[j6]at hi cw
           simp only[if_true]at hi cw
           have Wh:i-ids.length=0:=by
            have:=(ai.1 hi).1
            simp at this;omega
           rw[Wh]at hi
           simp only[List.getElem?_cons_zero,Option.some.injEq]at hi
           subst hi
           have e1:iL ob CJ βn i=G'.β p:=by
            unfold iL
            rw[if_neg (fun h=>by omega)]
            show βn=dp G.β p SF p
            rw[ca,aaY j6]
           exact⟨_,Zc,e1▸hko, .inr ⟨rfl, .inl (by rw[aaY j6];exact cw.2)⟩,e1⟩
        have Xt:(jQ ob ids p).length=ob.outs.length:=by
         unfold jQ
         cases jD:ob.mv with
         |true=>
          have K9:=Ob.Ez jD
          have:=OF jD
          rw[K9]at Ad
          simp only[if_true,List.length_append,List.length_take,List.length_singleton,Bool.toNat_false]at Ad⊢
          omega
         |false=>
          simp only[Bool.false_eq_true,if_false,List.length_append]
          rw[Ad]
          cases ob.new<;>simp
        have bf: ∀y∈(if ob.new then [] else mP p (.un (.cell 0) (.var p)) sig.res)++xW p 1 ob.outs,xj (C.add p) w' 0 G' p (jk sig ob) y:=by
         intro y hy
         rcases List.mem_append.1 hy with hy|hy
         ·cases j6:ob.new with
          |true=>rw[j6]at hy;simp at hy
          |false=>
           rw[j6]at hy cw
           simp only[Bool.false_eq_true,if_false]at hy cw
           have nk:eN w' 0 G'.S τ' sig.res v (den (C.add p).ρ (.un (.cell 0) (.var p))):=by
            show eN w' 0 S' τ' sig.res v (den C.ρ _)
            rw[Rs];exact cw
           obtain⟨z1,z2,z3⟩:=yh (C:=C.add p) (G:=G') nk hM (ahM _) eJ y hy
           exact⟨z1,List.mem_append_left _ z2,z3⟩
         ·obtain⟨i,rc,mB,hy⟩:=Dh hy
          obtain⟨j,r,hr,hy⟩:=nY _ _ _ _ _ hy
          have eX:i<(jQ ob ids p).length:=by
           rw[Xt];exact(ai.1 mB).1
          obtain⟨cells,gz,⟨fW,T,_,v2,v3,v4,_⟩,_,_⟩:=Z3 i _ rc (av eX) mB
          have jh:j<rc.length:=(ai.1 hr).1
          have hdj:cells[j]? =some (cells[j]'(by omega)):=av _
          have:=v4 j r _ _ hr (av (by omega)) hdj
          refine rz (C:=C.add p) (G:=G') (idx:=jk sig ob) this hM (Xx _ _) ?_ eJ (fun j0 T0 hj0=> ?_) y hy
          ·show den C.ρ (.un (.cell (0+j)) (.un (.cell (1+i)) (.var p)))=_
           have e2:den C.ρ (.un (.cell (0+j)) (.un (.cell (1+i)) (.var p)))=(U.cell (0+j)).den (den C.ρ (.un (.cell (1+i)) (.var p))):=rfl
           rw[e2,Rr i _ gz]
           simp only[U.den,D.ak,Nat.zero_add]
           exact dX hdj
          ·unfold jk
           refine List.mem_append_right _ (List.mem_flatMap.2 ⟨rc,aS mB,?_⟩)
           unfold Gq
           exact List.mem_filterMap.2 ⟨r,aS hr,by rw[hj0];rfl⟩
        let kill:List Tag:=l.filterMap (·.2)
        have acM: ∀g:Tag,((g,none):Tag×Option (E×TypeId×Ty))∈(l.filterMap fun y=>y.2.map fun g=>((g,none):Tag×Option (E×TypeId×Ty)))↔g∈kill:=by
         intro g
         simp only[List.mem_filterMap,kill]
         constructor
         ·rintro⟨y,hy,wM⟩
          cases hy3:y.2 with
          |none=>rw[hy3]at wM;cases wM
          |some g'=>rw[hy3]at wM;simp at wM;subst wM;exact⟨y,hy,hy3⟩
         ·rintro⟨y,hy,wM⟩
          exact⟨y,hy,by rw[wM];rfl⟩
        have acN: ∀g z,(g,some z)∉(l.filterMap fun y=>y.2.map fun g=>((g,none):Tag×Option (E×TypeId×Ty))):=by
         intro g z hm
         simp only[List.mem_filterMap]at hm
         obtain⟨y,_,wM⟩:=hm
         cases hy3:y.2 with
         |none=>rw[hy3]at wM;cases wM
         |some g'=>rw[hy3]at wM;simp at wM
        have akn: ∀g∈kill,∃j,(j,some g)∈l:=by
         intro g hg
         simp only[kill,List.mem_filterMap]at hg
         obtain⟨⟨j,y⟩,hy,wM⟩:=hg
         simp only at wM
         subst wM
         exact⟨j,hy⟩
        let DU:fD:=nr.DU ⟨k', .bQ (es.map (·.1)++wK.flatten),sig,ob,ids,l⟩ p o.dst
        have ED: ∀g z,cG σ.live DU.live g=some z→(g.1≠p∧g∉kill∧σ.live g=some z)∨xj (C.add p) w' 0 G' p (jk sig ob) (g,some z):=by
         intro g z hz
         unfold cG at hz
         split at hz
         ·rename_i y hy
          subst hz
          have jH:=fF hy
          have Xv:(g,some z)∈(l.filterMap fun y=>y.2.map fun g=>((g,none):Tag×Option (E×TypeId×Ty)))++(if ob.new then [] else mP p (.un (.cell 0) (.var p)) sig.res)++xW p 1 ob.outs:=jH
          rw[List.append_assoc]at Xv
          rcases List.mem_append.1 Xv with hm|hm
          ·exact absurd hm (acN g z)
          ·exact .inr (bf _ hm)
         ·rename_i hy
          refine .inl ⟨fun e=>hp (e▸(hs.m.own g z.1 z.2.1 z.2.2 hz).m),fun hk=> ?_,hz⟩
          refine nH hy none ?_
          show(g,none)∈(l.filterMap fun y=>y.2.map fun g=>((g,none):Tag×Option (E×TypeId×Ty)))++(if ob.new then [] else mP p (.un (.cell 0) (.var p)) sig.res)++xW p 1 ob.outs
          rw[List.append_assoc]
          exact List.mem_append_left _ ((acM g).2 hk)
        have ahU: ∀id z,cG σ.hp DU.hp id=some z→(id∉ids∧id≠p∧σ.hp id=some z)∨ ∃(i:Nat) (rc:List aA),(jQ ob ids p)[i]? =some id∧ob.outs[i]? =some rc∧z=(false,tQ (CS ob ids p) rc (jW true p (.un (.cell (1+i)) (.var p)) 0 rc)):=by
         intro id z hz
         unfold cG at hz
         split at hz
         ·rename_i y hy
          subst hz
          rcases List.mem_append.1 (fF hy) with kU|kU
          ·obtain⟨i,rc,h1,h2,h3⟩:=ET kU
           injection h3 with h3
           exact .inr ⟨i,rc,h1,h2,h3⟩
          ·split at kU<;>simp at kU
         ·rename_i hy
          have wM:=nH hy
          have hni:id∉jQ ob ids p:=by
           refine G5 (p:=p) (lkk:=CS ob ids p) (k:=1) (ids:=jQ ob ids p) (rcs:=ob.outs) ?_ (by rw[Xt];exact Nat.le_refl _)
           cases hq:lk (Tn (CS ob ids p) p 1 (jQ ob ids p) ob.outs) id with
           |none=>rfl
           |some v=>exact absurd (List.mem_append_left _ (fF hq)) (wM v)
          refine .inl ⟨fun hi=> ?_,?_,hz⟩
          ·unfold jQ at hni
           cases jD:ob.mv with
           |false=>
            simp only[jD,Bool.false_eq_true,if_false]at hni
            exact hni (List.mem_append_left _ hi)
           |true=>
            simp only[jD,if_true]at hni
            have h3:=OF jD
            obtain⟨i,eX,KI⟩:=List.getElem_of_mem hi
            by_cases tP:i<ob.ba.length-1
            ·refine hni (List.mem_append_left _ (aS (i:=i) ?_))
             rw[List.getElem?_take,if_pos tP,av eX,KI]
            ·have qm:i=ob.ba.length-1:=by omega
             have h6:=(AB jD).1
             rw[←qm,av eX,KI]at h6
             injection h6 with h6
             refine wM none (List.mem_append_right _ ?_)
             simp only[jD,if_true,List.mem_singleton,Prod.mk.injEq,and_true]
             rw[h6,qm]
          rintro rfl
          exact hp (hs.m.lG _ _ hz)
        have aki: ∀j id y z b,cG σ.live DU.live (p,j)=some y→cG σ.hp DU.hp id=some z→(id∈ids∨id=p)→(τ' j).ownBlock=some b→b≠G'.β id:=by
         intro j id y z b hy hz cU hb
         rcases ED _ _ hy with⟨h1,_⟩|zk
         ·exact absurd rfl h1
         ·rcases ahU id z hz with⟨h1,h2,_⟩|⟨i,rc,h1,h2,_⟩
          ·rcases cU with cU|cU
           ·exact absurd cU h1
           ·exact absurd cU h2
          ·obtain⟨cells,_,_,_,he⟩:=Z3 i id rc h1 h2
           rw[←he]
           exact gF.cz j i b zk.2.1 (ai.1 h2).1 hb
        obtain⟨aU,hm⟩:=hs.m.UW hp (τ':=τ') (βn:=SF) (ids:=ids) (kill:=kill) (mu:=tI ob CJ Oo) gF.below
         (by
          rintro b (⟨i,hi,rfl⟩|⟨j,hj,hb⟩)
          ·have h1:ids[i]? =some (ids[i]'(by omega)):=av _
           exact .inl ⟨_,List.getElem_mem (l:=ids) (n:=i) (by omega),yS i _ h1⟩
          ·unfold Ob.ia at hj
           rw[q3]at hj
           obtain⟨g,OJ,fq⟩:=vj bw hj hb
           exact .inr ⟨g,List.mem_filterMap.2 ⟨_,OJ,rfl⟩,fq⟩)
         q4 (fun g hg=>by obtain⟨j,hj⟩:=akn g hg;exact q5 j g hj) gF.gV gF.lt gF.new gF.keep (cG σ.hp DU.hp) (cG σ.live DU.live) G' rfl
         (by
          intro id z hz
          rcases ahU id z hz with h1|⟨i,rc,h1,h2,rfl⟩
          ·exact .inl h1
          ·obtain⟨cells,gz,⟨fW,T,v1,v2,v3,v4,v5⟩,cU,CQ⟩:=Z3 i id rc h1 h2
           refine .inr ⟨rfl,cU,?_,ij.mk (vs:=fW) (T:=T) v1 ⟨?_,?_⟩,v5⟩
           ·rw[aV]
            intro c H9
            obtain⟨j,hj⟩:=List.getElem?_of_mem H9
            obtain⟨c0,hj,dR⟩:=rf hj
            rcases dR with rfl|⟨_,_,_,rfl⟩
            rotate_left
            ·rfl
            rw[nJ]at hj
            simp only[br]at hj
            obtain⟨r,hr,rfl⟩:=hj
            have:=aV.1 (aV.1 jC rc (aS h2)) r (aS hr)
            obtain⟨t,_|⟨j0,T0⟩⟩:=r
            ·exact this
            ·cases Mg:Ca j0<;>simp[mO,Mg,SC.scalar]
           ·show _=(tQ _ _ _).length
            rw[Ba,rv,v2]
           ·intro j c u hj hu
            obtain⟨c0,hj,dR⟩:=rf hj
            rcases dR with rfl|⟨N8,m9,hrj,rfl⟩
            rotate_left
            ·by_cases jD:ob.mv=true
             ·unfold CS at m9
              rw[if_pos jD]at m9
              injection m9 with m9
              subst m9
              have Mc:=gF.link (OF jD) i j rc h2 hrj
              rw[CQ,cell_of_row w' _ j _ T (0,0) v1,List.getElem?_toArray,hu]at Mc
              injection Mc with Mc
              refine⟨hM,?_⟩
              rw[Mc]
              unfold iL
              rw[if_neg (fun h=>h.2 ⟨jD,rfl⟩)]
              show _=Value.pointer (some ⟨dp G.β p SF p,0,none⟩)
              rw[ca,aaX jD]
             unfold CS at m9
             rw[if_neg jD]at m9
             have Cn:eZ ob.shape<ob.ba.length:=by
              unfold CU at m9
              split at m9
              ·assumption
              ·cases m9
             have ahN:ids[ob.ba.length-1]? =some N8:=by
              unfold CU at m9
              rw[if_pos Cn]at m9
              exact m9
             have hm2:N8∈ids:=aS ahN
             have Mc:=gF.link Cn i j rc h2 hrj
             rw[CQ,cell_of_row w' _ j _ T (0,0) v1,List.getElem?_toArray,hu]at Mc
             injection Mc with Mc
             refine⟨.inl (ME N8 hm2),?_⟩
             unfold iL at Mc
             rw[if_pos ⟨by omega,fun h=>jD h.1⟩]at Mc
             rw[Mc,yS _ _ ahN,Qy N8 hm2]
            rw[nJ]at hj
            simp only[br]at hj
            obtain⟨r,hr,rfl⟩:=hj
            have jh:j<rc.length:=(ai.1 hr).1
            have hdj:cells[j]? =some (cells[j]'(by omega)):=av _
            refine sr (C:=C.add p) (G:=G') (v4 j r u _ hr hu hdj) hM (Xx _ _) ?_ eJ true
            show den C.ρ (.un (.cell (0+j)) (.un (.cell (1+i)) (.var p)))=_
            have e2:den C.ρ (.un (.cell (0+j)) (.un (.cell (1+i)) (.var p)))=(U.cell (0+j)).den (den C.ρ (.un (.cell (1+i)) (.var p))):=rfl
            rw[e2,Rr i _ gz]
            simp only[U.den,D.ak,Nat.zero_add]
            exact dX hdj)
         (by
          intro g z hz
          rcases ED g z hz with h1|zk
          ·exact .inl h1
          ·obtain⟨z1,z2,e,T,t,z3,z4⟩:=zk
           injection z3 with z3;subst z3
           exact .inr ⟨z1,z4,fun b hb=>gF.dM g.2 b z2 hb⟩)
         (by
          intro j k y z b hy hz tH tG
          rcases ED _ _ hy with⟨h1,_⟩|wN
          ·exact absurd rfl h1
          ·rcases ED _ _ hz with⟨h1,_⟩|nL
           ·exact absurd rfl h1
           ·exact gF.own j k b wN.2.1 nL.2.1 tH tG)
         aki nK jg
        refine hK _ _ _ (hs.step (o:=o) (e:=DU) aU (hm.congr rfl rfl) rfl aL (by intro x hx;cases hx) ?_ cp)
        intro _
        rw[if_pos (show aq C.ρ DU.uz.1=true from rfl)]
        show wQ (C.add p) w' G' (if ob.new then .one (.pa p 0) else tU true p (.un (.cell 0) (.var p)) sig.res) v
        cases j6:ob.new with
        |true=>
         rw[j6]at cw
         simp only[if_true]at cw⊢
         refine⟨hM,?_⟩
         rw[cw.1]
         show _=Value.pointer (some ⟨dp G.β p SF p,0,none⟩)
         rw[ca,aaY j6]
        |false=>
         rw[j6]at cw
         simp only[Bool.false_eq_true,if_false]at cw⊢
         have nk:eN w' 0 G'.S τ' sig.res v (den (C.add p).ρ (.un (.cell 0) (.var p))):=by
          show eN w' 0 S' τ' sig.res v (den C.ρ _)
          rw[Rs];exact cw
         exact Db (C:=C.add p) (G:=G') nk hM (ahM _) eJ true
       ·cases h
      ·cases h
     ·cases h
    ·cases h
   ·cases h
  ·cases h
 ·cases h
end
section
variable{P:Program}(w:World)
theorem zb(t ty e:TypeId)(i:TypeInfo)(z:Value)(size:Nat)(ht:P.underlying t=some (.slice e))(hi:P.info? e=some i)(hz:i.zero=some z)
  (K4:i.size=size) (sX:z.cells.size=size) (ad:Addr) (n:Nat) (xs:List Value) (mZ:xs.length=n*size) (holds: ∀(j:Nat) v,xs[j]? =some v→w.cell? (ad.add j)=some v)
  (A:Option Addr) (m c:Nat) (news:List Value) (hA:A=none→m=0) (hl:news.length=m*size)
  (qJ: ∀a,A=some a→ ∀(j:Nat) u,news[j]? =some u→w.cell? (a.add j)=some u) (hm:0<m)
  (h63:n+m≤maxLen) (EF:(n+m)*i.bytes≤140737488355328):
  ∃v' w',(Builtin.append_ #[t,t] ty #[.slice (some ad) n n, .slice A m c]).run P w= .ok v' w'∧w'.ownsRow 0 e size v' (n+m) (xs++news)∧v'.ownBlock=some w.heap.size∧w.grownBy w' none:=by
 subst K4
 have Ax:n+m≤9223372036854775807:=by simp only[maxLen]at h63;omega
 have hlen:(xs++news).length=(n+m)*i.size:=by rw[List.length_append,mZ,hl,Nat.add_mul]
 obtain⟨a,rfl⟩: ∃a,A=some a:=by
  cases A with
  |none=>have:=hA rfl;omega
  |some a=>exact⟨a,rfl⟩
 have hr:=run_append_grow (P:=P) w t ty e i z ht hi hz ad n n xs mZ holds a m c news hl (qJ a rfl) (by omega) (by omega) (growslice_fits (by omega) EF)
 have lR:=grownCap_ge w (n+m) n e
 have H9:grownCap w (n+m) n e≤maxLen:=grownCap_le_maxLen w (n+m) n e h63
 refine⟨_,_,hr,⟨hlen, .inr ⟨w.heap.size,_,_,rfl,Nat.zero_le _,heap_alloc_new w.drew _,lR,H9,?_,?_⟩⟩,rfl,⟨rfl,rfl,rfl,by simp,fun k hk _=>heap_alloc_old w.drew _ k hk⟩⟩
 ·simp only[Array.size_append,List.size_toArray,size_zeroCells,sX,mZ,hl,←Nat.add_mul]
  congr 1
  omega
 ·simp only[Array.toList_append,List.append_assoc]
  rw[←List.append_assoc,←hlen]
  exact List.take_left
end
end Go.bZ
