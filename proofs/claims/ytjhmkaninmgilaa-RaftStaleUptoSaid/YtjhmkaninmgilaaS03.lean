/- Part 3 of the proof of RaftStale; no condition. -/
import Derived.Test.YtjhmkaninmgilaaS02
import Derived.Deep.LoopGhost
import Derived.Sort.LoopGhostIn
import Derived.RangeFuncNested
import Derived.OrdersIn
set_option linter.unusedVariables false
set_option linter.unusedSimpArgs false
set_option maxHeartbeats 4000000
namespace Go.bZ
open Go Go.RowKit
inductive qG (P:Program) (cs:lD) (ops:Array Oper) (p0 N:Nat):List (Nat×fD)→St→St→Prop
 |nil (σ:St):qG P cs ops p0 N [] σ σ
 |cons {i:Nat} {o:Oper} {e:fD} {r:List (Nat×fD)} {σ σ':St} (ho:ops[i]? =some o) (he: ∃d,iO d P cs ops σ (p0+i) o=some e) (aL:e.uz.2.lt N=true) (hr:qG P cs ops p0 N r (e.app σ) σ'):
  qG P cs ops p0 N ((i,e)::r) σ σ'
section
variable{P:Program}{cs:lD}{ops:Array Oper}{p0 N:Nat}
def indep(ops:Array Oper)(x y:Nat×fD):Bool:=
 (match ops[x.1]?,ops[y.1]? with
  |some ox,some oy=>ox.apart ops oy
  |_,_=>false)&&
 (x.2.dst==((ops[x.1]?).bind (·.dst)))&&(y.2.dst==((ops[y.1]?).bind (·.dst)))&&
 (x.2.hp.all fun a=>(y.2.hp.all fun b=>a.1 !=b.1)&&y.2.rd.all fun b=>a.1 !=b)&&(y.2.hp.all fun b=>x.2.rd.all fun a=>b.1 !=a)&&
 (x.2.live.all fun a=>y.2.live.all fun b=>a.1 !=b.1)
theorem Bm{α β:Type}[DecidableEq α](h:α→β)(l m:List (α×β))(hd: ∀a∈l,∀b∈m,a.1≠b.1):cG (cG h l) m=cG (cG h m) l:=by
 funext x
 unfold cG
 cases h1:lk m x with
 |none=>cases h2:lk l x<;>rfl
 |some v=>
  cases h2:lk l x with
  |none=>rfl
  |some u=>exact absurd rfl (hd (x,u) (fF h2) (x,v) (fF h1))
theorem pG{α β:Type}[DecidableEq α](h:α→β)(l:List (α×β))(x:α)(hd: ∀a∈l,a.1≠x):cG h l x=h x:=by
 unfold cG
 cases h1:lk l x with
 |none=>rfl
 |some v=>exact absurd rfl (hd _ (fF h1))
theorem qG.swap{x y:Nat×fD}{r:List (Nat×fD)}{σ σ':St}(hi:indep ops x y=true)(h:qG P cs ops p0 N (x::y::r) σ σ'):qG P cs ops p0 N (y::x::r) σ σ':=by
 obtain⟨i,ex⟩:=x
 obtain⟨j,ey⟩:=y
 cases h with
 |cons hox hex aqL hr=>
  cases hr with
  |cons hoy hey aqK hr=>
   rename_i ox oy
   unfold indep at hi
   simp only[hox,hoy,Option.bind_some,aw,beq_iff_eq]at hi
   obtain⟨⟨⟨⟨⟨hap,hdx⟩,hdy⟩,qn⟩,aq2⟩,zk⟩:=hi
   obtain⟨a1,a2,a3⟩:=Oper.apart_spec hap
   have D7: ∀a∈ex.hp,(∀b∈ey.hp,a.1≠b.1)∧ ∀b∈ey.rd,a.1≠b:=by
    intro a ha
    have:=aV.1 qn a ha
    simp only[aw,aV,bne_iff_ne]at this
    exact this
   have akr: ∀b∈ey.hp,∀a∈ex.rd,b.1≠a:=by
    intro b hb a ha
    have:=aV.1 (aV.1 aq2 b hb) a ha
    simpa using this
   have aaP: ∀a∈ex.live,∀b∈ey.live,a.1≠b.1:=by
    intro a ha b hb
    have:=aV.1 (aV.1 zk a ha) b hb
    simpa using this
   have tmx: ∀t,t∈oy.looksAt ops→(ex.app σ).tm t=σ.tm t:=by
    intro t ht
    unfold fD.app
    rw[hdx]
    cases hd:ox.dst with
    |none=>rfl
    |some d=>exact cS _ _ (fun e=>a1 d hd (e▸ht))
   have tmy: ∀t,t∈ox.looksAt ops→(ey.app σ).tm t=σ.tm t:=by
    intro t ht
    unfold fD.app
    rw[hdy]
    cases hd:oy.dst with
    |none=>rfl
    |some d=>exact cS _ _ (fun e=>a3 d hd (e▸ht))
   obtain⟨dy,hey⟩:=hey
   obtain⟨dx,hex⟩:=hex
   have hy:iO dy P cs ops σ (p0+j) oy=some ey:=wv hey (fun t ht=>(tmx t ht).symm)
    (fun id cU=>(pG _ _ _ (fun a ha=>(D7 a ha).2 id cU)).symm) (fun z hz=>(pG _ _ _ (fun a ha=>aaP a ha z hz)).symm)
   have hx:iO dx P cs ops (ey.app σ) (p0+i) ox=some ex:=wv hex tmy
    (fun id cU=>pG _ _ _ (fun b hb=>akr b hb id cU)) (fun z hz=>pG _ _ _ (fun b hb=>(aaP z hz b hb).symm))
   have akB:ex.app (ey.app σ)=ey.app (ex.app σ):=by
    unfold fD.app
    rw[hdx,hdy]
    simp only[St.mk.injEq]
    refine⟨?_,Bm _ _ _ (fun b hb a ha=>((D7 a ha).1 b hb).symm),Bm _ _ _ (fun b hb a ha=>(aaP a ha b hb).symm)⟩
    cases hd:ox.dst with
    |none=>rfl
    |some d=>
     cases gZ:oy.dst with
     |none=>rfl
     |some d'=>
      have dH:d≠d':=fun e=>a2 d hd (e▸gZ)
      funext t
      simp only[dp]
      by_cases h1:t=d
      ·subst h1;simp[dH]
      ·simp[h1]
   exact .cons hoy ⟨dy,hy⟩ aqK (.cons hox ⟨dx,hx⟩ aqL (akB▸hr))
theorem qG.pull{x:Nat×fD}: ∀{l r:List (Nat×fD)} {σ σ':St},(∀y∈l,indep ops y x=true)→qG P cs ops p0 N (l++x::r) σ σ'→qG P cs ops p0 N (x::(l++r)) σ σ'
 | [],_,_,_,_,h=>h
 |y::l,r,σ,σ',hi,h=>by
  cases h with
  |cons ho he aL hr=>
   have ih:=qG.pull (l:=l) (fun z hz=>hi z (List.mem_cons_of_mem _ hz)) hr
   exact qG.swap (hi _ (List.mem_cons_self ..)) (.cons ho he aL ih)
variable{C:Cx}{G:Gh}{w w0:World}{S0:ew}{σ:St}{a:Act}{n:Nat}{Φ:Nat→List D→D}{Pre:Nat→List D→Prop}
theorem bO.K2(C:Cx)(w:World)(G:Gh){M':Nat→Prop}(h: ∀i,C.M i→M' i):bO C w G {C with M:=M'} w G:=
 ⟨fun _ h=>⟨rfl,h⟩,h,fun _ _ h=>h,fun _ _ _=>rfl,fun _ _=>rfl,fun _ _=>rfl⟩
theorem cJ.fm{C':Cx}(h:cJ w0 S0 C G σ w)(aU:bO C w G C' w G):cJ w0 S0 C' G σ w where
 below:=h.below
 ic:=h.ic
 keep:=h.keep
 pd i b hi:=⟨aU.M _ (h.pd i b hi).1,(h.pd i b hi).2⟩
 jK:=h.jK
 bL:=h.bL
 eP:=h.eP
 lG id x hx:=aU.M _ (h.lG id x hx)
 box id ro cs hx:=by
  obtain⟨h1,h2,h3,h5⟩:=h.box id ro cs hx
  exact⟨h1,h2,h3.later aU rfl,h5⟩
 inj:=h.inj
 own g e T t hx:=(h.own g e T t hx).later aU (fun _ _=>rfl) (fun _ _ _ h=>h)
 dM:=h.dM
 gP:=h.gP
 cz:=h.cz
 fresh:=h.fresh
 wz:=h.wz
theorem er.fm{C':Cx}(h:er n w0 S0 C G σ a w)(aU:bO C w G C' w G):er n w0 S0 C' G σ a w:=
 ⟨h.m.fm aU,h.t.later aU,h.sz,h.defers⟩
structure nq(P:Program)(cs:lD)(ops:Array Oper)(p0 n:Nat)(S0:ew)(C:Cx)(Φ:Nat→List D→D)(Pre:Nat→List D→Prop)(r:List (Nat×fD)):Prop where
 con: ∀k sig,lk cs.l k=some sig→ax P k sig (Pre k) (Φ k)
 items: ∀x∈r,∀it∈x.2.items,ct C Φ Pre it
 pos: ∀x∈r,p0+x.1<C.N
 dst: ∀(i:Nat) o d,ops[i]? =some o→o.dst=some d→d<n
 fr:IZ P cs S0 Φ Pre
theorem nq.tail{x:Nat×fD}{r:List (Nat×fD)}(h:nq P cs ops p0 n S0 C Φ Pre (x::r)):nq P cs ops p0 n S0 C Φ Pre r:=
 ⟨h.con,fun y hy=>h.items y (List.mem_cons_of_mem _ hy),fun y hy=>h.pos y (List.mem_cons_of_mem _ hy),h.dst,h.fr⟩
theorem ct.add{p:Nat}{it:Item}(h:ct C Φ Pre it):ct (C.add p) Φ Pre it:=by cases it<;>exact h
theorem nq.add{p:Nat}{r:List (Nat×fD)}(h:nq P cs ops p0 n S0 C Φ Pre r):nq P cs ops p0 n S0 (C.add p) Φ Pre r:=
 ⟨h.con,fun x hx it eC=>(h.items x hx it eC).add,h.pos,h.dst,h.fr⟩
theorem Bi{Q:Exit→Act→World→Prop}: ∀{r:List (Nat×fD)} {σ σ':St} {C:Cx} {G:Gh} {a:Act} {w:World},qG P cs ops p0 C.N r σ σ'→nq P cs ops p0 n S0 C Φ Pre r→er n w0 S0 C G σ a w→
  (r.map (·.1)).Nodup→(∀x∈r,¬C.M (p0+x.1))→
  (∀a' w' G' M',(∀i,M' i→C.M i∨ ∃x∈r,i=p0+x.1)→er n w0 S0 {C with M:=M'} G' σ' a' w'→Q .normal a' w')→wpOps P ops Q (r.map (·.1)) a w
 | [],σ,σ',C,G,a,w,h,_,hs,_,_,hQ=>by
  cases h
  exact hQ a w G C.M (fun i hi=> .inl hi) hs
 |(i,e)::r,σ,σ',C,G,a,w,h,bM,hs,qq,hM,hQ=>by
  cases h with
  |cons ho he aL hr=>
   rename_i o
   simp only[List.map_cons,List.nodup_cons]at qq
   have hp: ¬C.M (p0+i):=hM (i,e) (List.mem_cons_self ..)
   have xY:=xD hs he.choose_spec hp (bM.pos (i,e) (List.mem_cons_self ..)) bM.con aL (bM.items (i,e) (List.mem_cons_self ..)) (fun d hd=>bM.dst i o d ho hd) bM.fr
   have fO: ∀a' w' G',er n w0 S0 (C.add (p0+i)) G' (e.app σ) a' w'→wpOps P ops Q (r.map (·.1)) a' w':=by
    intro a' w' G' sY
    refine Bi (C:=C.add (p0+i)) hr bM.tail.add sY qq.2 ?_ ?_
    ·rintro x hx (hm|hm)
     ·exact hM x (List.mem_cons_of_mem _ hx) hm
     ·have:x.1=i:=by omega
      exact qq.1 (List.mem_map.2 ⟨x,hx,this⟩)
    ·intro a'' yG Ws M' Zl Pb
     refine hQ a'' yG Ws M' (fun j hj=> ?_) Pb
     rcases Zl j hj with(h1|h1)|⟨x,hx,h1⟩
     ·exact .inl h1
     ·exact .inr ⟨(i,e),List.mem_cons_self ..,h1⟩
     ·exact .inr ⟨x,List.mem_cons_of_mem _ hx,h1⟩
   have ni:=xY (wpOps P ops Q (r.map (·.1))) Q fO
   simp only[List.map_cons,wpOps,ho]
   split
   ·rename_i hw;rw[if_pos hw]at ni;exact .inl ni
   ·rename_i hw;rw[if_neg hw]at ni;exact ni
theorem je{Q:Exit→Act→World→Prop}(rest:List Nat): ∀{r:List (Nat×fD)} {σ σ':St} {C:Cx} {G:Gh} {a:Act} {w:World},qG P cs ops p0 C.N r σ σ'→nq P cs ops p0 n S0 C Φ Pre r→er n w0 S0 C G σ a w→
  (r.map (·.1)).Nodup→(∀x∈r,¬C.M (p0+x.1))→
  (∀a' w' G' M',(∀i,M' i→C.M i∨ ∃x∈r,i=p0+x.1)→er n w0 S0 {C with M:=M'} G' σ' a' w'→wpOps P ops Q rest a' w')→wpOps P ops Q (r.map (·.1)++rest) a w
 | [],σ,σ',C,G,a,w,h,_,hs,_,_,hQ=>by
  cases h
  exact hQ a w G C.M (fun i hi=> .inl hi) hs
 |(i,e)::r,σ,σ',C,G,a,w,h,bM,hs,qq,hM,hQ=>by
  cases h with
  |cons ho he aL hr=>
   rename_i o
   simp only[List.map_cons,List.nodup_cons]at qq
   have hp: ¬C.M (p0+i):=hM (i,e) (List.mem_cons_self ..)
   have xY:=xD hs he.choose_spec hp (bM.pos (i,e) (List.mem_cons_self ..)) bM.con aL (bM.items (i,e) (List.mem_cons_self ..)) (fun d hd=>bM.dst i o d ho hd) bM.fr
   have fO: ∀a' w' G',er n w0 S0 (C.add (p0+i)) G' (e.app σ) a' w'→wpOps P ops Q (r.map (·.1)++rest) a' w':=by
    intro a' w' G' sY
    refine je rest (C:=C.add (p0+i)) hr bM.tail.add sY qq.2 ?_ ?_
    ·rintro x hx (hm|hm)
     ·exact hM x (List.mem_cons_of_mem _ hx) hm
     ·have:x.1=i:=by omega
      exact qq.1 (List.mem_map.2 ⟨x,hx,this⟩)
    ·intro a'' yG Ws M' Zl Pb
     refine hQ a'' yG Ws M' (fun j hj=> ?_) Pb
     rcases Zl j hj with(h1|h1)|⟨x,hx,h1⟩
     ·exact .inl h1
     ·exact .inr ⟨(i,e),List.mem_cons_self ..,h1⟩
     ·exact .inr ⟨x,List.mem_cons_of_mem _ hx,h1⟩
   have ni:=xY (wpOps P ops Q (r.map (·.1)++rest)) Q fO
   simp only[List.map_cons,List.cons_append,wpOps,ho]
   split
   ·rename_i hw;rw[if_pos hw]at ni;exact .inl ni
   ·rename_i hw;rw[if_neg hw]at ni;exact ni
def fwd(ops:Array Oper)(i:Nat):Nat→Nat→List Nat→List Nat
 |0,_,acc=>acc
 |n+1,j,acc=>match ops[j]? with
  |some o=>if o.after.any fun e=>Region.binds .any e&&(e.on==i||acc.contains e.on) then fwd ops i n (j+1) (j::acc) else fwd ops i n (j+1) acc
  |none=>acc
def Ud(ops:Array Oper)(_:Nat)(i j:Nat):Bool:=(fwd ops i (ops.size-i) i []).contains j
def pA(ops:Array Oper):List (Nat×fD)→Bool
 | [] =>true
 |x::r=>(r.all fun y=>indep ops x y||Ud ops ops.size x.1 y.1)&&pA ops r
def xk(ops:Array Oper)(aP:Array Bool):Prop:=
 ∀(j:Nat) o,ops[j]? =some o→aP.getD j false=true→ ∀e∈o.after,Region.binds .any e=true→aP.getD e.on false=true
theorem ug{i:Nat}: ∀(n j:Nat) (acc:List Nat),(∀k∈acc,∀aP:Array Bool,xk ops aP→(∀o,ops[k]? =some o→ ∀e∈o.after,Region.binds .any e=true→aP.getD e.on false=true)→aP.getD i false=true)→
  ∀k∈fwd ops i n j acc,∀aP:Array Bool,xk ops aP→(∀o,ops[k]? =some o→ ∀e∈o.after,Region.binds .any e=true→aP.getD e.on false=true)→aP.getD i false=true
 |0,_,_,h=>h
 |n+1,j,acc,h=>by
  unfold fwd
  split
  ·rename_i o ho
   split
   ·rename_i hc
    refine ug n (j+1) (j::acc) ?_
    intro k hk
    rcases List.mem_cons.1 hk with rfl|hk
    ·intro aP gz gE
     obtain⟨e,he,hb⟩:=Array.any_eq_true'.1 hc
     simp only[aw,Bool.or_eq_true,beq_iff_eq]at hb
     obtain⟨tH,tG⟩:=hb
     have hl:=gE o ho e he tH
     rcases tG with rfl|tG
     ·exact hl
     ·exact h e.on (by simpa using tG) aP gz (fun o' B4 e' F4 fu=>gz e.on o' B4 hl e' F4 fu)
    ·exact h k hk
   ·exact ug n (j+1) acc h
  ·exact h
theorem J6{aP:Array Bool}(gz:xk ops aP)(f i j:Nat)(h:Ud ops f i j=true)(gE: ∀o,ops[j]? =some o→ ∀e∈o.after,Region.binds .any e=true→aP.getD e.on false=true):aP.getD i false=true:=
 ug _ _ [] (by simp) j (by simpa [Ud]using h) aP gz gE
theorem yv: ∀{l r:List (Nat×fD)} {x:Nat×fD},pA ops (l++x::r)=true→ ∀y∈l,indep ops y x=true∨Ud ops ops.size y.1 x.1=true
 | [],_,_,_,y,hy=>by simp at hy
 |z::l,r,x,h,y,hy=>by
  simp only[List.cons_append,pA,aw]at h
  rcases List.mem_cons.1 hy with rfl|hy
  ·have:=aV.1 h.1 x (by simp)
   simpa using this
  ·exact yv h.2 y hy
theorem yw: ∀{l r:List (Nat×fD)} {x:Nat×fD},pA ops (l++x::r)=true→pA ops (l++r)=true
 | [],r,x,h=>by simp only[List.nil_append,pA,aw]at h;exact h.2
 |z::l,r,x,h=>by
  simp only[List.cons_append,pA,aw]at h⊢
  refine⟨?_,yw h.2⟩
  rw[aV]at h⊢
  intro y hy
  exact h.1 y (by rcases List.mem_append.1 hy with h|h<;>simp[h])
theorem JK{Q:Exit→Act→World→Prop}: ∀(fuel:Nat) {r:List (Nat×fD)} {σ σ':St} {C:Cx} {G:Gh} {a:Act} {w:World} {aP:Array Bool},qG P cs ops p0 C.N r σ σ'→nq P cs ops p0 n S0 C Φ Pre r→er n w0 S0 C G σ a w→
  (r.map (·.1)).Nodup→(∀x∈r,¬C.M (p0+x.1))→pA ops r=true→aP.size=ops.size→xk ops aP→r.length≤fuel→(∀i,i<ops.size→(aP.getD i false=false↔i∈r.map (·.1)))→
  (∀x∈r,x.1<ops.size)→(r≠ [] →Region.ready .any ops aP≠ [])→
  (∀(zw:Array Bool) (r':List (Nat×fD)),zw.size=ops.size→xk ops zw→(∀i,i<ops.size→(zw.getD i false=false↔i∈r'.map (·.1)))→r'≠ [] →(∀x∈r',x.1<ops.size)→Region.ready .any ops zw≠ [])→
  (∀a' w' G' M',(∀i,M' i→C.M i∨ ∃x∈r,i=p0+x.1)→er n w0 S0 {C with M:=M'} G' σ' a' w'→Q .normal a' w')→wpAny P .any ops Q fuel aP a w:=by
 intro fuel
 induction fuel with
 |zero=>
  intro r σ σ' C G a w aP h bM hs qq hM x9 fo gz XA qK aL qU ib hQ
  have hr:r=[] :=List.eq_nil_of_length_eq_zero (by omega)
  subst hr
  cases h
  refine⟨?_,hQ a w G C.M (fun i hi=> .inl hi) hs⟩
  rw[List.eq_nil_iff_forall_not_mem]
  intro j hj
  obtain⟨h0,o,ho,_⟩:=mem_ready.1 hj
  have jh:j<ops.size:=(Array.getElem?_eq_some_iff.1 ho).1
  have h1:aP.getD j false=false:=by
   have yM:j<aP.size:=by omega
   simp[yM]at h0⊢;exact h0
  have:=(qK j jh).1 h1
  simp at this
 |succ fuel ih=>
  intro r σ σ' C G a w aP h bM hs qq hM x9 fo gz XA qK aL qU ib hQ
  refine⟨fun h0=> ?_,fun i hi=> ?_⟩
  ·by_cases hr:r=[]
   ·subst hr;cases h;exact hQ a w G C.M (fun i hi=> .inl hi) hs
   ·exact absurd h0 (qU hr)
  ·obtain⟨h0,o,ho,gE⟩:=mem_ready.1 hi
   have eX:i<ops.size:=(Array.getElem?_eq_some_iff.1 ho).1
   have h1:aP.getD i false=false:=by
    have yM:i<aP.size:=by omega
    simp[yM]at h0⊢;exact h0
   have jH:=(qK i eX).1 h1
   obtain⟨x,hx,Tq⟩:=List.mem_map.1 jH
   obtain⟨l,r2,hr⟩:=List.append_of_mem hx
   subst hr
   have aqZ: ∀y∈l,indep ops y x=true:=by
    intro y hy
    rcases yv x9 y hy with h|h
    ·exact h
    ·exfalso
     rw[Tq]at h
     have hyl:=J6 gz _ _ _ h (fun o' B4=>by rw[ho]at B4;injection B4 with B4;subst B4;exact gE)
     have hy1:=aL y (by simp[hy])
     have:=(qK y.1 hy1).2 (List.mem_map.2 ⟨y,by simp[hy],rfl⟩)
     rw[hyl]at this;cases this
   have akc:=qG.pull aqZ h
   obtain⟨xi,e⟩:=x
   simp only at Tq
   subst Tq
   have D4: ∀y∈l++r2,y∈l++(xi,e)::r2:=by
    intro y hy;rcases List.mem_append.1 hy with h|h<;>simp[h]
   have aaM:xi∉(l++r2).map (·.1)∧((l++r2).map (·.1)).Nodup:=by
    have:(((xi,e)::(l++r2)).map (·.1)).Nodup:=by
     refine(List.Perm.nodup_iff ?_).1 qq
     exact(List.perm_middle).map _
    simpa using this
   cases akc with
   |cons B4 he iR FO=>
    rename_i o'
    rw[ho]at B4;injection B4 with B4;subst B4
    have hp: ¬C.M (p0+xi):=hM (xi,e) (by simp)
    have Uq:nq P cs ops p0 n S0 C Φ Pre (l++r2):=⟨bM.con,fun y hy=>bM.items y (D4 y hy),fun y hy=>bM.pos y (D4 y hy),bM.dst,bM.fr⟩
    have xY:=xD hs he.choose_spec hp (bM.pos (xi,e) (by simp)) bM.con iR (bM.items (xi,e) (by simp)) (fun d hd=>bM.dst xi o d ho hd) bM.fr
    have Cl:(aP.setIfInBounds xi true).size=ops.size:=by simp[fo]
    have zY: ∀j,j<ops.size→(aP.setIfInBounds xi true).getD j false=(if j=xi then true else aP.getD j false):=by
     intro j hj
     by_cases SZ:j=xi
     ·subst SZ
      have:j<aP.size:=by omega
      simp[this]
     ·rw[if_neg SZ];exact getD_set_ne false (Ne.symm SZ)
    have UB:xk ops (aP.setIfInBounds xi true):=by
     intro j o' wG hj e' F4 fu
     have jh:j<ops.size:=(Array.getElem?_eq_some_iff.1 wG).1
     rw[zY j jh]at hj
     by_cases SZ:j=xi
     ·subst SZ
      rw[ho]at wG;injection wG with wG;subst wG
      exact getD_set_true (gE e' F4 fu)
     ·rw[if_neg SZ]at hj
      exact getD_set_true (gz j o' wG hj e' F4 fu)
    have Rn: ∀j,j<ops.size→((aP.setIfInBounds xi true).getD j false=false↔j∈(l++r2).map (·.1)):=by
     intro j hj
     rw[zY j hj]
     by_cases SZ:j=xi
     ·subst SZ
      simp only[if_true]
      exact⟨fun h=>(by cases h),fun h=>absurd h aaM.1⟩
     ·rw[if_neg SZ,qK j hj]
      simp[SZ]
    have tP: ∀y∈l++r2,y.1<ops.size:=fun y hy=>aL y (D4 y hy)
    have fO: ∀a' w' G',er n w0 S0 (C.add (p0+xi)) G' (e.app σ) a' w'→wpAny P .any ops Q fuel (aP.setIfInBounds xi true) a' w':=by
     intro a' w' G' sY
     refine ih (C:=C.add (p0+xi)) FO Uq.add sY aaM.2 ?_ (yw x9) Cl UB (by simp at XA⊢;omega) Rn tP (fun dH=>ib _ _ Cl UB Rn dH tP) ib ?_
     ·rintro y hy (hm|hm)
      ·exact hM y (D4 y hy) hm
      ·have:y.1=xi:=by omega
       exact aaM.1 (List.mem_map.2 ⟨y,hy,this⟩)
     ·intro a'' yG Ws M' Zl Pb
      refine hQ a'' yG Ws M' (fun j hj=> ?_) Pb
      rcases Zl j hj with(h1|h1)|⟨y,hy,h1⟩
      ·exact .inl h1
      ·exact .inr ⟨(xi,e),by simp,h1⟩
      ·exact .inr ⟨y,D4 y hy,h1⟩
    have ni:=xY (wpAny P .any ops Q fuel (aP.setIfInBounds xi true)) Q fO
    unfold wpOp
    simp only[ho]
    split
    ·rename_i hw;rw[if_pos hw]at ni;exact .inl ni
    ·rename_i hw;rw[if_neg hw]at ni;exact ni
def YM(ops:Array Oper):Bool:=(List.range ops.size).all fun i=>match ops[i]? with
 |some o=>o.after.all fun e=> !Region.binds .any e||decide (e.on<i)
 |none=>true
theorem BB(hb:YM ops=true){aP:Array Bool}(fo:aP.size=ops.size){r:List Nat}(qK: ∀i,i<ops.size→(aP.getD i false=false↔i∈r))(hr:r≠ [])(aL: ∀x∈r,x<ops.size):Region.ready .any ops aP≠ [] :=by
 obtain⟨m,hm,aaO⟩: ∃m,m∈r∧ ∀j,j<m→j∉r:=by
  cases r with
  |nil=>exact absurd rfl hr
  |cons x r=>
   have: ∃m,m∈(x::r):=⟨x,by simp⟩
   have key: ∀k,(∃m∈(x::r),m≤k)→ ∃m,m∈(x::r)∧ ∀j,j<m→j∉(x::r):=by
    intro k
    induction k with
    |zero=>rintro⟨m,hm,hk⟩;exact⟨m,hm,fun j hj=>by omega⟩
    |succ k ih=>
     rintro⟨m,hm,hk⟩
     by_cases h: ∃m∈(x::r),m≤k
     ·exact ih h
     ·refine⟨m,hm,fun j hj hjr=>h ⟨j,hjr,by omega⟩⟩
   exact key x ⟨x,by simp,Nat.le_refl _⟩
 have H7:=aL m hm
 have:m∈Region.ready .any ops aP:=by
  rw[mem_ready]
  have h1:=(qK m H7).2 hm
  have Pg:m<aP.size:=by omega
  refine⟨by simp[Pg]at h1⊢;exact h1,ops[m],by simp[H7],fun e he hbd=> ?_⟩
  have:=aV.1 hb m (List.mem_range.2 H7)
  simp only[Array.getElem?_eq_getElem H7]at this
  have:=(Array.all_eq_true_iff_forall_mem.1 this) e he
  simp only[hbd,Bool.not_true,Bool.false_or,aN]at this
  have h2:aP.getD e.on false≠false:=fun h=>aaO e.on this ((qK e.on (by omega)).1 h)
  simpa using h2
 intro h
 rw[h]at this;cases this
end
abbrev nb:=TypeId×Bool
inductive Slot where
 |tmp (t:Nat)
 |cell (id i:Nat)
 deriving DecidableEq
structure FQ where
 own:List (Nat×TypeId):=[]
 boxes:List (Nat×List (Nat×TypeId)):=[]
 drop:List Nat:=[]
def FQ.ex(a:FQ):Bool:=a.drop.contains 1000002
structure Head where
 v0:Nat
 fg:List (Slot×Ty×Option nb)
 st:St
 keep:List Tag
def Head.size(h:Head):Nat:=h.fg.length
def Gr:Ty→Option (Ty×TypeId)
 | .cW (.fn T kt)=>some (kt,T)
 |_=>none
def jc(v:Nat)(ty:Ty):Option nb→SC
 |none=>match Gr ty with
  |some (kt,T)=> .tM (.var v) kt T
  |none=> .eV (.var v) ty
 |some (_,false)=> .own (v,0) (.var v) ty
 |some (_,true)=> .xo (v,1000) ty
def jU(v:Nat)(T:nb):Tag:=(v,if T.2 then 1000 else 0)
theorem JX(v:Nat)(T:nb):(jU v T).ex=T.2:=by obtain⟨T,_|_⟩:=T<;>rfl
def kv(ty:Ty):Option nb→Ty
 |none=>match Gr ty with
  |some (kt,_)=> .list kt
  |none=>ty
 |some _=> .list ty
def jO(σ:St):Slot→Option SC
 | .tmp t=>match σ.tm t with
  |some ([], .one c)=>some c
  |_=>none
 | .cell id i=>match σ.hp id with
  |some (_,cs)=>cs[i]?
  |none=>none
def kM(σ:St)(x:Slot×Ty×Option nb):Option (E×Option Tag):=
 match jO σ x.1 with
 |some c=>
  match x.2.2 with
  |none=>match Gr x.2.1 with
   |some (kt,T)=>match c with
    | .tM e kt' T'=>if kt'=kt∧T'=T then some (e,none) else none
    |_=>none
   |none=>match asData c with
    |some (e,t)=>if t=x.2.1 then some (e,none) else none
    |none=>none
  |some T=>match c with
   | .lU t=>if t=x.2.1 then some (.nil,none) else none
   | .own g _ t=>match σ.live g with
    |some (e,T',t')=>if t=x.2.1∧T'=T.1∧t'=x.2.1∧T.2=false∧g.ex=false then some (e,some g) else none
    |none=>none
   | .xo g t=>match σ.live g with
    |some (e,T',t')=>if t=x.2.1∧T'=T.1∧t'=x.2.1∧T.2=true∧g.ex=true then some (e,some g) else none
    |none=>none
   |_=>none
 |none=>none
def qX(σ:St):List (Slot×Ty×Option nb)→Option (List (E×Option Tag))
 | [] =>some []
 |x::r=>match kM σ x,qX σ r with
  |some y,some ys=>some (y::ys)
  |_,_=>none
def nu(s:Slot):List (Slot×Ty×Option nb)→Nat→Option (Nat×Ty×Option nb)
 | [],_=>none
 |x::r,j=>if x.1=s then some (j,x.2) else nu s r (j+1)
def SC.ids(n:Nat):SC→Bool
 | .own g _ _=>g.1<n
 | .pa id _=>id<n
 | .xo g _=>g.1<n
 | .tJ g _ _ _=>g.1<n
 | .D1 id=>id<n
 |_=>true
def SV.ids(n:Nat):SV→Bool
 | .one c=>c.ids n
 | .agg l=>l.all (SC.ids n)
 | .cW l=>l.all fun x=>x.2.all (SC.ids n)
def akK(n:Nat)(h:Head)(σ:St):Bool:=(List.range n).all fun t=>
 match h.st.tm t with
 |none=>true
 |some (c,s)=>match nu (.tmp t) h.fg 0 with
  |some (j,ty,T)=>decide (c=[] ∧s= .one (jc (h.v0+j) ty T))
  |none=>decide (σ.tm t=some (c,s))&&s.lt h.v0&&s.ids h.v0&&c.all fun x=>x.1.lt h.v0
def rh(h:Head)(id:Nat):Nat→List SC→List SC→Bool
 |_,[],[] =>true
 |i,c::r,c'::r'=>(match nu (.cell id i) h.fg 0 with
  |some (j,ty,T)=>decide (c=jc (h.v0+j) ty T)
  |none=>decide (c'=c)&&c.lt h.v0&&c.ids h.v0&&c.scalar)&&rh h id (i+1) r r'
 |_,_,_=>false
def akL(h:Head)(σ:St):Bool:=(List.range h.v0).all fun id=>
 match h.st.hp id with
 |none=>true
 |some (ro,cs)=>match σ.hp id with
  |some (FR,pW)=>ro==FR&&rh h id 0 cs pW
  |none=>false
def VA(h:Head)(σ:St)(tags:List (Option Tag)):Bool:=h.keep.all fun g=>
 match h.st.live g with
 |none=>true
 |some x=>decide (σ.live g=some x)&&decide (g.1<h.v0)&&x.1.lt h.v0&& !tags.contains (some g)
def GI(n:Nat)(h:Head)(σ:St):Option (List E):=
 match qX σ h.fg with
 |some vs=>
  let tags:=vs.map (·.2)
  if akK n h σ&&akL h σ&&VA h σ tags&&ju tags&&(h.fg.all fun x=>(kv x.2.1 x.2.2).scalar&&(x.2.2.isNone||decide (0<x.2.1.cells.length))) then some (vs.map (·.1)) else none
 |none=>none
structure JH(n:Nat)(h:Head):Prop where
 tm: ∀t,n≤t→h.st.tm t=none
 hp: ∀id,h.v0≤id→h.st.hp id=none
 live: ∀g x,h.st.live g=some x→g∈h.keep∨ ∃j ty T,h.fg[j]? =some (ty,T)∧ ∃T',T.2=some T'∧g=jU (h.v0+j) T'∧x=(.var (h.v0+j),T'.1,T.1)
def assigned:Code→List Nat
 | .region _ ops _=>ops.toList.filterMap (·.dst)
 | .seq a b=>assigned a++assigned b
 | .cond _ a b=>assigned a++assigned b
 | .block _ c| .loop c| .scope c=>assigned c
 |_=> []
def dedup:List Nat→List Nat
 | [] => []
 |x::r=>if r.contains x then dedup r else x::dedup r
def sq(ex:Bool)(id:Nat)(owns:List (Nat×TypeId)):Nat→List SC→List (Slot×Ty×Option nb)
 |_,[] => []
 |i,c::r=>
  (match lk owns i,c with
   |some T, .lU t=> [(.cell id i,t,some (T,ex))]
   |some T, .own _ _ t=> [(.cell id i,t,some (T,false))]
   |some T, .xo _ t=> [(.cell id i,t,some (T,true))]
   |_, .tM _ kt T=> [(.cell id i, .cW (.fn T kt),none)]
   |_,c=>match asData c with
    |some (_,t)=> [(.cell id i,t,none)]
    |none=> [])++sq ex id owns (i+1) r
def Dr(fg:List (Slot×Ty×Option nb))(v0 id:Nat):Nat→List SC→List SC
 |_,[] => []
 |i,c::r=>(match nu (.cell id i) fg 0 with
  |some (j,ty,T)=>jc (v0+j) ty T
  |none=>c)::Dr fg v0 id (i+1) r
def Eh:SC→List Tag
 | .own g _ _=> [g]
 | .xo g _=> [g]
 |_=> []
def abh:SV→List Tag
 | .one c=>Eh c
 | .agg l=>l.flatMap Eh
 | .cW l=>l.flatMap fun x=>x.2.flatMap Eh
def rM(v0:Nat):Nat→List (Slot×Ty×Option nb)→List (Tag×(E×TypeId×Ty))
 |_,[] => []
 |j,(_,ty,T)::r=>(match T with
  |some T=> [(jU (v0+j) T,(E.var (v0+j),T.1,ty))]
  |none=> [])++rM v0 (j+1) r
def Ho(ex:Bool)(σ:St)(owns:List (Nat×TypeId))(id:Nat):List (Slot×Ty×Option nb):=
 match σ.hp id with
 |some (false,cs)=>sq ex id owns 0 cs++cs.flatMap fun c=>match c with
  | .D1 m=>(match σ.hp m with|some (false,ms)=>sq ex m [] 0 ms|_=> [])
  | .pa m 0=>(match σ.hp m with|some (false,ms)=>sq ex m (owns.filterMap fun x=>if 1000≤x.1 then some (x.1-1000,x.2) else none) 0 ms|_=> [])
  |_=> []
 |_=> []
def tV(n:Nat)(Wr:FQ)(A0:List Nat)(σ:St)(v0:Nat):Head:=
 let A:=dedup A0
 let ts:=A.filterMap fun t=>
  if Wr.drop.contains t then none else
  match σ.tm t with
  |some ([], .one c)=>match lk Wr.own t,c with
   |some T, .lU ty=>some (Slot.tmp t,ty,some (T,Wr.ex))
   |some T, .own _ _ ty=>some (Slot.tmp t,ty,some (T,false))
   |some T, .xo _ ty=>some (Slot.tmp t,ty,some (T,true))
   |_,c=>match asData c with
    |some (_,ty)=>some (Slot.tmp t,ty,none)
    |none=>none
  |_=>none
 let bs:=Wr.boxes.flatMap fun x=>
  match σ.tm x.1 with
  |some ([], .one (.pa id 0))=>Ho Wr.ex σ x.2 id
  |some ([], .one (.D1 id))=>Ho Wr.ex σ x.2 id
  |_=> []
 let fg:=ts++bs
 let gone:=(fg.filterMap fun x=>kM σ x).filterMap (·.2)
 let keep:=(((List.range n).flatMap fun t=>match σ.tm t with|some (_,s)=>abh s|none=> [])++
  ((List.range v0).flatMap fun id=>match σ.hp id with|some (_,cs)=>cs.flatMap Eh|none=> [])).filter fun g=> !gone.contains g
 let nl:=rM v0 0 fg
 {v0,fg,keep,
  st:={
   tm:=fun t=>if t<n then(if A.contains t then(match nu (.tmp t) fg 0 with|some (j,ty,T)=>some ([], .one (jc (v0+j) ty T))|none=>none) else σ.tm t) else none
   hp:=fun id=>if id<v0 then(match σ.hp id with|some (ro,cs)=>some (ro,Dr fg v0 id 0 cs)|none=>none) else none
   live:=fun g=>match lk nl g with|some x=>some x|none=>if keep.contains g then σ.live g else none}}
theorem yk: ∀{l:List (Slot×Ty×Option nb)} {v0 k:Nat} {g:Tag} {x:E×TypeId×Ty},lk (rM v0 k l) g=some x→ ∃j ty T,l[j]? =some (ty,T)∧ ∃T',T.2=some T'∧g=jU (v0+(k+j)) T'∧x=(.var (v0+(k+j)),T'.1,T.1)
 | [],_,_,_,_,h=>by cases h
 |(s,ty,T)::r,v0,k,g,x,h=>by
  have step: ∀{y},lk (rM v0 (k+1) r) g=some y→ ∃j ty' T',((s,ty,T)::r)[j]? =some (ty',T')∧ ∃T'',T'.2=some T''∧g=jU (v0+(k+j)) T''∧y=(.var (v0+(k+j)),T''.1,T'.1):=by
   intro y hy
   obtain⟨j,ty',T',h1,h3⟩:=yk hy
   refine⟨j+1,ty',T',by simpa using h1,?_⟩
   rw[show k+(j+1)=k+1+j by omega];exact h3
  cases T with
  |none=>simp only[rM,List.nil_append]at h;exact step h
  |some T0=>
   simp only[rM,List.cons_append,List.nil_append,lk]at h
   split at h
   ·rename_i hg
    injection h with h
    exact⟨0,s,(ty,some T0),rfl,T0,rfl,hg,h.symm⟩
   ·exact step h
theorem Nx(n:Nat)(Wr:FQ)(A:List Nat)(σ:St)(v0:Nat):JH n (tV n Wr A σ v0) where
 tm t ht:=by simp only[tV];rw[if_neg (by omega)]
 hp id cU:=by
  have h:v0≤id:=cU
  simp only[tV];rw[if_neg (by omega)]
 live g x hx:=by
  simp only[tV]at hx
  split at hx
  ·rename_i y hy
   injection hx with hx;subst hx
   obtain⟨j,ty,T,h1,h3⟩:=yk hy
   rw[Nat.zero_add]at h3
   exact .inr ⟨j,ty,T,h1,h3⟩
  ·split at hx
   ·rename_i hk
    exact .inl (by simpa [tV]using hk)
   ·cases hx
def dI(ρ:Nat→D)(v0:Nat)(xs:List D):Nat→D:=fun i=>if v0≤i∧i<v0+xs.length then xs.getD (i-v0) .top else ρ i
theorem Ll{ρ:Nat→D}{v0:Nat}{xs:List D}{i:Nat}(h:i<v0):dI ρ v0 xs i=ρ i:=by unfold dI;rw[if_neg (by omega)]
theorem UL{ρ:Nat→D}{v0:Nat}{xs:List D}{j:Nat}{d:D}(h:xs[j]? =some d):dI ρ v0 xs (v0+j)=d:=by
 have hl:j<xs.length:=(ai.1 h).1
 unfold dI
 rw[if_pos ⟨by omega,by omega⟩,show v0+j-v0=j by omega]
 exact dX h
theorem nE{s:Slot}: ∀{l:List (Slot×Ty×Option nb)} {k j:Nat} {y:Ty×Option nb},nu s l k=some (j,y)→k≤j∧l[j-k]? =some (s,y)
 | [],_,_,_,h=>by cases h
 |x::r,k,j,y,h=>by
  simp only[nu]at h
  split at h
  ·rename_i hx
   injection h with h;simp only[Prod.mk.injEq]at h;obtain⟨rfl,rfl⟩:=h
   refine⟨Nat.le_refl _,?_⟩
   rw[Nat.sub_self,←hx];rfl
  ·obtain⟨h1,h2⟩:=nE h
   refine⟨by omega,?_⟩
   rw[show j-k=(j-(k+1))+1 by omega]
   simpa using h2
theorem vV{σ:St}: ∀{l:List (Slot×Ty×Option nb)} {vs:List (E×Option Tag)},qX σ l=some vs→vs.length=l.length∧ ∀(j:Nat) x y,l[j]? =some x→vs[j]? =some y→kM σ x=some y
 | [],vs,h=>by simp only[qX,Option.some.injEq]at h;subst h;exact⟨rfl,by intro j x y hj;simp at hj⟩
 |x::r,vs,h=>by
  simp only[qX]at h
  split at h
  ·rename_i y ys h1 h2
   injection h with h;subst h
   obtain⟨k1,k2⟩:=vV h2
   refine⟨by simp[k1],fun j x' y' hx hy=> ?_⟩
   cases j with
   |zero=>simp at hx hy;subst hx;subst hy;exact h1
   |succ j=>exact k2 j x' y' (by simpa using hx) (by simpa using hy)
  ·cases h
section
variable{C:Cx}{G:Gh}{w w0:World}{S0:ew}{σ:St}{a:Act}{n:Nat}
theorem pX.shrink{c:SC}{v:Value}{v0:Nat}{C':Cx}{G':Gh}(h:pX C w G c v)(aL:c.lt v0=true)(cU:c.ids v0=true)(sW: ∀i,i<v0→C'.ρ i=C.ρ i)(hN:v0≤C'.N)(hM: ∀i,i<v0→C'.M i)
  (hS:G'.S=G.S) (H2: ∀i,i<v0→G'.β i=G.β i) (eJ: ∀g:Tag,g.1<v0→G'.τ g=G.τ g):pX C' w G' c v:=by
 have dn: ∀{e:E},e.lt v0=true→den C'.ρ e=den C.ρ e:=fun he=>bR sW he
 have up: ∀{e:E},e.lt v0=true→e.lt C'.N=true:=by
  intro e
  induction e with
  |var i=>intro he;simp only[E.lt,aN]at he⊢;omega
  |ao|cF|Ci|eW|nil=>intro _;rfl
  |cons a b oh og=>intro he;simp only[E.lt,aw]at he⊢;exact⟨oh he.1,og he.2⟩
  |un o e ih=>intro he;exact ih he
  |bin o a b oh og=>intro he;simp only[E.lt,aw]at he⊢;exact⟨oh he.1,og he.2⟩
  |ite c a b L5 oh og=>intro he;simp only[E.lt,aw]at he⊢;exact⟨⟨L5 he.1.1,oh he.1.2⟩,og he.2⟩
 cases c with
 |eV e t=>exact⟨up aL,by rw[dn aL,hS];exact h.2.1,by rw[dn aL];exact h.2.2⟩
 |lU t=>exact h
 |own g e t=>
  have hg:g.1<v0:=by simpa [SC.ids]using cU
  obtain⟨_,_,h3,h4,h5⟩:=h
  exact⟨hM _ hg,up aL,by rw[dn aL,hS];exact h3,by rw[dn aL];exact h4,by rw[eJ g hg];exact h5⟩
 |clip e t=>
  obtain⟨_,h3,h4,b,h5⟩:=h
  exact⟨up aL,by rw[dn aL,hS];exact h3,by rw[dn aL];exact h4,b,by rw[dn aL];exact h5⟩
 |pa id off=>
  have hg:id<v0:=by simpa [SC.ids]using cU
  exact⟨hM _ hg,by rw[H2 id hg];exact h.2⟩
 |z6 l i t off=>
  simp only[SC.lt,aw]at aL
  obtain⟨_,_,b,o,u,hv,hh,hc⟩:=h
  have e1:den C'.ρ (.bin .idx l i)=den C.ρ (.bin .idx l i):=dn (by simp[E.lt,aL])
  exact⟨up aL.1,up aL.2,b,o,u,hv,by rw[e1];exact hh,by rw[e1,hS];exact hc⟩
 |zT e fs off=>
  obtain⟨_,b,l,u,hd,hh,hv,hc⟩:=h
  exact⟨up aL,b,l,u,by rw[dn aL];exact hd,hh,hv,by rw[hS];exact hc⟩
 |xo g t=>
  have hg:g.1<v0:=by simpa [SC.ids]using cU
  exact⟨hM _ hg,by rw[eJ g hg];exact h.2.1,h.2.2⟩
 |tJ g i t off=>
  have hg:g.1<v0:=by simpa [SC.ids]using cU
  obtain⟨_,_,b,cap,n,h1,h2,h3,h4⟩:=h
  have iR:i.lt v0=true:=aL
  exact⟨hM _ hg,up iR,b,cap,n,by rw[eJ g hg];exact h1,by rw[dn iR];exact h2,by rw[dn iR];exact h3,by rw[dn iR];exact h4⟩
 |D1 id=>
  have hg:id<v0:=by simpa [SC.ids]using cU
  exact⟨hM _ hg,by rw[H2 id hg];exact h.2⟩
 |IH=>exact h
 |tM e kt T=>exact h.elim
theorem SV.FD{s:SV}{v:Value}{v0:Nat}{C':Cx}{G':Gh}(h:wQ C w G s v)(aL:s.lt v0=true)(cU:s.ids v0=true)
  (jC: ∀{c:SC} {u:Value},pX C w G c u→c.lt v0=true→c.ids v0=true→pX C' w G' c u):wQ C' w G' s v:=by
 cases s with
 |one c=>exact jC h aL cU
 |agg l=>
  obtain⟨vs,h1,h2,h3⟩:=h
  simp only[SV.lt,SV.ids,aV]at aL cU
  exact⟨vs,h1,h2,fun i c u hc hu=>jC (h3 i c u hc hu) (aL c (aS hc)) (cU c (aS hc))⟩
 |cW l=>
  obtain⟨vs,h1,h2,h3⟩:=h
  simp only[SV.lt,SV.ids,aV]at aL cU
  refine⟨vs,h1,h2,fun i x u hx hu=> ?_⟩
  have hm:=aS hx
  have h4:=h3 i x u hx hu
  unfold ko at h4⊢
  split
  ·rename_i FV
   rw[if_pos FV]at h4
   obtain⟨us,h5,h6,h7⟩:=h4
   exact⟨us,h5,h6,fun i c u hc hu=>jC (h7 i c u hc hu) (aL x hm c (aS hc)) (cU x hm c (aS hc))⟩
  ·rename_i FV
   rw[if_neg FV]at h4
   obtain⟨c,h5,h6⟩:=h4
   exact⟨c,h5,jC h6 (aL x hm c (by rw[h5];simp)) (cU x hm c (by rw[h5];simp))⟩
theorem wq{h:Head}{id:Nat}: ∀{k:Nat} {l l':List SC},rh h id k l l'=true→l.length=l'.length∧ ∀(i:Nat) c c',l[i]? =some c→l'[i]? =some c'→
  (∃j ty T,nu (.cell id (k+i)) h.fg 0=some (j,ty,T)∧c=jc (h.v0+j) ty T)∨(c'=c∧c.lt h.v0=true∧c.ids h.v0=true∧c.scalar=true)
 |k,[],[],_=>⟨rfl,by intro i c c' hi;simp at hi⟩
 |k,c::r,c'::r',hf=>by
  simp only[rh,aw]at hf
  obtain⟨h1,h2⟩:=hf
  obtain⟨k1,k2⟩:=wq h2
  refine⟨by simp[k1],fun i x x' hx iA=> ?_⟩
  cases i with
  |zero=>
   simp at hx iA;subst hx;subst iA
   split at h1
   ·rename_i j ty T hs
    exact .inl ⟨j,ty,T,hs,by simpa using h1⟩
   ·simp only[aw,aN]at h1
    exact .inr ⟨h1.1.1.1,h1.1.1.2,h1.1.2,h1.2⟩
  |succ i=>
   have:=k2 i x x' (by simpa using hx) (by simpa using iA)
   rw[show k+(i+1)=k+1+i by omega];exact this
 |_,[],_::_,h=>by cases h
 |_,_::_,[],h=>by cases h
def ahd(G:Gh)(σ:St)(b:Nat):Prop:=(∃id y,σ.hp id=some y∧b=G.β id)∨ ∃g y,σ.live g=some y∧(G.τ g).ownBlock=some b
theorem NM{h:Head}{es:List E}{ρ0:Nat→D}(hs:er n w0 S0 C G σ a w)(bM:JH n h)(iC:GI n h σ=some es)(aan: ∀i,i<h.v0→ρ0 i=C.ρ i)(lF: ∀i b,S0.pd i=some b→i<h.v0):
  es.length=h.size∧(∀(j:Nat) x e,h.fg[j]? =some x→es[j]? =some e→Has (kv x.2.1 x.2.2) (den C.ρ e))∧
  ∃G',(G'.S=G.S∧G'.β=G.β∧ ∀b,ahd G' h.st b→ahd G σ b)∧er n w0 S0 ⟨dI ρ0 h.v0 (es.map (den C.ρ)),h.v0+h.size,fun i=>i<h.v0+h.size⟩ G' h.st a w:=by
 unfold GI at iC
 split at iC
 ·rename_i vs Ox
  simp only at iC
  split at iC
  ·rename_i hc
   injection iC with iC
   simp only[aw]at hc
   obtain⟨⟨⟨⟨uE,qn⟩,zk⟩,qq⟩,F1⟩:=hc
   obtain⟨tE,hvg⟩:=vV Ox
   have Co:es.length=h.size:=by rw[←iC,List.length_map,tE];rfl
   have ahW: ∀(j:Nat) x,vs[j]? =some x→es[j]? =some x.1:=by intro j x hx;rw[←iC,List.getElem?_map,hx];rfl
   let dK:=dI ρ0 h.v0 (es.map (den C.ρ))
   let C':Cx:=⟨dK,h.v0+h.size,fun i=>i<h.v0+h.size⟩
   let τ':Tag→Value:=fun g=>if h.v0≤g.1 then(match vs[g.1-h.v0]? with|some (_,some g')=>G.τ g'|_=> .slice none 0 0) else G.τ g
   let G':Gh:=⟨G.S,G.β,τ'⟩
   have sW: ∀i,i<h.v0→C'.ρ i=C.ρ i:=fun i hi=>(Ll hi).trans (aan i hi)
   have eJ: ∀g:Tag,g.1<h.v0→G'.τ g=G.τ g:=fun g hg=>if_neg (by omega)
   have zW: ∀(j:Nat) x,vs[j]? =some x→ ∀q:Nat,G'.τ (h.v0+j,q)=(match x.2 with|some g'=>G.τ g'|none=> .slice none 0 0):=by
    intro j x hx q
    show(if h.v0≤h.v0+j then _ else _)=_
    rw[if_pos (by omega)]
    simp only[Nat.add_sub_cancel_left,hx]
    obtain⟨e,_|g'⟩:=x<;>rfl
   have shrink: ∀{c:SC} {u:Value},pX C w G c u→c.lt h.v0=true→c.ids h.v0=true→pX C' w G' c u:=fun h1 h2 h3=>h1.shrink h2 h3 sW (Nat.le_add_right _ _) (fun i hi=>Nat.lt_of_lt_of_le hi (Nat.le_add_right _ _)) rfl (fun _ _=>rfl) eJ
   have dC: ∀(j:Nat) x,vs[j]? =some x→den C'.ρ (.var (h.v0+j))=den C.ρ x.1:=by
    intro j x hx
    show dI ρ0 h.v0 _ _=_
    exact UL (by rw[List.getElem?_map,ahW j x hx];rfl)
   have aaQ: ∀{j:Nat} {x},h.fg[j]? =some x→h.v0+j<h.v0+h.size:=by
    intro j x hx;have:=(ai.1 hx).1;unfold Head.size;omega
   have OQ: ∀{j:Nat} {x},h.fg[j]? =some x→ ∃y,vs[j]? =some y∧kM σ x=some y:=by
    intro j x hx
    have hj:j<vs.length:=by rw[tE];exact(ai.1 hx).1
    exact⟨vs[j],av hj,hvg j x _ hx (av hj)⟩
   have slot: ∀{j:Nat} {s:Slot} {ty:Ty} {T:Option nb} {c:SC} {u:Value},h.fg[j]? =some (s,ty,T)→jO σ s=some c→pX C w G c u→pX C' w G' (jc (h.v0+j) ty T) u∧
     ∀x,vs[j]? =some x→Has (kv ty T) (den C.ρ x.1):=by
    intro j s ty T c u hj jC hr
    obtain⟨y,hy,fp⟩:=OQ hj
    have hd:=dC j y hy
    have aL:=aaQ hj
    unfold kM at fp
    simp only[jC]at fp
    cases T with
    |none=>
     simp only at fp
     split at fp
     ·split at fp
      ·exact hr.elim
      ·cases fp
     rename_i Ih
     split at fp
     ·rename_i e t aq9
      split at fp
      ·rename_i FY
       injection fp with fp;subst fp;subst FY
       obtain⟨q1,q2,q3⟩:=jw aq9 hr
       simp only[jc,kv,Ih]
       refine⟨⟨by simp only[E.lt,aN];exact aL,by rw[hd];exact q2,by rw[hd];exact q3⟩,fun x hx=> ?_⟩
       rw[hy]at hx;injection hx with hx;subst hx;exact q3
      ·cases fp
     ·cases fp
    |some T0=>
     simp only at fp
     have ev:0<ty.cells.length:=by
      have:=aV.1 F1 _ (aS hj)
      simp at this;exact this.2
     obtain⟨T0,x0⟩:=T0
     split at fp
     ·rename_i t
      split at fp
      ·rename_i FY
       injection fp with fp;subst fp
       have h0:Has (.list ty) (.list []):=aD.2 ⟨[],rfl,db _,by simp⟩
       have hu:u= .slice none 0 0:=hr
       refine⟨?_,fun x hx=> ?_⟩
       ·cases x0 with
        |false=>
         refine⟨aL,by simp only[E.lt,aN];exact aL,?_,by rw[hd];exact h0,by rw[zW j _ hy];exact hu⟩
         rw[hd,hu];exact .nil none 0
        |true=>exact⟨aL,by rw[zW j _ hy];exact hu,_,_,_,hu⟩
       ·rw[hy]at hx;injection hx with hx;subst hx;exact h0
      ·cases fp
     ·rename_i g e0 t
      split at fp
      ·rename_i e T' t' bf
       split at fp
       ·rename_i m8
        obtain⟨rfl,rfl,rfl,fL,lR⟩:=m8
        have fL:x0=false:=fL
        subst fL
        injection fp with fp;subst fp
        have bw:=hs.m.own _ _ _ _ bf
        have fa:=bw.rep ev lR
        obtain⟨_,_,_,_,hu⟩:=hr
        refine⟨⟨aL,by simp only[E.lt,aN];exact aL,by rw[hd,hu];exact fa,by rw[hd];exact bw.has,by rw[zW j _ hy];exact hu⟩,fun x hx=> ?_⟩
        rw[hy]at hx;injection hx with hx;subst hx;exact bw.has
       ·cases fp
      ·cases fp
     ·rename_i g t
      split at fp
      ·rename_i e T' t' bf
       split at fp
       ·rename_i m8
        obtain⟨rfl,rfl,rfl,fL,lR⟩:=m8
        have fL:x0=true:=fL
        subst fL
        injection fp with fp;subst fp
        have bw:=hs.m.own _ _ _ _ bf
        obtain⟨_,hu,aaz⟩:=hr
        refine⟨⟨aL,by rw[zW j _ hy];exact hu,aaz⟩,fun x hx=> ?_⟩
        rw[hy]at hx;injection hx with hx;subst hx;exact bw.has
       ·cases fp
      ·cases fp
     ·cases fp
   have UQ: ∀(j:Nat) x e,h.fg[j]? =some x→es[j]? =some e→Has (kv x.2.1 x.2.2) (den C.ρ e):=by
    rintro j ⟨s,ty,T⟩ e hj he
    obtain⟨y,hy,fp⟩:=OQ hj
    have hye:y.1=e:=by have:=ahW j y hy;rw[he]at this;injection this with this;exact this.symm
    have aaz: ∃c,jO σ s=some c:=by
     unfold kM at fp
     cases hq:jO σ s with
     |none=>simp[hq]at fp
     |some c=>exact⟨c,rfl⟩
    obtain⟨c,hc⟩:=aaz
    by_cases hmc: ∃e0 YU T0,c= .tM e0 YU T0
    ·obtain⟨e0,YU,T0,rfl⟩:=hmc
     have cB: ∃id ro,σ.hp id=some (ro,[SC.tM e0 YU T0])∨ ∃u,pX C w G (.tM e0 YU T0) u:=by
      cases s with
      |tmp t=>
       simp only[jO]at hc
       split at hc
       ·rename_i c' ht'
        injection hc with hc;subst hc
        obtain⟨v,_,_,_,h4⟩:=hs.t t _ _ ht'
        simp only[aq,List.all_nil,if_true]at h4
        exact⟨0,false, .inr ⟨v,h4⟩⟩
       ·cases hc
      |cell id i=>
       simp only[jO]at hc
       split at hc
       ·rename_i ro cs cU
        obtain⟨_,_,dq,_⟩:=hs.m.box _ _ _ cU
        cases jD:mapOf cs with
        |none=>
         obtain⟨DH,T',_,hr⟩:=dq.cells jD
         have eX:i<DH.length:=by rw[hr.1];exact(ai.1 hc).1
         exact⟨0,false, .inr ⟨_,hr.2 i _ _ hc (av eX)⟩⟩
        |some z=>
         unfold mapOf at jD
         split at jD
         ·cases i with
          |zero=>simp at hc;obtain⟨rfl,rfl,rfl⟩:=hc;exact⟨id,ro, .inl cU⟩
          |succ i=>simp at hc
         ·cases jD
       ·cases hc
     obtain⟨id,ro,cU|⟨u,hu⟩⟩:=cB
     ·obtain⟨_,_,dq,_⟩:=hs.m.box _ _ _ cU
      obtain⟨_,tG,_⟩:=dq
      unfold kM at fp
      simp only[hc]at fp
      cases T with
      |none=>
       simp only at fp
       split at fp
       ·rename_i kt T1 Ih
        split at fp
        ·rename_i m8
         obtain⟨rfl,rfl⟩:=m8
         injection fp with fp
         simp only[kv,Ih]
         rw[←hye,←fp];exact tG
        ·cases fp
       ·simp[asData]at fp
      |some T1=>simp at fp
     ·exact hu.elim
    have aqx: ∃u,pX C w G c u:=by
     cases s with
     |tmp t=>
      simp only[jO]at hc
      split at hc
      ·rename_i c' ht'
       injection hc with hc;subst hc
       obtain⟨v,_,_,_,h4⟩:=hs.t t _ _ ht'
       simp only[aq,List.all_nil,if_true]at h4
       exact⟨v,h4⟩
      ·cases hc
     |cell id i=>
      simp only[jO]at hc
      split at hc
      ·rename_i ro cs cU
       obtain⟨_,_,dq,_⟩:=hs.m.box _ _ _ cU
       have BW:mapOf cs=none:=by
        unfold mapOf
        split
        ·cases i with
         |zero=>simp at hc;exact absurd ⟨_,_,_,hc.symm⟩ hmc
         |succ i=>simp at hc
        ·rfl
       obtain⟨DH,T',_,hr⟩:=dq.cells BW
       have eX:i<DH.length:=by rw[hr.1];exact(ai.1 hc).1
       exact⟨_,hr.2 i c _ hc (av eX)⟩
      ·cases hc
    obtain⟨u,hu⟩:=aqx
    rw[←hye]
    exact(slot hj hc hu).2 y hy
   refine⟨Co,UQ,G',?_⟩
   have D7: ∀id ro cs,h.st.hp id=some (ro,cs)→id<h.v0∧ ∃pW,σ.hp id=some (ro,pW)∧rh h id 0 cs pW=true:=by
    intro id ro cs hx
    have cU:id<h.v0:=by
     rcases Nat.lt_or_ge id h.v0 with h1|h1
     ·exact h1
     ·rw[bM.hp id h1]at hx;cases hx
    have:=aV.1 qn id (List.mem_range.2 cU)
    simp only[hx]at this
    split at this
    ·rename_i FR pW aaS
     simp only[aw,beq_iff_eq]at this
     exact⟨cU,pW,by rw[aaS,this.1],this.2⟩
    ·cases this
   have EE: ∀g x,h.st.live g=some x→(g.1<h.v0∧σ.live g=some x∧x.1.lt h.v0=true∧(∀(j:Nat) y,vs[j]? =some y→y.2≠some g))∨
     (∃j s ty T0 y,h.fg[j]? =some (s,ty,some T0)∧vs[j]? =some y∧g=jU (h.v0+j) T0∧x=(.var (h.v0+j),T0.1,ty)∧(y.2=none∧y.1= .nil∨ ∃g',y.2=some g'∧σ.live g'=some (y.1,T0.1,ty)∧g'.ex=T0.2)):=by
    intro g x hx
    rcases bM.live g x hx with hk|⟨j,s,T,hj,T0,hT,hg,H4⟩
    ·have:=aV.1 zk g hk
     simp only[hx,aw,aN,Bool.not_eq_true']at this
     refine .inl ⟨this.1.1.2,this.1.1.1,this.1.2,fun j y hy he=> ?_⟩
     have jH:some g∈vs.map (·.2):=List.mem_map.2 ⟨y,aS hy,he⟩
     have h2:=this.2
     rw[List.contains_eq_mem]at h2
     simp[jH]at h2
    ·obtain⟨ty,T⟩:=T
     simp only at hT H4
     subst hT
     obtain⟨y,hy,fp⟩:=OQ hj
     refine .inr ⟨j,s,ty,T0,y,hj,hy,hg,H4,?_⟩
     unfold kM at fp
     simp only at fp
     split at fp
     ·split at fp
      ·split at fp
       ·injection fp with fp;subst fp;exact .inl ⟨rfl,rfl⟩
       ·cases fp
      ·rename_i g0 e0 t _
       split at fp
       ·rename_i e T' t' hl
        split at fp
        ·rename_i m8
         obtain⟨rfl,rfl,rfl,fL,lR⟩:=m8
         injection fp with fp;subst fp
         exact .inr ⟨g0,rfl,hl,lR.trans fL.symm⟩
        ·cases fp
       ·cases fp
      ·rename_i g0 t _
       split at fp
       ·rename_i e T' t' hl
        split at fp
        ·rename_i m8
         obtain⟨rfl,rfl,rfl,fL,lR⟩:=m8
         injection fp with fp;subst fp
         exact .inr ⟨g0,rfl,hl,lR.trans fL.symm⟩
        ·cases fp
       ·cases fp
      ·cases fp
     ·cases fp
   have B0: ∀g x b,h.st.live g=some x→(G'.τ g).ownBlock=some b→ ∃g0 x0,σ.live g0=some x0∧(G.τ g0).ownBlock=some b∧((g.1<h.v0∧g0=g)∨ ∃j y s ty T0,h.fg[j]? =some (s,ty,some T0)∧vs[j]? =some y∧y.2=some g0∧g=jU (h.v0+j) T0):=by
    intro g x b hx hb
    rcases EE g x hx with⟨h1,h2,h3,_⟩|⟨j,s,ty,T0,y,hj,hy,hg,H4,dR⟩
    ·rw[eJ g h1]at hb;exact⟨g,x,h2,hb, .inl ⟨h1,rfl⟩⟩
    ·rw[hg]at hb
     unfold jU at hb
     rw[zW j y hy]at hb
     rcases dR with⟨hn,_⟩|⟨g',wO,hl,_⟩
     ·rw[hn]at hb;cases hb
     ·rw[wO]at hb;exact⟨g',_,hl,hb, .inr ⟨j,y,s,ty,T0,hj,hy,wO,hg⟩⟩
   refine⟨⟨rfl,rfl,?_⟩,?_,?_,hs.sz,hs.defers⟩
   ·rintro b (⟨id,y,hy,rfl⟩|⟨g,y,hy,hb⟩)
    ·obtain⟨_,ci,h2,_⟩:=D7 id y.1 y.2 hy
     exact .inl ⟨id,_,h2,rfl⟩
    ·obtain⟨g0,x0,l0,b0,_⟩:=B0 g y b hy hb
     exact .inr ⟨g0,x0,l0,b0⟩
   ·
    refine⟨hs.m.below,hs.m.ic,hs.m.keep,?_,hs.m.jK,hs.m.bL,hs.m.eP,?_,?_,?_,?_,?_,?_,?_,fun iQ g=> ?_,hs.m.wz⟩
    rotate_right
    ·show zm (gH w0 S0) w G.S (if h.v0≤g.1 then(match vs[g.1-h.v0]? with|some (_,some g')=>G.τ g'|_=> .slice none 0 0) else G.τ g)
     split
     ·split
      ·exact hs.m.fresh iQ _
      ·intro a0 n0 Py CO
       exact .inl rfl
     ·exact hs.m.fresh iQ g
    ·intro i b hi
     exact⟨Nat.lt_of_lt_of_le (lF i b hi) (Nat.le_add_right _ _),(hs.m.pd i b hi).2⟩
    ·intro id x hx
     obtain⟨h1,_⟩:=D7 id x.1 x.2 hx
     exact Nat.lt_of_lt_of_le h1 (Nat.le_add_right _ _)
    ·intro id ro cs hx
     obtain⟨h1,pW,h2,h3⟩:=D7 id ro cs hx
     obtain⟨b1,b2,dq,b5⟩:=hs.m.box id ro pW h2
     obtain⟨k1,k2⟩:=wq h3
     cases jD:mapOf pW with
     |some z=>
      unfold mapOf at jD
      split at jD
      ·rename_i e0 YU T0
       obtain⟨c,m8⟩:=List.length_eq_one_iff.1 k1
       subst m8
       obtain⟨g1,g2,g3⟩:=dq
       rcases k2 0 c (.tM e0 YU T0) rfl rfl with⟨j,ty,T1,hsi,rfl⟩|⟨he,aL,gG,jC⟩
       ·obtain⟨_,hj⟩:=nE hsi
        rw[Nat.sub_zero,Nat.zero_add]at hj
        obtain⟨y,hy,fp⟩:=OQ hj
        have hd:=dC j y hy
        unfold kM at fp
        have hso:jO σ (.cell id 0)=some (.tM e0 YU T0):=by simp only[jO,h2];rfl
        simp only[hso]at fp
        cases T1 with
        |none=>
         simp only at fp
         split at fp
         ·rename_i kt T2 Ih
          split at fp
          ·rename_i m8
           obtain⟨rfl,rfl⟩:=m8
           injection fp with fp
           rw[←fp]at hd
           simp only[jc,Ih]
           exact⟨b1,rfl,⟨by simp only[E.lt,aN];exact aaQ hj,by rw[hd];exact g2,by rw[hd];exact g3⟩,b5⟩
          ·cases fp
         ·simp[asData]at fp
        |some T1=>simp at fp
       ·subst he
        have KL:den C'.ρ e0=den C.ρ e0:=bR sW aL
        have Y3:e0.lt (h.v0+h.size)=true:=by
         have: ∀{e:E},e.lt h.v0=true→e.lt (h.v0+h.size)=true:=by
          intro e
          induction e with
          |var i=>intro he;simp only[E.lt,aN]at he⊢;omega
          |ao|cF|Ci|eW|nil=>intro _;rfl
          |cons a b oh og=>intro he;simp only[E.lt,aw]at he⊢;exact⟨oh he.1,og he.2⟩
          |un o e ih=>intro he;exact ih he
          |bin o a b oh og=>intro he;simp only[E.lt,aw]at he⊢;exact⟨oh he.1,og he.2⟩
          |ite c a b L5 oh og=>intro he;simp only[E.lt,aw]at he⊢;exact⟨⟨L5 he.1.1,oh he.1.2⟩,og he.2⟩
         exact this aL
        exact⟨b1,b2,⟨Y3,by rw[KL];exact g2,by rw[KL];exact g3⟩,b5⟩
      ·cases jD
     |none=>
     obtain⟨us,T,b3,b4⟩:=dq.cells jD
     have LX: ∀(i:Nat) c,cs[i]? =some c→c.scalar=true∧ ∀u,us[i]? =some u→pX C' w G' c u:=by
      intro i c hc
      have eX:i<pW.length:=by rw[←k1];exact(ai.1 hc).1
      have xR:pW[i]? =some pW[i] :=av eX
      rcases k2 i c _ hc xR with⟨j,ty,T1,hsi,rfl⟩|⟨he,aL,gG,jC⟩
      ·obtain⟨_,hj⟩:=nE hsi
       rw[Nat.sub_zero]at hj
       rw[Nat.zero_add]at hj
       have jC:=aV.1 F1 _ (aS hj)
       simp only[aw]at jC
       refine⟨?_,fun u hu=>(slot hj (by simp only[jO,h2];exact xR) (b4.2 i _ u xR hu)).1⟩
       cases T1 with
       |none=>
        cases Ih:Gr ty with
        |none=>simp only[jc,kv,Ih]at jC⊢;exact jC.1
        |some z=>simp only[jc,Ih];rfl
       |some T1=>obtain⟨T1,_|_⟩:=T1<;>rfl
      ·refine⟨jC,fun u hu=>shrink ?_ aL gG⟩
       have:=b4.2 i _ u xR hu
       rw[he]at this;exact this
     refine⟨b1,?_,ij.mk (vs:=us) (T:=T) b3 ⟨by rw[b4.1,k1],fun i c u hc hu=>(LX i c hc).2 u hu⟩,?_⟩
     ·rw[aV]
      intro c hc
      obtain⟨i,hi⟩:=List.getElem?_of_mem hc
      exact(LX i c hi).1
     ·rw[k1];exact b5
    ·intro i j x y hi hj he
     obtain⟨_,ci,h2,_⟩:=D7 i x.1 x.2 hi
     obtain⟨_,cj,h3,_⟩:=D7 j y.1 y.2 hj
     exact hs.m.inj i j _ _ h2 h3 he
    ·intro g e T t hx
     rcases EE g _ hx with⟨h1,h2,h3,_⟩|⟨j,s,ty,T0,y,hj,hy,hg,H4,dR⟩
     ·have ho:=hs.m.own g e T t h2
      have KL:den C'.ρ e=den C.ρ e:=bR sW h3
      have iR:e.lt (h.v0+h.size)=true:=by
       have:=(shrink (c:= .eV e .bool) (u:= .bool true))
       clear this
       revert h3
       clear hx h2 ho KL
       induction e with
       |var i=>intro he;simp only[E.lt,aN]at he⊢;omega
       |ao|cF|Ci|eW|nil=>intro _;rfl
       |cons a b oh og=>intro he;simp only[E.lt,aw]at he⊢;exact⟨oh he.1,og he.2⟩
       |un o e ih=>intro he;exact ih he
       |bin o a b oh og=>intro he;simp only[E.lt,aw]at he⊢;exact⟨oh he.1,og he.2⟩
       |ite c a b L5 oh og=>intro he;simp only[E.lt,aw]at he⊢;exact⟨⟨L5 he.1.1,oh he.1.2⟩,og he.2⟩
      obtain⟨xs,l,q1,q2,q3,q4⟩:=ho.own
      refine⟨Nat.lt_of_lt_of_le h1 (Nat.le_add_right _ _),iR,by rw[KL];exact ho.has,xs,l,by rw[KL];exact q1,?_,?_,q4⟩
      ·rw[eJ g h1];exact q2
      ·rw[eJ g h1];exact q3
     ·simp only[Prod.mk.injEq]at H4
      obtain⟨rfl,rfl,rfl⟩:=H4
      have hd:=dC j y hy
      have aL:=aaQ hj
      subst hg
      have Uh:G'.τ (jU (h.v0+j) T0)=(match y.2 with|some g'=>G.τ g'|none=> .slice none 0 0):=zW j y hy _
      have hsx:=JX (h.v0+j) T0
      rcases dR with⟨hn,D6⟩|⟨g',wO,hl,hgx⟩
      ·refine⟨aL,by simpa [E.lt]using aL,by rw[hd,D6];exact aD.2 ⟨[],rfl,db _,by simp⟩,[],[],by rw[hd,D6];rfl,?_,?_,by simp⟩
       ·rw[Uh,hn];exact World.ownsRow_nil w _ _ _
       ·rw[Uh,hn];intro b hb;cases hb
      ·have ho:=hs.m.own _ _ _ _ hl
       obtain⟨xs,l,q1,q2,q3,q4⟩:=ho.own
       refine⟨aL,by simpa [E.lt]using aL,by rw[hd];exact ho.has,xs,l,by rw[hd];exact q1,?_,?_,q4⟩
       ·rw[Uh,wO];exact q2
       ·rw[Uh,wO,hsx,←hgx];exact q3
    ·intro g x b hx hb
     obtain⟨g0,x0,h1,h2,_⟩:=B0 g x b hx hb
     exact hs.m.dM g0 x0 b h1 h2
    ·intro g g' x y b hx hy hb fu
     obtain⟨g0,x0,l0,b0,c0⟩:=B0 g x b hx hb
     obtain⟨g1,x1,l1,b1,c1⟩:=B0 g' y b hy fu
     have he:=hs.m.gP g0 g1 x0 x1 b l0 l1 b0 b1
     subst he
     rcases c0 with⟨h1,rfl⟩|⟨j,z,s,ty,T0,hj,hz,hz2,hg⟩<;>rcases c1 with⟨h2,h3⟩|⟨j',z',s',ty',T0',yM,KD,ahh,wO⟩
     ·exact h3
     ·rcases EE g0 x hx with⟨_,_,_,qe⟩|⟨j0,_,_,_,_,_,_,Zh,_,_⟩
      ·exact absurd ahh (qe j' z' KD)
      ·rw[Zh]at h1;simp[jU]at h1;omega
     ·subst h3
      rcases EE g0 y hy with⟨_,_,_,qe⟩|⟨j0,_,_,_,_,_,_,Zh,_,_⟩
      ·exact absurd hz2 (qe j z hz)
      ·rw[Zh]at h2;simp[jU]at h2;omega
     ·have:=pP qq j j' g0 (by rw[List.getElem?_map,hz];simp[hz2]) (by rw[List.getElem?_map,KD];simp[ahh])
      subst this
      rw[hj]at yM;injection yM with yM;simp only[Prod.mk.injEq,Option.some.injEq]at yM
      rw[hg,wO,yM.2.2]
    ·intro g id x y b hx hy hb
     obtain⟨g0,x0,l0,b0,_⟩:=B0 g x b hx hb
     obtain⟨_,ci,h2,_⟩:=D7 id y.1 y.2 hy
     exact hs.m.cz g0 id x0 _ b l0 h2 b0
   ·
    intro t c s nh
    have htn:t<n:=by
     rcases Nat.lt_or_ge t n with h1|h1
     ·exact h1
     ·rw[bM.tm t h1]at nh;cases nh
    have:=aV.1 uE t (List.mem_range.2 htn)
    simp only[nh]at this
    split at this
    ·rename_i j ty T hsi
     simp only[aN]at this
     obtain⟨rfl,rfl⟩:=this
     obtain⟨_,hj⟩:=nE hsi
     rw[Nat.sub_zero]at hj
     obtain⟨y,hy,fp⟩:=OQ hj
     have hc: ∃c,σ.tm t=some ([], .one c)∧jO σ (.tmp t)=some c:=by
      unfold kM at fp
      cases hq:jO σ (.tmp t) with
      |none=>simp[hq]at fp
      |some c=>
       refine⟨c,?_,rfl⟩
       simp only[jO]at hq
       split at hq
       ·rename_i c' h';injection hq with hq;subst hq;exact h'
       ·cases hq
     obtain⟨c,qf,wH⟩:=hc
     obtain⟨v,h1,_,_,h4⟩:=hs.t t _ _ qf
     simp only[aq,List.all_nil,if_true]at h4
     have hr:=(slot hj wH h4).1
     refine⟨v,h1,by simp,?_,by simp only[aq,List.all_nil,if_true];exact hr⟩
     cases T with
     |none=>
      cases Ih:Gr ty with
      |none=>simp only[jc,Ih]at hr⊢;exact hr.1
      |some z=>simp only[jc,Ih]at hr;exact hr.elim
     |some T0=>
      obtain⟨T0,_|_⟩:=T0
      ·exact hr.2.1
      ·rfl
    ·simp only[aw,aN]at this
     obtain⟨⟨⟨h1,h2⟩,h3⟩,h4⟩:=this
     obtain⟨v,q1,q2,q3,q4⟩:=hs.t t c s h1
     have Oj: ∀x∈c,x.1.lt h.v0=true:=aV.1 h4
     have up: ∀{e:E},e.lt h.v0=true→e.lt (h.v0+h.size)=true:=by
      intro e
      induction e with
      |var i=>intro he;simp only[E.lt,aN]at he⊢;omega
      |ao|cF|Ci|eW|nil=>intro _;rfl
      |cons a b oh og=>intro he;simp only[E.lt,aw]at he⊢;exact⟨oh he.1,og he.2⟩
      |un o e ih=>intro he;exact ih he
      |bin o a b oh og=>intro he;simp only[E.lt,aw]at he⊢;exact⟨oh he.1,og he.2⟩
      |ite c a b L5 oh og=>intro he;simp only[E.lt,aw]at he⊢;exact⟨⟨L5 he.1.1,oh he.1.2⟩,og he.2⟩
     have upC: ∀{c:SC},c.lt h.v0=true→c.lt (h.v0+h.size)=true:=by
      intro c hc;cases c<;>simp only[SC.lt,aw]at hc⊢ <;>first|exact up hc|exact⟨up hc.1,up hc.2⟩
     have k7:aq C'.ρ c=aq C.ρ c:=by
      unfold aq
      rw[Bool.eq_iff_iff,aV,aV]
      constructor
      ·intro H x hx;rw[←bR sW (Oj x hx)];exact H x hx
      ·intro H x hx;rw[bR sW (Oj x hx)];exact H x hx
     refine⟨v,q1,fun x hx=>up (Oj x hx),?_,?_⟩
     ·cases s with
      |one c=>exact upC h2
      |agg l=>simp only[SV.lt,aV]at h2⊢;exact fun c hc=>upC (h2 c hc)
      |cW l=>simp only[SV.lt,aV]at h2⊢;exact fun x hx c hc=>upC (h2 x hx c hc)
     ·show if aq C'.ρ c=true then _ else _
      rw[k7]
      split
      ·rename_i m8;rw[if_pos m8]at q4
       exact SV.FD q4 h2 h3 shrink
      ·rename_i m8;rw[if_neg m8]at q4;exact q4
  ·cases iC
 ·cases iC
theorem Hn{h:Head}{es:List E}{ρ0:Nat→D}(hs:er n w0 S0 C G σ a w)(bM:JH n h)(iC:GI n h σ=some es)(aan: ∀i,i<h.v0→ρ0 i=C.ρ i)(lF: ∀i b,S0.pd i=some b→i<h.v0):
  es.length=h.size∧(∀(j:Nat) x e,h.fg[j]? =some x→es[j]? =some e→Has (kv x.2.1 x.2.2) (den C.ρ e))∧
  ∃G',er n w0 S0 ⟨dI ρ0 h.v0 (es.map (den C.ρ)),h.v0+h.size,fun i=>i<h.v0+h.size⟩ G' h.st a w:=by
 obtain⟨h1,h2,G',_,h3⟩:=NM hs bM iC aan lF
 exact⟨h1,h2,G',h3⟩
end
theorem E.vN{n m:Nat}(h:n≤m): ∀{e:E},e.lt n=true→e.lt m=true:=by
 intro e
 induction e with
 |var i=>intro he;simp only[E.lt,aN]at he⊢;omega
 |ao|cF|Ci|eW|nil=>intro _;rfl
 |cons a b oh og=>intro he;simp only[E.lt,aw]at he⊢;exact⟨oh he.1,og he.2⟩
 |un o e ih=>intro he;exact ih he
 |bin o a b oh og=>intro he;simp only[E.lt,aw]at he⊢;exact⟨oh he.1,og he.2⟩
 |ite c a b L5 oh og=>intro he;simp only[E.lt,aw]at he⊢;exact⟨⟨L5 he.1.1,oh he.1.2⟩,og he.2⟩
theorem Fz{ρ dK:Nat→D}{n:Nat}(h: ∀i,i<n→dK i=ρ i){c:bI}(hc:(c.all fun x=>x.1.lt n)=true):aq dK c=aq ρ c:=by
 unfold aq
 rw[aV]at hc
 rw[Bool.eq_iff_iff,aV,aV]
 constructor
 ·intro H x hx;rw[←bR h (hc x hx)];exact H x hx
 ·intro H x hx;rw[bR h (hc x hx)];exact H x hx
structure Gp where
 k:Nat
 g:Tag
 e:E
 T:TypeId
 dst:Option Nat
 unit:Bool
def XM(n:Nat):Option Nat→Bool
 |some d=>decide (d<n)
 |none=>true
def Z2(P:Program)(cs:lD)(n:Nat)(σ:St)(o:Oper):Option Gp:=
 match o.guard,o.op with
 |none, .call {callee:= .value f,args,argTypes}=>
  match dz P σ [] f 0,args.toList with
  |some (.one (.eV _ (.fn k .nil))),[x] =>
   match lk cs.l k,dz P σ [] x (argTypes.getD 0 0) with
   |some sig,some (.one (.own g _ _))=>
    match sig.ob,σ.live g with
    |some ob,some (e,T,t)=>
     if ob.wV=true∧t= .int .i64∧XM n o.dst=true then some ⟨k,g,e,T,o.dst,sig.res.isEmpty⟩ else none
    |_,_=>none
   |_,_=>none
  |_,_=>none
 |_,_=>none
def RZ(P:Program)(cs:lD)(σ:St)(o:Oper):Bool:=
 match o.op with
 | .call {callee:= .value f, .. }=>match dz P σ [] f 0 with
  |some (.one (.eV _ (.fn k .nil)))=>match lk cs.l k with
   |some sig=>match sig.ob with
    |some ob=>ob.wV
    |none=>false
   |none=>false
  |_=>false
 |_=>false
def PG(P:Program)(cs:lD)(σ:St)(ops:Array Oper)(draw:Bool):Option Nat:=
 if draw||cs.fr !=0 then none else(List.range ops.size).find? fun i=>match ops[i]? with
  |some o=>RZ P cs σ o
  |none=>false
theorem RO{P:Program}{cs:lD}{σ:St}{ops:Array Oper}{draw:Bool}{c:Nat}(h:PG P cs σ ops draw=some c):draw=false∧cs.fr=0∧c<ops.size:=by
 unfold PG at h
 split at h
 ·cases h
 ·rename_i hd
  simp only[Bool.or_eq_true,not_or,Bool.not_eq_true,bne_iff_ne,ne_eq,Decidable.not_not]at hd
  exact⟨hd.1,hd.2,by simpa using List.mem_of_find?_eq_some h⟩
def acH:SC→Bool
 | .eV _ (.int _)=>true
 | .eV _ .bool=>true
 |_=>false
def XF(x:Gp)(p:Nat)(tm:Nat→Option (bI×SV))(t:Nat):Option (bI×SV):=
 if x.dst=some t then(if x.unit then none else some ([], .one (.own (p,0) (.var p) (.int .i64))))
 else match tm t with
  |some (c, .one s)=>if acH s then some (c, .one s) else match s with
    | .own g' _ _=>if g'=x.g∧x.unit=true∧c=[] then some ([], .one (.own (p,0) (.var p) (.int .i64))) else none
    |_=>none
  |_=>none
def Gp.after(x:Gp)(σ:St)(p:Nat):St:=
 ⟨XF x p σ.tm,fun _=>none,fun y=>if y=(p,0) then some (.var p,x.T, .int .i64) else none⟩
theorem rq{l:List D}(h: ∀x∈l,Has (.int .i64) x): ∃zs:List Int,l=zs.map (D.int .i64):=by
 induction l with
 |nil=>exact⟨[],rfl⟩
 |cons d l ih=>
  obtain⟨zs,rfl⟩:=ih fun x hx=>h x (List.mem_cons_of_mem _ hx)
  obtain⟨n,rfl,_⟩:=bF.1 (h d (List.mem_cons_self ..))
  exact⟨n::zs,rfl⟩
theorem NX{w w':World}{b o:Nat}(h:w'.heap[b]? =w.heap[b]?):w'.cell? ⟨b,o,none⟩=w.cell? ⟨b,o,none⟩:=by
 simp only[World.cell?,h]
theorem Q9{w:World}{base:Nat}{T:TypeId}{v:Value}{m:Nat}{xs:List Value}(h:w.ownsRow base T 1 v m xs){b:Nat}(hb:v.ownBlock=some b):b<w.heap.size:=by
 rcases h.2 with⟨rfl,_⟩|⟨g,cap,cur,rfl,_,hg,_⟩
 ·cases hb
 ·simp only[Value.ownBlock,Option.some.injEq]at hb
  subst hb
  exact(Array.getElem?_eq_some_iff.1 hg).1
section
variable{P:Program}{w w0:World}{S0:ew}{ρ:Nat→D}{p:Nat}{G:Gh}{σ:St}{a:Act}{n:Nat}
theorem gh.ints{C:Cx}{g:Tag}{e:E}{T:TypeId}(h:gh C w 0 G g e T (.int .i64)): ∃zs:List Int,den C.ρ e= .list (zs.map (D.int .i64))∧w.ownsRow 0 T 1 (G.τ g) zs.length (zs.map (Value.int .i64)):=by
 obtain⟨xs,l,hl,bw,_,hr⟩:=h.own
 have hh:=h.has
 rw[hl]at hh
 obtain⟨_,h1,_,h2⟩:=aD.1 hh
 injection h1 with h1;subst h1
 obtain⟨zs,rfl⟩:=rq h2
 refine⟨zs,hl,?_⟩
 have e1:xs=zs.map (Value.int .i64):=by
  apply List.ext_getElem?
  intro i
  have hlen:xs.length=zs.length:=by
   have h:xs.length=(zs.map (D.int .i64)).length*1:=bw.1
   rw[List.length_map,Nat.mul_one]at h;exact h
  by_cases hi:i<zs.length
  ·have hx:xs[i]? =some xs[i] :=av (by omega)
   have hz:(zs.map (D.int .i64))[i]? =some (.int .i64 zs[i]):=by simp[hi]
   have:=hr i _ 0 xs[i] (.int .i64 zs[i]) hz rfl (by show xs[i*1+0]? =_;rw[Nat.mul_one,Nat.add_zero];exact hx)
   rw[hx,this.bD];simp[hi]
  ·rw[List.getElem?_eq_none (by omega),List.getElem?_eq_none (by simp;omega)]
 have uX:w.ownsRow 0 T 1 (G.τ g) (zs.map (D.int .i64)).length xs:=bw
 rw[List.length_map]at uX
 rw[←e1];exact uX
theorem er.abW{x:Gp}{u v':Value}{ys:List Int}{w':World}(hs:er n w0 S0 ⟨ρ,p,fun i=>i<p⟩ G σ a w)(sZ: ∀b o,S0.gV b o→ ¬gH w0 S0 b)(hg: ∃e,σ.live x.g=some (e,x.T, .int .i64))
  (cp: ∀d,x.dst=some d→d<n) (nK: ¬S0.fr) (jg: ¬S0.wz) (hh:Has (.list (.int .i64)) (.list (ys.map (D.int .i64)))) (ho:YN w x.T (G.τ x.g) x.unit ys u v' w'):
  ∃G',er n w0 S0 ⟨dp ρ p (.list (ys.map (D.int .i64))),p+1,fun i=>i<p+1⟩ G' (x.after σ p) (a.put x.dst u) w':=by
 obtain⟨e,hg⟩:=hg
 have dq: ∀b,v'.ownBlock=some b→gH w0 S0 b:=fun b hb=>hs.m.dM x.g _ b hg (by rw[←ho.B0];exact hb)
 have XE: ∀b,(G.τ x.g).ownBlock=some b→gH w0 S0 b:=fun b hb=>hs.m.dM x.g _ b hg hb
 have jN: ∀b o,S0.gV b o→w'.heap[b]? =w.heap[b]? :=fun b o hb=>ho.below.block b (hs.m.bL b o (hs.m.ic b o hb)) (fun h=>sZ b o hb (XE b h))
 have zH: ∀i,i<p→(dp ρ p (.list (ys.map (D.int .i64)))) i=ρ i:=fun i hi=>cS _ _ (by omega)
 have hv:den (dp ρ p (.list (ys.map (D.int .i64)))) (.var p)= .list (ys.map (D.int .i64)):=ca _ _ _
 have fa: ∀(S:aO),(∀b,v'.ownBlock=some b→ ∀o,o<ys.length→S b o)→bj w' S v' (.list (ys.map (D.int .i64))):=by
  intro S hS
  rcases ho.own.2 with⟨rfl,h0⟩|⟨gb,cap,cur,rfl,_,fq,hle,_,fo,FZ⟩
  ·have:ys=[] :=List.eq_nil_of_length_eq_zero h0
   subst this;exact .nil none 0
  ·cases Ov:ys with
   |nil=>exact .nil _ _
   |cons y0 yr=>
    rw[←Ov]
    have hlen:(ys.map (D.int .i64)).length=ys.length:=by simp
    have:=bj.list (w:=w') (S:=S) gb 0 cap 1 (ys.map (Value.int .i64)) (ys.map (D.int .i64)) (by omega) (by rw[Ov];simp) (by simpa using hle) (by simp)
     (fun i hi=>by rw[Nat.zero_add];exact hS gb rfl i (by simpa using hi))
     (fun i v hi=>by
      rw[cell_of_row w' gb (0+i) cur x.T (0,0) fq,Nat.zero_add]
      have h1:(cur.toList.take (ys.length*1))[i]? =some v:=by rw[FZ];exact hi
      rw[List.getElem?_take]at h1
      split at h1
      ·simpa using h1
      ·cases h1)
     (fun i d hd=>by
      simp only[List.getElem?_map,br]at hd
      obtain⟨z,_,rfl⟩:=hd;rfl)
     (fun i d j v c hd hc hx=>by
      simp only[List.getElem?_map,br]at hd
      obtain⟨z,hz,rfl⟩:=hd
      cases j with
      |succ j=>simp[D.cells]at hc
      |zero=>
       simp only[D.cells,List.getElem?_cons_zero,Option.some.injEq]at hc;subst hc
       rw[Nat.mul_one,Nat.add_zero,List.getElem?_map,hz]at hx
       simp only[Option.map_some,Option.some.injEq]at hx;subst hx
       exact .int _ _)
    rwa [hlen]at this
 let S':aO:=fun b o=>S0.gV b o∨(v'.ownBlock=some b∧o<ys.length)
 have TJ: ∀b,v'.ownBlock=some b→ ∀o,S' b o↔o<ys.length:=fun b hb o=>
  ⟨fun h=>h.elim (fun h=>absurd (dq b hb) (sZ b o h)) (fun h=>h.2),fun h=> .inr ⟨hb,h⟩⟩
 have aka:=fa S' (fun b hb o h=>(TJ b hb o).2 h)
 let G':Gh:=⟨S',G.β,fun y=>if y=(p,0) then v' else G.τ y⟩
 have eJ:G'.τ (p,0)=v':=if_pos rfl
 have hM:(fun i=>i<p+1) p:=Nat.lt_succ_self p
 have Uk:(E.var p).lt (p+1)=true:=by simp[E.lt]
 have bw:gh ⟨dp ρ p (.list (ys.map (D.int .i64))),p+1,fun i=>i<p+1⟩ w' 0 G' (p,0) (.var p) x.T (.int .i64):=by
  refine⟨hM,Uk,by rw[hv];exact hh,ys.map (Value.int .i64),ys.map (D.int .i64),hv,?_,?_,?_⟩
  ·rw[eJ,List.length_map];exact ho.own
  ·intro b hb o
   rw[eJ]at hb
   rw[List.length_map];exact(TJ b hb o).trans ⟨fun h=>⟨rfl,h⟩,And.right⟩
  ·intro i d j v c hd hc hx
   simp only[List.getElem?_map,br]at hd
   obtain⟨z,hz,rfl⟩:=hd
   cases j with
   |succ j=>simp[D.cells]at hc
   |zero=>
    simp only[D.cells,List.getElem?_cons_zero,Option.some.injEq]at hc;subst hc
    have e1:(Ty.int .i64).cells.length=1:=rfl
    rw[e1,Nat.mul_one,Nat.add_zero,List.getElem?_map,hz]at hx
    simp only[Option.map_some,Option.some.injEq]at hx;subst hx
    exact .int _ _
 have bf: ∀y z,(x.after σ p).live y=some z→y=(p,0)∧z=(.var p,x.T, .int .i64):=by
  intro y z hy
  simp only[Gp.after]at hy
  split at hy
  ·rename_i h;injection hy with hy;exact⟨h,hy.symm⟩
  ·cases hy
 have jC:pX ⟨dp ρ p (.list (ys.map (D.int .i64))),p+1,fun i=>i<p+1⟩ w' G' (.own (p,0) (.var p) (.int .i64)) v':=
  ⟨hM,Uk,by rw[hv];exact aka,by rw[hv];exact hh,eJ.symm⟩
 refine⟨G',⟨⟨?_,fun b o h=> .inl h,?_,?_,hs.m.jK,?_,?_,?_,?_,?_,?_,?_,?_,?_,fun h=>absurd h nK,fun h=>absurd h jg⟩,?_,by rw[Act.AS];exact hs.sz,by rw[Act.Lw];exact hs.defers⟩⟩
 ·refine⟨ho.below.os.trans hs.m.below.os,ho.below.tape.trans hs.m.below.tape,ho.below.output.trans hs.m.below.output,Nat.le_trans hs.m.below.size ho.below.size,fun k hk uw=> ?_⟩
  rw[ho.below.block k (Nat.lt_of_lt_of_le hk hs.m.below.size) (fun h=>(XE k h).elim (fun h=>absurd hk (Nat.not_lt.2 h)) uw),hs.m.below.block k hk uw]
 ·intro b o h
  rw[NX (jN b o h)];exact hs.m.keep b o h
 ·intro i b hi
  obtain⟨h1,h2⟩:=hs.m.pd i b hi
  exact⟨Nat.lt_succ_of_lt h1,h2⟩
 ·rintro b o (h|⟨h,_⟩)
  ·exact Nat.lt_of_lt_of_le (hs.m.bL b o (hs.m.ic b o h)) ho.below.size
  ·exact Q9 ho.own h
 ·rintro b o (h|⟨h,_⟩)
  ·exact .inl h
  ·exact .inr (dq b h)
 ·intro id y hy;cases hy
 ·intro id ro cs hy;cases hy
 ·intro i j y z hy;cases hy
 ·intro g' e' T' t' hy
  obtain⟨rfl,h2⟩:=bf _ _ hy
  simp only[Prod.mk.injEq]at h2
  obtain⟨rfl,rfl,rfl⟩:=h2
  exact bw
 ·intro g' z b hy hb
  obtain⟨rfl,_⟩:=bf _ _ hy
  rw[eJ]at hb;exact dq b hb
 ·intro g1 g2 y z b h1 h2 _ _
  rw[(bf _ _ h1).1,(bf _ _ h2).1]
 ·intro g' id y z b _ hy;cases hy
 ·intro t c s ht
  simp only[Gp.after,XF]at ht
  split at ht
  ·rename_i hd
   split at ht
   ·cases ht
   ·rename_i hu
    simp only[Option.some.injEq,Prod.mk.injEq]at ht
    obtain⟨rfl,rfl⟩:=ht
    have cw:=ho.res
    rw[if_neg hu]at cw
    subst cw
    have aL:t<a.tmps.size:=by rw[hs.sz];exact cp t hd
    refine⟨u,by rw[hd];simp[Act.put,aL],by simp,Uk,?_⟩
    have:aq (dp ρ p (.list (ys.map (D.int .i64)))) ([] :bI)=true:=rfl
    rw[if_pos this];exact jC
  ·rename_i hd
   have ahy: ∀v,a.tmps[t]? =some v→(a.put x.dst u).tmps[t]? =some v:=by
    intro v hv
    unfold Act.put
    cases wP:x.dst with
    |none=>exact hv
    |some d=>
     have dH:d≠t:=fun h=>hd (by rw[wP,h])
     simp only
     rw[Array.getElem?_setIfInBounds_ne dH];exact hv
   split at ht
   ·rename_i c' s' mj
    obtain⟨v,h1,h2,h0,h3⟩:=hs.t t c' _ mj
    have tP: ∀y∈c',y.1.lt (p+1)=true:=fun y hy=>E.vN (Nat.le_succ p) (h2 y hy)
    have Io:aq (dp ρ p (.list (ys.map (D.int .i64)))) c'=aq ρ c':=Fz zH (aV.2 h2)
    split at ht
    ·rename_i jM
     simp only[Option.some.injEq,Prod.mk.injEq]at ht
     obtain⟨rfl,rfl⟩:=ht
     obtain⟨e',k',hse⟩: ∃(e':E) (ty:Ty),s'= .eV e' ty∧((∃k,ty= .int k)∨ty= .bool):=by
      cases s' with
      |eV e' ty=>
       cases ty with
       |int k=>exact⟨e',_,rfl, .inl ⟨k,rfl⟩⟩
       |bool=>exact⟨e',_,rfl, .inr rfl⟩
       |_=>cases jM
      |_=>cases jM
     obtain⟨rfl,fV⟩:=hse
     have F3:e'.lt p=true:=h0
     refine⟨v,ahy v h1,tP,E.vN (Nat.le_succ p) F3,?_⟩
     rw[Io]
     have Zn:if aq ρ c'=true then wQ ⟨ρ,p,fun i=>i<p⟩ w G (.one (.eV e' k')) v else v=undef:=h3
     split
     ·rename_i hc
      rw[if_pos hc]at Zn
      obtain⟨_,q2,q3⟩:=Zn
      have KL:den (dp ρ p (.list (ys.map (D.int .i64)))) e'=den ρ e':=bR zH F3
      refine⟨E.vN (Nat.le_succ p) F3,?_,by rw[KL];exact q3⟩
      rw[KL]
      rcases fV with⟨k,rfl⟩|rfl
      ·obtain⟨m,hm,_⟩:=bF.1 q3
       have q2':bj w G.S v (den ρ e'):=q2
       have OG:den ρ e'= .int k m:=hm
       rw[OG]at q2'⊢
       rw[q2'.bD];exact .int _ _
      ·obtain⟨m,hm⟩:=bA.1 q3
       have q2':bj w G.S v (den ρ e'):=q2
       have OG:den ρ e'= .bool m:=hm
       rw[OG]at q2'⊢
       rw[q2'.eH];exact .bool _
     ·rename_i hc
      rw[if_neg hc]at Zn;exact Zn
    ·split at ht
     ·rename_i g' _ _
      split at ht
      ·rename_i hc
       obtain⟨rfl,hu,rfl⟩:=hc
       simp only[Option.some.injEq,Prod.mk.injEq]at ht
       obtain⟨rfl,rfl⟩:=ht
       have cw:=ho.res
       rw[if_pos hu]at cw
       subst cw
       have:aq ρ ([] :bI)=true:=rfl
       have Zn:=h3
       rw[if_pos this]at Zn
       obtain⟨_,_,_,_,aqn⟩:=Zn
       refine⟨v,ahy v h1,by simp,Uk,?_⟩
       have:aq (dp ρ p (.list (ys.map (D.int .i64)))) ([] :bI)=true:=rfl
       rw[if_pos this,aqn];exact jC
      ·cases ht
     ·cases ht
   ·cases ht
theorem UU{cs:lD}{Φ:Nat→List D→D}{Pre:Nat→List D→Prop}{ops:Array Oper}{o:Oper}{x:Gp}(h:Z2 P cs n σ o=some x)(fb: ∀k sig,lk cs.l k=some sig→ax P k sig (Pre k) (Φ k))
  (hs:er n w0 S0 ⟨ρ,p,fun i=>i<p⟩ G σ a w) (gE:Pre x.k [den ρ x.e]) (tF: ∀k sig ob,lk cs.l k=some sig→sig.ob=some ob→ob.wV=true→ ∀b o,S0.gV b o→ ¬gH w0 S0 b) (nK: ¬S0.fr) (jg: ¬S0.wz):
  ∀(next:Act→World→Prop) (Q:Exit→Act→World→Prop),(∀a' w' G',er n w0 S0 ⟨dp ρ p (Φ x.k [den ρ x.e]),p+1,fun i=>i<p+1⟩ G' (x.after σ p) a' w'→next a' w')→Region.wanted o (yielded ops a.tmps)=true∧o.wp P a w next Q:=by
 intro next Q hQ
 unfold Z2 at h
 split at h
 ·rename_i f args argTypes DS hop
  split at h
  ·rename_i fe k y hf cZ
   split at h
   ·rename_i sig g _ _ hk hy
    split at h
    ·rename_i ob e T t dw zk
     split at h
     ·rename_i hc
      obtain⟨ahz,rfl,cp⟩:=hc
      injection h with h;subst h
      have sZ:=tF k sig ob hk dw ahz
      have bw:=hs.m.own g e T (.int .i64) zk
      obtain⟨zs,hz,Mx⟩:=bw.ints
      have XD:=fb k sig hk
      have Mf:a.eval f= .func (.func k) #[] #[] :=by
       obtain⟨_,h2,h3⟩:=bg hs.t (pc:=[]) rfl hf
       obtain⟨l,hl,D6⟩:=jl.1 h3
       rw[bE.1 D6]at hl
       rw[hl]at h2
       obtain⟨cv,DT,hlen,_⟩:=h2.tW
       rw[DT,List.eq_nil_of_length_eq_zero hlen]
      have fp:a.eval y=G.τ g:=(bg hs.t (pc:=[]) rfl hy).2.2.2.2
      have pw:args.map a.eval= #[G.τ g] :=by
       apply Array.ext'
       rw[Array.toList_map,cZ];simp[fp]
      have cM:(execOp a.eval o).run P w= .ok (.enter k #[G.τ g]) w:=by
       unfold execOp;simp only[hop,resolve,Mf,Deferred.ofValue,pw]
       have:=XD.enter #[G.τ g] w
       simpa [invoke]using this
      refine⟨by unfold Region.wanted;rw[DS],?_⟩
      unfold Oper.wp
      rw[cM]
      have KD:den ρ e= .list (zs.map (D.int .i64)):=hz
      have eS:Has (.list (.int .i64)) (.list (zs.map (D.int .i64))):=by rw[←KD];exact bw.has
      have iV:Pre k [.list (zs.map (D.int .i64))] :=by rw[←KD];exact gE
      refine(XD.I9 ob dw ahz w T (G.τ g) zs Mx eS iV).mono ?_
      rintro e' w' ⟨u,v',ys,rfl,V7,hh,gF⟩
      simp only
      obtain⟨G',sY⟩:=er.abW (x:=⟨k,g,e,T,o.dst,sig.res.isEmpty⟩) hs sZ ⟨e,zk⟩ (fun d hd=>by
       have gZ:o.dst=some d:=hd
       rw[gZ]at cp;simpa [XM]using cp) nK jg hh gF
      refine hQ _ w' G' ?_
      rw[KD,V7];exact sY
     ·cases h
    ·cases h
   ·cases h
  ·cases h
 ·cases h
end
structure E3(P:Program)(f:Nat)(params:List Ty)(res:Ty)(Pre:List D→Prop)(Φ:List D→D):Prop where
 enter: ∀(args:Array Value) (w:World),(callFunc f args).run P w= .ok (.enter f args) w
 calls: ∀(w:World) (S:aO) (vs:List Value) (ds:List D),(∀b o,S b o→b<w.heap.size)→vs.length=ds.length→(∀(i:Nat) v d,vs[i]? =some v→ds[i]? =some d→bj w S v d)→
  bV (.bQ params) ds→Pre ds→
  Calls P f vs.toArray w fun e w'=> ∃v F,e= .returned v∧Below w.heap.size w w'∧(∀b o,F b o→w.heap.size≤b∧b<w'.heap.size∧ ∃cur T,w'.heap[b]? =some (.cells cur T (0,0)))∧bj w' F v (Φ ds)∧Has res (Φ ds)
structure JG(P:Program)(f:Nat)(params:List Ty)(res:Ty):Prop where
 enter: ∀(args:Array Value) (w:World),(callFunc f args).run P w= .ok (.enter f args) w
 calls: ∀(w:World) (S:aO) (vs:List Value) (ds:List D),(∀b o,S b o→b<w.heap.size∧ ∃cur T,w.heap[b]? =some (.cells cur T (0,0)))→vs.length=ds.length→(∀(i:Nat) v d,vs[i]? =some v→ds[i]? =some d→bj w S v d)→
  bV (.bQ params) ds→
  Calls P f vs.toArray w fun e w'=> ∃v S' d,e= .returned v∧dU (fun b=> ∃o,S b o) w w'∧(∀b o,S' b o→(∃o',S b o')∨w.heap.size≤b)∧
   (∀b o,S' b o→b<w'.heap.size∧ ∃cur T,w'.heap[b]? =some (.cells cur T (0,0)))∧bj w' S' v d∧Has res d
abbrev UH:=List (Nat×(List Ty×Ty))
section
variable{P:Program}{w w0:World}{S0:ew}{ρ:Nat→D}{p:Nat}{G:Gh}{σ:St}{a:Act}{n:Nat}
theorem JI{ops:Array Oper}{o:Oper}{i:Nat}{rest:List Nat}{Q:Exit→Act→World→Prop}(ho:ops[i]? =some o)(hg:o.guard=none)(h:o.wp P a w (wpOps P ops Q rest) Q):wpOps P ops Q (i::rest) a w:=by
 simp only[wpOps,ho]
 rw[if_pos (by unfold Region.wanted;rw[hg])]
 exact .inl h
end
def ue:Operand→Bool
 | .const (.slice none 0 0)=>true
 |_=>false
def aah(P:Program)(n q:Nat)(σ:St)(o:Oper):Option (Nat×E):=
 match o.dst,o.guard,o.op with
 |some t,none, .binOp .eql T x y _=>
  if ue y=true∧t<n then
   match cV P σ [] x T,P.underlying T with
   |some (e, .list _),some (.slice _)=>if e.lt q then some (t,e) else none
   |_,_=>none
  else none
 |_,_,_=>none
def F8(σ:St)(t:Nat)(c:SC):St:=⟨dp σ.tm t (some ([], .one c)),σ.hp,σ.live⟩
section
variable{P:Program}{w w0:World}{S0:ew}{ρ:Nat→D}{p:Nat}{G:Gh}{σ:St}{a:Act}{n:Nat}
theorem wx{t el:TypeId}(hu:P.underlying t=some (.slice el))(p:Option Addr)(m c d:Nat):(Op.equalIn (d+1) t (.slice p m c) (.slice none 0 0)).run P w= .ok p.isNone w:=by
 cases p<;>simp[Op.equalIn,run_underlying hu]
theorem Fb{t el:TypeId}(hu:P.underlying t=some (.slice el))(p:Option Addr)(m c:Nat)(x y:Operand):
  (do eqGuard .eql t x y (.slice p m c) (.slice none 0 0);binOp .eql t (.slice p m c) (.slice none 0 0):Sem Value).run P w= .ok (.bool p.isNone) w:=by
 have h1:binOp .eql t (.slice p m c) (.slice none 0 0)=(do pure (.bool (←Op.equalIn (9999+1) t (.slice p m c) (.slice none 0 0)))):=rfl
 have h2:eqGuard .eql t x y (.slice p m c) (.slice none 0 0)=pure ():=rfl
 rw[h1,h2,Sem.run_bind,Sem.run_pure,Result.andThen_ok,Sem.run_bind,wx hu];rfl
theorem RK{w:World}{S:aO}{m c:Nat}{l:List D}(h:bj w S (.slice none m c) (.list l)):l.length=0:=by
 generalize hv:Value.slice none m c=v at h
 generalize hd:D.list l=d at h
 cases h<;>first
  |(cases hd;done)
  |(injection hd with hd;subst hd;rfl)
  |cases hv
theorem er.Q5(hs:er n w0 S0 ⟨ρ,p,fun i=>i<p⟩ G σ a w)(d:D){t:Nat}(ht:t<n){v:Value}{c:SC}(hl:c.lt (p+1)=true)(hc:pX ⟨dp ρ p d,p+1,fun i=>i<p+1⟩ w G c v):
  er n w0 S0 ⟨dp ρ p d,p+1,fun i=>i<p+1⟩ G (F8 σ t c) (a.put (some t) v) w:=by
 have zH: ∀i,i<p→dp ρ p d i=ρ i:=fun i hi=>cS _ _ (by omega)
 have aU:bO ⟨ρ,p,fun i=>i<p⟩ w G ⟨dp ρ p d,p+1,fun i=>i<p+1⟩ w G:=
  ⟨fun e he=>⟨bR zH he,E.vN (Nat.le_succ p) he⟩,fun i hi=>Nat.lt_succ_of_lt hi,fun _ _ h=>h,fun _ _ _=>rfl,fun _ _=>rfl,fun _ _=>rfl⟩
 have h1:=hs.fm aU
 refine⟨h1.m.congr rfl rfl,?_,by rw[Act.AS];exact hs.sz,hs.defers⟩
 intro t' c' s nh
 simp only[F8]at nh
 by_cases FY:t'=t
 ·subst FY
  simp only[ca,Option.some.injEq,Prod.mk.injEq]at nh
  obtain⟨rfl,rfl⟩:=nh
  refine⟨v,?_,by simp,hl,?_⟩
  ·have:=hs.sz
   simp[Act.put,this,ht]
  ·simp only[aq,List.all_nil,if_true]
   exact hc
 ·rw[cS _ _ FY]at nh
  obtain⟨u,q1,q2,q3,q4⟩:=h1.t t' c' s nh
  refine⟨u,?_,q2,q3,q4⟩
  simp only[Act.put]
  rw[Array.getElem?_setIfInBounds_ne (Ne.symm FY)]
  exact q1
theorem Vn{ops:Array Oper}{c t:Nat}{o:Oper}{e:E}(ho:ops[c]? =some o)(h:aah P n p σ o=some (t,e))(hs:er n w0 S0 ⟨ρ,p,fun i=>i<p⟩ G σ a w)(Q:Exit→Act→World→Prop)(rest:List Nat)
  (h1:(den ρ e).ak.length=0→ ∀b:Bool,∀a',er n w0 S0 ⟨dp ρ p (.bool b),p+1,fun i=>i<p+1⟩ G (F8 σ t (.eV (.var p) .bool)) a' w→wpOps P ops Q rest a' w)
  (h2:(den ρ e).ak.length≠0→ ∀a',er n w0 S0 ⟨dp ρ p (.bool false),p+1,fun i=>i<p+1⟩ G (F8 σ t (.eV (.cF false) .bool)) a' w→wpOps P ops Q rest a' w):
  wpOps P ops Q (c::rest) a w:=by
 unfold aah at h
 split at h
 ·rename_i t0 T x y yt hd hg hop
  split at h
  ·rename_i hny
   obtain⟨hny,htn⟩:=hny
   have hyc:y= .const (.slice none 0 0):=by
    unfold ue at hny
    split at hny
    ·rfl
    ·cases hny
   subst hyc
   split at h
   ·rename_i e' u el hx hu
    split at h
    ·injection h with h;simp only[Prod.mk.injEq]at h;obtain⟨rfl,rfl⟩:=h
     obtain⟨x1,x2,x3⟩:=bT hs.t (pc:=[]) rfl hx
     obtain⟨l,hl,_⟩:=aD.1 x3
     have hlr:den ρ e'= .list l:=hl
     have x2':bj w G.S (a.eval x) (.list l):=by rw[←hlr];exact x2
     obtain⟨A,cap,hv⟩:=x2'.oV
     have cM:(execOp a.eval o).run P w= .ok (.value (.bool A.isNone)) w:=by
      have mJ:(execOp a.eval o)=(do let v←(do eqGuard .eql T x (.const (.slice none 0 0)) (a.eval x) (a.eval (.const (.slice none 0 0)));binOp .eql T (a.eval x) (a.eval (.const (.slice none 0 0))):Sem Value);pure (.value v)):=by unfold execOp;simp only[hop]
      have he:a.eval (.const (.slice none 0 0))= .slice none 0 0:=rfl
      have h3:=Fb (P:=P) (w:=w) hu A l.length cap x (.const (.slice none 0 0))
      rw[mJ,he,hv,Sem.run_bind,h3];rfl
     refine JI ho hg ?_
     rw[Oper.wp,cM]
     show wpOps P ops Q rest (a.put o.dst (.bool A.isNone)) w
     rw[hd]
     by_cases SY:l.length=0
     ·refine h1 (by rw[hlr];exact SY) A.isNone _ (hs.Q5 _ htn (by simp[SC.lt,E.lt]) ⟨by simp[E.lt],?_,?_⟩)
      ·show bj w G.S _ (dp ρ p (.bool A.isNone) p)
       rw[ca];exact .bool _
      ·show Has .bool (dp ρ p (.bool A.isNone) p)
       rw[ca];exact bA.2 ⟨_,rfl⟩
     ·have hA:A.isNone=false:=by
       cases hA:A with
       |some _=>rfl
       |none=>
        exfalso
        rw[hA]at hv
        rw[hv]at x2'
        exact SY (RK x2')
      rw[hA]
      exact h2 (by rw[hlr];exact SY) _ (hs.Q5 _ htn (by simp[SC.lt,E.lt]) ⟨by simp[E.lt], .bool _,bA.2 ⟨_,rfl⟩⟩)
    ·cases h
   ·cases h
  ·cases h
 ·cases h
end
def WP(ro:Option Nat)(P:Program)(c:Code)(Q:Exit→Act→World→Prop)(a:Act)(w:World):Prop:=
 match ro with
 |none=>c.wp P Q a w
 |some l=>c.wpIn (Fence.wide.inRound l) 0 P Q a w
def rP:Op→Bool
 | .defer _=>true
 |_=>false
def dS:Code→Bool
 | .region _ ops _=>ops.toList.all fun o=> !rP o.op
 | .seq a b=>dS a&&dS b
 | .cond _ a b=>dS a&&dS b
 | .block _ c| .loop c=>dS c
 | .skip| .label _| .exit _| .ret=>true
 |_=>false
section
variable{P:Program}{ro:Option Nat}{Q:Exit→Act→World→Prop}{a:Act}{w:World}
theorem Bj{l n:Nat}(h:(Fence.wide.inRound l).depth.isSome=true):1≤n:=by simp[Fence.wide]at h
theorem MU{o:Oper}{l:Nat}{next:Act→World→Prop}{r:Result Next}(h:o.upon P a next Q r):o.uponIn (Fence.wide.inRound l) 0 P a next Q r:=by
 cases r with
 |ok x w'=>
  cases x<;>simp only[Oper.upon,Oper.uponIn]at h⊢ <;>first
   |exact h
   |exact⟨Bj,CallsIn.inRound l (callsIn_wide.2 h)⟩
   |exact⟨Bj,fun c cs _=>let ⟨v,w2,r1,s⟩:=h c cs;⟨v,w2,r1,stepsIn_wide.2 s⟩⟩
 |halt x w'=>cases x<;>simp only[Oper.upon,Oper.uponIn]at h⊢ <;>exact h
theorem Lz{o:Oper}{l:Nat}{next:Act→World→Prop}(qq:rP o.op=false)(h:o.wp P a w next Q):o.wpIn (Fence.wide.inRound l) 0 P a w next Q:=by
 refine⟨fun _ _=>trivial,?_⟩
 rw[Oper.semAt_eq _ _ _ (fun c hc=>by rw[hc]at qq;cases qq)]
 exact MU h
theorem vI{ops:Array Oper}{l:Nat}(qq:(ops.toList.all fun o=> !rP o.op)=true)(gF: ∀a w,¬Q .outgrown a w): ∀(is:List Nat) (a:Act) (w:World),wpOps P ops Q is a w→wpOpsIn (Fence.wide.inRound l) 0 P ops Q is a w
 | [],a,w,h=>h
 |i::is,a,w,h=>by
  simp only[wpOps,wpOpsIn]at h⊢
  cases ho:ops[i]? with
  |none=>simp only[ho]at h;exact vI qq gF is a w h
  |some o=>
   simp only[ho]at h⊢
   have hd:rP o.op=false:=by
    have:=aV.1 qq o (by simpa using Array.mem_of_getElem? ho)
    simpa using this
   split
   ·rename_i hw
    rw[if_pos hw]at h
    rcases h with h|⟨_,a0,w0,h⟩
    ·have h1:o.wp P a w (wpOpsIn (Fence.wide.inRound l) 0 P ops Q is) Q:=Oper.wp_mono (fun a w h=>vI qq gF is a w h) h
     exact Lz hd h1
    ·exact absurd h (gF _ _)
   ·rename_i hw
    rw[if_neg hw]at h
    exact⟨fun _ _=>trivial,vI qq gF is _ _ h⟩
theorem vR{ops:Array Oper}{l:Nat}{md:Region.Mode}(qq:(ops.toList.all fun o=> !rP o.op)=true)(gF: ∀a w,¬Q .outgrown a w): ∀(fuel:Nat) (aP:Array Bool) (a:Act) (w:World),wpAny P md ops Q fuel aP a w→wpAnyIn (Fence.wide.inRound l) 0 P md ops Q fuel aP a w
 |0,_,_,_,h=>h
 |fuel+1,aP,a,w,h=>by
  refine⟨h.1,fun i hi=> ?_⟩
  have h1:=h.2 i hi
  unfold wpOp at h1
  unfold wpOpIn
  cases ho:ops[i]? with
  |none=>simp only[ho]at h1⊢;exact vR qq gF fuel _ _ _ h1
  |some o=>
   simp only[ho]at h1⊢
   have hd:rP o.op=false:=by
    have:=aV.1 qq o (by simpa using Array.mem_of_getElem? ho)
    simpa using this
   split
   ·rename_i hw
    rw[if_pos hw]at h1
    rcases h1 with h1|⟨_,a0,w0,h1⟩
    ·exact Lz hd (Oper.wp_mono (fun a w h=>vR qq gF fuel _ a w h) h1)
    ·exact absurd h1 (gF _ _)
   ·rename_i hw
    rw[if_neg hw]at h1
    exact⟨fun _ _=>trivial,vR qq gF fuel _ _ _ h1⟩
def MR(ro:Option Nat)(c:Code)(Q:Exit→Act→World→Prop):Prop:=ro.isSome=true→dS c=true∧ ∀a w,¬Q .outgrown a w
theorem WP.skip(h:Q .normal a w):WP ro P .skip Q a w:=by
 cases ro with
 |none=>exact wp_skip h
 |some l=>exact wpIn_skip h
theorem WP.label{l:Nat}(h:Q .normal a w):WP ro P (.label l) Q a w:=by
 cases ro with
 |none=>exact wp_label h
 |some l=>exact wpIn_label h
theorem WP.exit{i:Nat}(h:Q (.exit i) a w):WP ro P (.exit i) Q a w:=by
 cases ro with
 |none=>exact wp_exit h
 |some l=>exact wpIn_exit h
theorem WP.ret(h:Q .ret a w):WP ro P .ret Q a w:=by
 cases ro with
 |none=>exact wp_ret h
 |some l=>exact wpIn_ret h
theorem WP.seq{x y:Code}(h:WP ro P x (Exit.then (WP ro P y Q) Q) a w):WP ro P (.seq x y) Q a w:=by
 cases ro with
 |none=>exact wp_seq h
 |some l=>exact wpIn_seq h
theorem WP.cond{c:Operand}{x y:Code}{t:Bool}(hc:a.eval c= .bool t)(h:WP ro P (if t then x else y) Q a w):WP ro P (.cond c x y) Q a w:=by
 cases ro with
 |none=>cases t with
  |true=>exact wp_cond_true hc h
  |false=>exact wp_cond_false hc h
 |some l=>exact wpIn_cond hc h
theorem WP.block{i:Nat}{c:Code}(h:WP ro P c (Exit.inBlock i Q) a w):WP ro P (.block i c) Q a w:=by
 cases ro with
 |none=>exact wp_block h
 |some l=>exact wpIn_block h
theorem WP.loop{c:Code}(I:Nat→Act→World→Prop)(aag:Nat)(h₀:I aag a w)
  (round: ∀n a w,I n a w→WP ro P c (Exit.then (fun a' w'=> ∃n',n'<n∧I n' a' w') Q) a w):WP ro P (.loop c) Q a w:=by
 cases ro with
 |none=>exact wp_loop_ghost I aag h₀ round
 |some l=>exact wpIn_loop_ghost I aag h₀ round
theorem WP.region{id:Nat}{ops:Array Oper}(hr:MR ro (.region id ops false) Q)(h:wpOps P ops Q (List.range ops.size) a w):WP ro P (.region id ops false) Q a w:=by
 cases ro with
 |none=>exact wp_region h
 |some l=>
  obtain⟨h1,h2⟩:=hr rfl
  exact wpIn_region (vI h1 h2 _ _ _ h)
theorem WP.J3{id:Nat}{ops:Array Oper}(hr:MR ro (.region id ops true) Q)(hm:P.follows .mixedOrders=true)
  (h:wpAny P .any ops Q ops.size (Array.replicate ops.size false) a {w with drawn:=w.drawn+1}):WP ro P (.region id ops true) Q a w:=by
 cases ro with
 |none=>exact wp_region_any hm h
 |some l=>
  obtain⟨h1,h2⟩:=hr rfl
  exact wpIn_region_any hm (vR h1 h2 _ _ _ _ h)
end
section
variable{C:Cx}{w w0 w1 w':World}{G:Gh}{S0 S1:ew}{σ:St}{a:Act}{n:Nat}
structure Ext(w0:World)(S0:ew)(w1:World)(S1:ew):Prop where
 below:dU S0.mu w0 w1
 mu: ∀b,S1.mu b→gH w0 S0 b
 gV: ∀b o,S0.gV b o→S1.gV b o
 QA: ∀b o,S0.gV b o→w1.cell? ⟨b,o,none⟩=w0.cell? ⟨b,o,none⟩
 Qz: ∀b o,S1.gV b o→S0.gV b o∨gH w0 S0 b
 pd: ∀i b,S0.pd i=some b→S1.pd i=some b
 Z1: ∀i b,S1.pd i=some b→S1.mu b→I0 w0 S0 b
 fr:S0.fr→S1.fr
 wz:S0.wz→S1.wz
 prog:S1.prog=S0.prog
theorem Ext.new(x:Ext w0 S0 w1 S1){b:Nat}(h:gH w1 S1 b):gH w0 S0 b:=by
 rcases h with h|h
 ·exact .inl (Nat.le_trans x.below.size h)
 ·exact x.mu b h
theorem Ext.box(x:Ext w0 S0 w1 S1){b:Nat}(h:I0 w1 S1 b):I0 w0 S0 b:=by
 rcases h with h|⟨h,i,hi⟩
 ·exact .inl (Nat.le_trans x.below.size h)
 ·exact x.Z1 i b hi h
theorem Ext.refl(w0:World)(S0:ew):Ext w0 S0 w0 S0:=⟨.refl _ _,fun _ h=> .inr h,fun _ _ h=>h,fun _ _ _=>rfl,fun _ _ h=> .inl h,fun _ _ h=>h,fun i _ h1 h2=> .inr ⟨h2,i,h1⟩,id,id,rfl⟩
theorem Ext.block(x:Ext w0 S0 w1 S1){k:Nat}(hk:k<w0.heap.size)(hm: ¬S0.mu k): ¬S1.mu k:=by
 intro h
 rcases x.mu k h with h|h
 ·omega
 ·exact hm h
theorem Ext.trans{w2:World}{S2:ew}(x:Ext w0 S0 w1 S1)(y:Ext w1 S1 w2 S2):Ext w0 S0 w2 S2 where
 below:=⟨y.below.os.trans x.below.os,y.below.tape.trans x.below.tape,y.below.output.trans x.below.output,Nat.le_trans x.below.size y.below.size,fun k hk hm=>(y.below.block k (Nat.lt_of_lt_of_le hk x.below.size) (x.block hk hm)).trans (x.below.block k hk hm)⟩
 mu b h:=x.new (y.mu b h)
 gV b o h:=y.gV b o (x.gV b o h)
 QA b o h:=(y.QA b o (x.gV b o h)).trans (x.QA b o h)
 Qz b o h:=by
  rcases y.Qz b o h with h|h
  ·exact x.Qz b o h
  ·exact .inr (x.new h)
 pd i b h:=y.pd i b (x.pd i b h)
 Z1 i b h1 h2:=x.box (y.Z1 i b h1 h2)
 fr h:=y.fr (x.fr h)
 wz h:=y.wz (x.wz h)
 prog:=y.prog.trans x.prog
end
def mark(r:Nat):Deferred:={target:= .collected r,args:= #[]}
structure Dfs(w0:World)(S0:ew):Prop where
 ex: ∃ms:List Nat,S0.dfs=ms.map mark∧ms.Nodup∧ ∀r∈ms,w0.heap[r]? =some (.deferred (some []))∧ ¬S0.mu r
structure ac9(P:Program)(k:Nat)(fs:List Ty)(et:Ty)(Pre:List D→Prop)(Φ:List D→D):Prop where
 enter: ∀(args:Array Value) (w:World),(callFunc k args).run P w= .ok (.enter k args) w
 calls: ∀(w:World) (S:aO) (vs:List Value) (ds:List D),(∀b o,S b o→b<w.heap.size)→vs.length=ds.length→(∀(i:Nat) v d,vs[i]? =some v→ds[i]? =some d→bj w S v d)→bV (.bQ fs) ds→Pre ds→
  ∀(l:Nat) (J:Nat→(Nat→Prop)→World→Prop) (Jx:World→Prop) (X0:Nat→Prop),
   (∀i X W W',J i X W→Below W.heap.size W W'→J i X W')→(∀W W',Jx W→Below W.heap.size W W'→Jx W')→(∀i X W,J i X W→ ∀b,X b→b<W.heap.size)→
   (∀i x v X W,J i X W→(Φ ds).ak[i]? =some x→(∀(W':World) (S':aO),bj W' S' v x)→Has et x→
    YieldAt Fence.wide 0 P l #[v] W fun e W'=>
     (e= .returned (.bool true)∧(∃X',J (i+1) X' W'∧ ∀b,X' b→X b∨W.heap.size≤b)∧dU X W W'∧ ∀b o,S b o→W'.cell? ⟨b,o,none⟩=W.cell? ⟨b,o,none⟩)∨
     (e= .returned (.bool false)∧Jx W'))→
   J 0 X0 w→
   Calls P k (#[.func (.yield l) #[] #[]] ++vs.toArray) w fun e W'=>(∃v,e= .returned v)∧((∃X,J (Φ ds).ak.length X W')∨Jx W')
inductive VC where
 |iP (pc:bI) (e:E) (k:VC)
 |call (p f:Nat) (args:E) (pc:bI) (k:VC)
 |room (pc:bI) (e:E) (bytes:Nat) (k:VC)
 |branch (e:E) (t f:VC)
 |loop (v0:Nat) (es:List E) (oc:List Ty) (body:VC)
 |again (i:Nat) (es:List E)
 |ret (e:E)
 |any (p:Nat) (t:Ty) (k:VC)
 |hav (p:Nat) (fs:List (E×E)) (k:VC)
 |range (v0 f:Nat) (args:E) (es:List E) (oc:List Ty) (et:Ty) (body done:VC)
 |stuck (why:Nat)
def VC.holds(Φ:Nat→List D→D)(Pre:Nat→List D→Prop)(R:D→Prop):VC→(Nat→D)→List (List D→Prop)→Prop
 | .iP pc e k,ρ,dE=>(aq ρ pc=true→(den ρ e).eh=true)∧k.holds Φ Pre R ρ dE
 | .call p f args pc k,ρ,dE=>(aq ρ pc=true→Pre f (den ρ args).ak)∧ ∀d,d=Φ f (den ρ args).ak→k.holds Φ Pre R (dp ρ p d) dE
 | .room pc e bytes k,ρ,dE=>(aq ρ pc=true→(den ρ e).ak.length≤maxLen∧(den ρ e).ak.length*bytes≤140737488355328)∧k.holds Φ Pre R ρ dE
 | .branch e t f,ρ,dE=>((den ρ e).eh=true→t.holds Φ Pre R ρ dE)∧((den ρ e).eh=false→f.holds Φ Pre R ρ dE)
 | .loop v0 es oc body,ρ,dE=> ∃(I:List D→Prop) (m:List D→Nat),I (es.map (den ρ))∧ ∀xs,bV (.bQ oc) xs→I xs→body.holds Φ Pre R (dI ρ v0 xs) ((fun ys=>I ys∧m ys<m xs)::dE)
 | .again i es,ρ,dE=>match dE[i]? with
  |some J=>J (es.map (den ρ))
  |none=>False
 | .ret e,ρ,_=>R (den ρ e)
 | .any p t k,ρ,dE=> ∀d,Has t d→k.holds Φ Pre R (dp ρ p d) dE
 | .hav p fs k,ρ,dE=> ∀d,(∀x∈fs,(den (dp ρ p d) x.1).ak.length=(den (dp ρ p d) x.2).ak.length)→k.holds Φ Pre R (dp ρ p d) dE
 | .range v0 f args es oc et body done,ρ,dE=>Pre f (den ρ args).ak∧ ∃I:Nat→List D→Prop,I 0 (es.map (den ρ))∧
   (∀i x xs,(Φ f (den ρ args).ak).ak[i]? =some x→Has et x→bV (.bQ oc) xs→I i xs→body.holds Φ Pre R (dp (dI ρ v0 xs) (v0+oc.length) x) ((fun ys=>I (i+1) ys)::dE))∧
   ∀xs,bV (.bQ oc) xs→I (Φ f (den ρ args).ak).ak.length xs→done.holds Φ Pre R (dI ρ v0 xs) dE
 | .stuck _,_,_=>False
inductive Ex where
 |normal
 |exit (i:Nat)
 |ret
def Ex.to:Ex→Exit
 | .normal=> .normal
 | .exit i=> .exit i
 | .ret=> .ret
def qI(q:Nat):Item→Bool
 | .KP _ _=>false
 | .iP pc e=>pc.all (fun x=>x.1.lt q)&&e.lt q
 | .call p _ args pc=>p==q&&args.lt q&&pc.all fun x=>x.1.lt q
 | .room pc e _=>pc.all (fun x=>x.1.lt q)&&e.lt q
def xd:Nat→List (Nat×Item)→Bool
 |_,[] =>true
 |lo,(q,it)::r=>decide (lo≤q)&&qI q it&&xd (match it with| .call .. =>q+1|_=>q) r
def rO:List (Nat×Item)→VC→VC
 | [],k=>k
 |(_, .KP _ _)::r,k=>rO r k
 |(_, .iP pc e)::r,k=> .iP pc e (rO r k)
 |(_, .call p f args pc)::r,k=> .call p f args pc (rO r k)
 |(_, .room pc e b)::r,k=> .room pc e b (rO r k)
def fQ:Code→Option Nat
 | .region id _ _=>some id
 | .seq a b=>match fQ a with|some i=>some i|none=>fQ b
 | .cond _ a b=>match fQ a with|some i=>some i|none=>fQ b
 | .block _ c| .loop c| .scope c=>fQ c
 |_=>none
def Gn(σ:St)(x:Slot×Ty×Option nb):St:=
 match x with
 |(.tmp t, .ptr _,none)=>
  match σ.tm t with
  |some ([], .one (.pa id 0))=>
   match σ.hp id with
   |some (_,cs)=>match eQ cs with
    |some (ds,ts)=>⟨dp σ.tm t (some ([], .one (.eV (.un .pj (.bQ ds)) (.ptr (.bQ ts))))),dp σ.hp id (some (true,cs)),σ.live⟩
    |none=>σ
   |none=>σ
  |_=>σ
 |_=>σ
def GH(l:List (Slot×Ty×Option nb))(σ:St):St:=l.foldl Gn σ
theorem er.Gn{w0:World}{S0:ew}{C:Cx}{G:Gh}{σ:St}{a:Act}{w:World}{n:Nat}(hs:er n w0 S0 C G σ a w)(x:Slot×Ty×Option nb): ∃G',er n w0 S0 C G' (bZ.Gn σ x) a w:=by
 unfold bZ.Gn
 split
 ·rename_i t fs
  split
  ·rename_i id ht
   split
   ·rename_i ro cs cU
    split
    ·rename_i ds ts oa
     obtain⟨G',aU,hm,MG,H2,_⟩:=hs.m.freeze cU (fS oa)
     refine⟨G',⟨hm.congr rfl rfl,?_,hs.sz,hs.defers⟩⟩
     have ht':=hs.t.later aU
     intro t' c s h
     by_cases Tr:t'=t
     ·subst Tr
      simp only[ca,Option.some.injEq,Prod.mk.injEq]at h
      obtain⟨rfl,rfl⟩:=h
      obtain⟨v,hv,_,_,hr⟩:=hs.t t' _ _ ht
      obtain⟨_,_,dq,_⟩:=hs.m.box _ _ _ cU
      obtain⟨vs,T,fq,mB⟩:=dq.cells (fS oa)
      obtain⟨m1,m2,m3,m4,m5⟩:=kJ oa mB
      have hd:den C.ρ (.un .pj (.bQ ds))= .ptr (ds.map (den C.ρ)):=by simp only[den,dG,U.den,D.ak]
      have wF:v= .pointer (some ⟨G.β id,0,none⟩):=by
       have:aq C.ρ ([] :bI)=true:=rfl
       rw[if_pos this]at hr
       exact hr.2
      refine⟨v,hv,by simp,by simpa [SV.lt,SC.lt,E.lt]using m1,?_⟩
      have:aq C.ρ ([] :bI)=true:=rfl
      rw[if_pos this]
      refine⟨by simpa [E.lt]using m1,?_,?_⟩
      ·rw[hd,wF]
       refine .ptr _ vs _ (by simp[m2]) (fun i hi=>MG i (by simp[m2,mB.1]at hi;exact hi)) (fun i v hi=> ?_) (fun i v d hi wP=> ?_)
       ·rw[cell_of_row w _ i _ T _ fq];simpa using hi
       ·simp only[List.getElem?_map,br]at wP
        obtain⟨e,he,rfl⟩:=wP
        exact(m4 i v e hi he).keep aU.S aU.cell
      ·rw[hd];exact jV.2 (.inr ⟨_,rfl,m5⟩)
     ·simp only[cS _ _ Tr]at h
      exact ht' t' c s h
    ·exact⟨G,hs⟩
   ·exact⟨G,hs⟩
  ·exact⟨G,hs⟩
 ·exact⟨G,hs⟩
theorem er.GH{w0:World}{S0:ew}{C:Cx}{a:Act}{w:World}{n:Nat}: ∀(l:List (Slot×Ty×Option nb)) {G:Gh} {σ:St},er n w0 S0 C G σ a w→ ∃G',er n w0 S0 C G' (bZ.GH l σ) a w
 | [],G,_,h=>⟨G,h⟩
 |x::l,_,_,h=>by
  obtain⟨G',h'⟩:=h.Gn x
  exact er.GH l h'
structure En where
 P:Program
 cs:lD
 n:Nat
 nO:List (Nat×FQ)
 fw:UH
 wl:UH
 YV:List (Nat×(List Ty×Ty)):=[]
def QD(σ:St)(P:Program)(x:Operand):Option E:=
 match cV P σ [] x 0 with
 |some (e, .bool)=>some e
 |_=>none
def qV:bI→E
 | [] => .cF true
 | [(e,true)] =>e
 |(e,true)::r=> .bin .and e (qV r)
 |(e,false)::r=> .bin .and (.un .not e) (qV r)
def pZ(N:En)(ops:Array Oper)(p0 M:Nat)(fin:List (Nat×fD)→St→VC):List Nat→List (Nat×fD)→St→VC
 | [],acc,σ=>fin acc σ
 |i::r,acc,σ=>
  match ops[i]? with
  |none=> .stuck 21
  |some o=>
   match xg N.P N.cs ops σ (p0+i) o with
   |some e=>
    if e.uz.2.lt M&&xd (p0+i) (e.items.map fun it=>(p0+i,it)) then
     rO (e.items.map fun it=>(p0+i,it)) (pZ N ops p0 M fin r (acc++[(i,e)]) (e.app σ))
    else .stuck (1000+i)
   |none=>
    match O4 N.cs o with
    |some y=>
     match nnX N.P σ o y,iO (some true) N.P N.cs ops σ (p0+i) o,iO (some false) N.P N.cs ops σ (p0+i) o with
     |some x,some et,some ef=>
      if et.uz.2.lt M&&ef.uz.2.lt M&&x.args.lt (p0+i) then
       .call (p0+i) x.k x.args [] (.branch (L4 (p0+i)) (pZ N ops p0 M fin r (acc++[(i,ef)]) (ef.app σ)) (pZ N ops p0 M fin r (acc++[(i,et)]) (et.app σ)))
      else .stuck (5500+i)
     |_,_,_=> .stuck (2500+i)
    |none=>
    match guardOf ops σ o,(guardOf ops σ o).bind (fun pc=>fJ N.P N.cs σ pc o),iO (some true) N.P N.cs ops σ (p0+i) o,iO (some false) N.P N.cs ops σ (p0+i) o with
    |some pc,some x,some et,some ef=>
     if et.uz.2.lt M&&ef.uz.2.lt M&&(pc.all fun y=>y.1.lt (p0+i))&&x.args.lt (p0+i) then
      .branch (qV pc) (.call (p0+i) x.k x.args [] (pZ N ops p0 M fin r (acc++[(i,et)]) (et.app σ))) (pZ N ops p0 M fin r (acc++[(i,ef)]) (ef.app σ))
     else .stuck (5000+i)
    |_,_,_,_=> .stuck (2000+i)
def LP(ops:Array Oper):Nat→Nat→Bool
 |0,_=>false
 |f+1,t=>ops.any fun o=>o.dst==some t&&match o.op with
  | .fieldAddr _ (.tmp x) _=>LP ops f x
  | .indexAddr .. =>true
  |_=>false
def UK(ops:Array Oper):Bool:=decide (0<ops.size)&&match ops[ops.size-1]? with
 |some o=>match o.op with
  | .store _ (.tmp x) _=>LP ops 10 x
  |_=>false
 |none=>false
def AY(l:UH)(o:Oper):Bool:=match o.op with
 | .call {callee:= .value (.func k), .. }=>(lk l k).isSome
 |_=>false
def akP(N:En)(ops:Array Oper)(draw:Bool):Option Nat:=
 if draw||N.cs.fr !=0 then none else(List.range ops.size).find? fun c=>decide (c+2<ops.size)&&match ops[c]?,ops[c+2]? with
  |some o,some o2=>AY N.fw o&&AY N.wl o2
  |_,_=>false
def aqg(o:Oper):Bool:=match o.op with
 | .binOp .eql _ _ y _=>ue y
 |_=>false
def Vs(o:Oper):Bool:=match o.op with
 | .store _ _ (.tmp _)=>true
 |_=>false
def ajZ(ops:Array Oper):Bool:=match ops[ops.size-1]? with
 |some o=>aqg o
 |none=>false
def aij(N:En)(ops:Array Oper):Bool:=match ops[ops.size-2]?,ops[ops.size-1]? with
 |some o,some o2=>AY N.wl o&&Vs o2
 |_,_=>false
def EM(N:En)(ops:Array Oper)(draw:Bool):Option (Nat×Bool):=
 if draw then none else
 if ajZ ops=true∧0<ops.size then some (ops.size-1,true)
 else if aij N ops=true∧N.cs.fr=2∧1<ops.size then some (ops.size-2,false)
 else none
theorem JN{N:En}{ops:Array Oper}{draw b:Bool}{c:Nat}(h:EM N ops draw=some (c,b)):draw=false∧(if b then c+1=ops.size else c+2=ops.size∧N.cs.fr=2):=by
 unfold EM at h
 split at h
 ·cases h
 ·rename_i hd
  refine⟨by simpa using hd,?_⟩
  split at h
  ·rename_i h1
   simp only[Option.some.injEq,Prod.mk.injEq]at h
   obtain⟨rfl,rfl⟩:=h
   simp only[if_true];omega
  ·split at h
   ·rename_i h1
    simp only[Option.some.injEq,Prod.mk.injEq]at h
    obtain⟨rfl,rfl⟩:=h
    simp only[Bool.false_eq_true,if_false]
    exact⟨by omega,h1.2.1⟩
   ·cases h
def XL(N:En)(ops:Array Oper):Bool:=ops.toList.all fun o=>match o.dst with|some d=>decide (d<N.n)|none=>true
def ML(id:Nat)(σ:St)(i:Nat):St:=
 match σ.hp id with
 |some (false,cs)=>match cs[i]? with
  |some (.xo g u)=>match σ.live g with
   |some (e,_,u')=>if u'=u∧g.ex=true∧0<u.cells.length then⟨σ.tm,dp σ.hp id (some (false,cs.set i (.eV e (.list u)))),fun g'=>if g'=g then none else σ.live g'⟩ else σ
   |none=>σ
  |_=>σ
 |_=>σ
def MI(σ:St)(t:Nat):St:=
 match σ.tm t with
 |some ([], .one (.pa id 0))=>match σ.hp id with
  |some (_,cs)=>(List.range cs.length).foldl (ML id) σ
  |none=>σ
 |_=>σ
def MK(N:En)(r:Nat)(σ:St):St:=if N.cs.fr==0 then(((lk N.nO r).getD {}).drop.filterMap fun x=>if 3000000≤x&&x<4000000 then some (x-3000000) else none).foldl MI σ else σ
def Pt(N:En)(r:Nat)(σ:St):St:=(((lk N.nO r).getD {}).drop.filterMap fun x=>if 9000000000≤x then some (x-9000000000) else none).foldl (fun σ t=>Gn σ (.tmp t, .ptr .nil,none)) σ
def T4(x:Nat):Nat×Nat:=((x-4000000) % 1000,(x-4000000)/1000)
def splitAt(N:En)(r:Nat)(σ:St)(p:Nat):Option (Nat×E×IntKind×Nat):=
 match ((lk N.nO r).getD {}).drop.find? (fun x=>4000000≤x&&x<5000000) with
 |some x=>match σ.tm (T4 x).1 with
  |some ([], .one (.eV e (.int kd)))=>if e.lt p then some ((T4 x).1,e,kd,(T4 x).2) else none
  |_=>none
 |none=>none
def zo(f:St→VC)(σ:St)(t:Nat)(e:E)(kd:IntKind):List Nat→VC
 | [] => .stuck 9100
 |j::r=> .branch (.bin .eq e (.ao kd j)) (f (F8 σ t (.eV (.ao kd j) (.int kd)))) (zo f σ t e kd r)
def OU(σ:St)(id c:Nat)(cs:List SC)(x:SC):St:=⟨σ.tm,dp σ.hp id (some (false,cs.set c x)),σ.live⟩
def tZ(N:En)(r:Nat)(σ:St)(p:Nat):Option (Nat×Nat×List SC×E×IntKind×Nat):=
 match ((lk N.nO r).getD {}).drop.find? (fun x=>5000000≤x&&x<9000000000) with
 |some x=>match σ.tm ((x-5000000) % 1000) with
  |some ([], .one (.pa id 0))=>match σ.hp id with
   |some (false,cs)=>match cs[(x-5000000)/100000]? with
    |some (.eV e (.int kd))=>if e.lt p then some (id,(x-5000000)/100000,cs,e,kd,((x-5000000)/1000) % 100) else none
    |_=>none
   |_=>none
  |_=>none
 |none=>none
def vD(f:St→VC)(σ:St)(id c:Nat)(cs:List SC)(e:E)(kd:IntKind):List Nat→VC
 | [] => .stuck 9100
 |j::r=> .branch (.bin .eq e (.ao kd j)) (f (OU σ id c cs (.eV (.ao kd j) (.int kd)))) (vD f σ id c cs e kd r)
def EN(N:En)(r p:Nat)(f:St→VC)(σ:St):VC:=
 match splitAt N r σ p with
 |some (t,e,kd,m)=>zo f σ t e kd (List.range m)
 |none=>match tZ N r σ p with
  |some (id,c,cs,e,kd,m)=>vD f σ id c cs e kd (List.range m)
  |none=>f σ
def WI(N:En)(id:Nat)(ops:Array Oper)(draw:Bool)(k:Ex→St→Nat→Nat→VC)(p d:Nat)(σ:St):VC:=
  match EM N ops draw with
  |some (c,true)=>pZ N ops p (p+c) (fun _ VZ=>match (ops[c]?).bind (aah N.P N.n (p+c) VZ) with
    |some (t,e)=>
     if XL N ops then .branch (.bin .eq (.un .len e) (.ao .i64 0)) (.any (p+c) .bool (k .normal (F8 VZ t (.eV (.var (p+c)) .bool)) (p+ops.size) d)) (.any (p+c) .bool (k .normal (F8 VZ t (.eV (.cF false) .bool)) (p+ops.size) d))
     else .stuck 9001
    |none=> .stuck 9000) (List.range' 0 c) [] σ
  |some (c,false)=> .stuck 9004
  |none=>
  if N.cs.fr==2&&UK ops then
   .stuck 7000
  else
  match akP N ops draw with
  |some c=> .stuck 8000
  |none=>
  match PG N.P N.cs σ ops draw with
  |some c=>pZ N ops p (p+c) (fun _ VZ=>
    match (ops[c]?).bind (Z2 N.P N.cs N.n VZ) with
    |some x=>
     if x.e.lt (p+c)&&(ops.toList.all fun o=>match o.dst with|some d=>decide (d<N.n)|none=>true) then
      .call (p+c) x.k (.cons x.e .nil) [] (pZ N ops p (p+ops.size) (fun _ SE=>k .normal SE (p+ops.size) d) (List.range' (c+1) (ops.size-(c+1))) [] (x.after VZ (p+c)))
     else .stuck 6001
    |none=> .stuck 6000) (List.range' 0 c) [] σ
  |none=>pZ N ops p (p+ops.size) (fun r σ'=>
   if(!draw||(pA ops r&&YM ops))&&(ops.toList.all fun o=>match o.dst with|some d=>decide (d<N.n)|none=>true) then k .normal σ' (p+ops.size) d
   else .stuck (1000+id)) (List.range ops.size) [] σ
def kn:E→Option Bool
 | .cF b=>some b
 | .un .not e=>(kn e).map (!·)
 | .un .Aa .eW=>some true
 | .bin .or a b=>match kn a,kn b with
  |some true,_=>some true
  |_,some true=>some true
  |some false,some false=>some false
  |_,_=>none
 | .bin .and a b=>match kn a,kn b with
  |some false,_=>some false
  |_,some false=>some false
  |some true,some true=>some true
  |_,_=>none
 |_=>none
theorem Hm{ρ:Nat→D}: ∀{e:E} {b:Bool},kn e=some b→(den ρ e).eh=b:=by
 intro e
 induction e with
 |cF b=>intro b' h;simp only[kn,Option.some.injEq]at h;subst h;rfl
 |un o e ih=>
  intro b h
  cases o<;>try (simp only[kn]at h;done)
  all_goals first
   |(simp only[kn,br]at h
     obtain⟨b',h1,rfl⟩:=h
     rw[show(den ρ (.un .not e)).eh= !(den ρ e).eh from rfl,ih h1])
   |(cases e<;>simp only[kn,Option.some.injEq,reduceCtorEq]at h
     subst h;rfl)
   |(simp[kn]at h)
 |bin o x y ih1 To=>
  intro b h
  have eo:(den ρ (.bin .or x y)).eh=((den ρ x).eh||(den ρ y).eh):=rfl
  have ea:(den ρ (.bin .and x y)).eh=((den ρ x).eh&&(den ρ y).eh):=rfl
  cases o<;>try (simp[kn]at h;done)
  all_goals
   simp only[kn]at h
   try rw[eo]
   try rw[ea]
   cases hx:kn x with
   |none=>cases hy:kn y with
    |none=>rw[hx,hy]at h;cases h
    |some by'=>
     rw[hx,hy]at h
     have h2:=To hy
     cases by'<;>simp only[Option.some.injEq,reduceCtorEq]at h
     subst h
     simp[h2]
   |some bx=>cases hy:kn y with
    |none=>
     rw[hx,hy]at h
     have h1:=ih1 hx
     cases bx<;>simp only[Option.some.injEq,reduceCtorEq]at h
     subst h
     simp[h1]
    |some by'=>
     rw[hx,hy]at h
     have h1:=ih1 hx
     have h2:=To hy
     cases bx<;>cases by'<;>simp only[Option.some.injEq,reduceCtorEq]at h<;>subst h<;>simp[h1,h2]
 |_=>intro b h;simp[kn]at h
def vc(N:En):Code→(Ex→St→Nat→Nat→VC)→St→Nat→Nat→VC
 | .skip,k,σ,p,d=>k .normal σ p d
 | .label _,k,σ,p,d=>k .normal σ p d
 | .exit i,k,σ,p,d=>k (.exit i) σ p d
 | .ret,k,σ,p,d=>k .ret σ p d
 | .region id ops draw,k,σx,p,d=>
  EN N id p (WI N id ops draw k p d) (Pt N id (MK N id σx))
 | .seq a b,k,σ,p,d=>vc N a (fun ex σ p d=>match ex with| .normal=>vc N b k σ p d|e=>k e σ p d) σ p d
 | .cond c x y,k,σ,p,d=>
  match QD σ N.P c with
  |some (.cF true)=>vc N x k σ p d
  |some (.cF false)=>vc N y k σ p d
  |some e=>match kn e with
   |some true=>vc N x k σ p d
   |some false=>vc N y k σ p d
   |none=>if e.lt p then .branch e (vc N x k σ p d) (vc N y k σ p d) else .stuck 1
  |none=> .stuck 2
 | .block i c,k,σ,p,d=>vc N c (fun ex σ p d=>match ex with| .exit j=>if j=i then k .normal σ p d else k (.exit j) σ p d|e=>k e σ p d) σ p d
 | .loop c,k,σ,p,d=>
  if !N.YV.isEmpty&& !dS c then .stuck 35 else
  let h:=tV N.n (((fQ c).bind (lk N.nO)).getD {}) ((((fQ c).bind (lk N.nO)).getD {}).own.map (·.1)++assigned c) σ p
  match GI N.n h σ with
  |some es=> .loop p es (h.fg.map fun x=>kv x.2.1 x.2.2) (vc N c (fun ex σ' p' d'=>match ex with
    | .normal=>match GI N.n h (GH h.fg σ') with
     |some tg=> .again (d'-1-d) tg
     |none=> .stuck (3000+p)
    |e=>k e σ' p' d') h.st (p+h.size) (d+1))
  |none=> .stuck (4000+p)
 |_,_,_,_,_=> .stuck 3
theorem E.lX{n m:Nat}(h:n≤m): ∀{e:E},e.lt n=true→e.lt m=true:=by
 intro e
 induction e with
 |var i=>intro he;simp only[E.lt,aN]at he⊢;omega
 |ao|cF|Ci|eW|nil=>intro _;rfl
 |cons a b oh og=>intro he;simp only[E.lt,aw]at he⊢;exact⟨oh he.1,og he.2⟩
 |un o e ih=>intro he;exact ih he
 |bin o a b oh og=>intro he;simp only[E.lt,aw]at he⊢;exact⟨oh he.1,og he.2⟩
 |ite c a b L5 oh og=>intro he;simp only[E.lt,aw]at he⊢;exact⟨⟨L5 he.1.1,oh he.1.2⟩,og he.2⟩
theorem iy{ρ dK:Nat→D}{n:Nat}(h: ∀i,i<n→dK i=ρ i){c:bI}(hc:(c.all fun x=>x.1.lt n)=true):aq dK c=aq ρ c:=by
 unfold aq
 rw[aV]at hc
 rw[Bool.eq_iff_iff,aV,aV]
 constructor
 ·intro H x hx;rw[←bR h (hc x hx)];exact H x hx
 ·intro H x hx;rw[bR h (hc x hx)];exact H x hx
theorem pI{Φ:Nat→List D→D}{Pre:Nat→List D→Prop}{R:D→Prop}{k:VC}{dE:List (List D→Prop)}{N:Nat}{M:Nat→Prop}: ∀{L:List (Nat×Item)} {lo:Nat} {ρ:Nat→D},xd lo L=true→(∀x∈L,x.1<N)→
  (rO L k).holds Φ Pre R ρ dE→ ∃dK,(∀i,i<lo→dK i=ρ i)∧(∀x∈L,ct ⟨dK,N,M⟩ Φ Pre x.2)∧k.holds Φ Pre R dK dE
 | [],lo,ρ,_,_,h=>⟨ρ,fun _ _=>rfl,by simp,h⟩
 |(q,it)::r,lo,ρ,hb,hN,h=>by
  simp only[xd,aw,aN]at hb
  obtain⟨⟨H8,eC⟩,hr⟩:=hb
  have hN': ∀x∈r,x.1<N:=fun x hx=>hN x (List.mem_cons_of_mem _ hx)
  have hq:q<N:=hN (q,it) (List.mem_cons_self ..)
  cases it with
  |KP pc b=>simp[qI]at eC
  |iP pc e=>
   obtain⟨h1,h2⟩:=h
   obtain⟨dK,a1,a2,a3⟩:=pI (lo:=q) hr hN' h2
   simp only[qI,aw]at eC
   refine⟨dK,fun i hi=>a1 i (by omega),fun x hx=> ?_,a3⟩
   rcases List.mem_cons.1 hx with rfl|hx
   ·exact⟨E.lX (by show q≤N;omega) eC.2,fun hc=>by
     show(den dK e).eh=true
     rw[bR a1 eC.2];exact h1 ((iy a1 eC.1).symm.trans hc)⟩
   ·exact a2 x hx
  |call p f args pc=>
   obtain⟨h1,h2⟩:=h
   simp only[qI,aw,beq_iff_eq]at eC
   obtain⟨⟨rfl,cZ⟩,bY⟩:=eC
   obtain⟨dK,a1,a2,a3⟩:=pI (lo:=p+1) hr hN' (h2 _ rfl)
   have agree: ∀i,i<p→dK i=ρ i:=fun i hi=>(a1 i (by omega)).trans (cS _ _ (by omega))
   refine⟨dK,fun i hi=>agree i (by omega),fun x hx=> ?_,a3⟩
   rcases List.mem_cons.1 hx with rfl|hx
   ·refine⟨E.lX (by show p≤N;omega) cZ,hq,?_,fun hc=> ?_⟩
    ·show dK p=Φ f (den dK args).ak
     rw[a1 p (by omega),ca,bR agree cZ]
    ·show Pre f (den dK args).ak
     rw[bR agree cZ];exact h1 ((iy agree bY).symm.trans hc)
   ·exact a2 x hx
  |room pc e b=>
   obtain⟨h1,h2⟩:=h
   obtain⟨dK,a1,a2,a3⟩:=pI (lo:=q) hr hN' h2
   simp only[qI,aw]at eC
   refine⟨dK,fun i hi=>a1 i (by omega),fun x hx=> ?_,a3⟩
   rcases List.mem_cons.1 hx with rfl|hx
   ·exact⟨E.lX (by show q≤N;omega) eC.2,fun hc=>by
     show(den dK e).ak.length≤maxLen∧(den dK e).ak.length*b≤_
     rw[bR a1 eC.2];exact h1 ((iy a1 eC.1).symm.trans hc)⟩
   ·exact a2 x hx
theorem uj{ρ:Nat→D}: ∀{pc:bI},(den ρ (qV pc)).eh=aq ρ pc
 | [] =>rfl
 | [(e,true)] =>by simp[qV,aq]
 | [(e,false)] =>by simp[qV,aq,den,B.den,U.den,D.eh]
 |(e,true)::x::r=>by
  have:=uj (ρ:=ρ) (pc:=x::r)
  show((den ρ e).eh&&(den ρ (qV (x::r))).eh)=_
  rw[this]
  simp[aq]
 |(e,false)::x::r=>by
  have:=uj (ρ:=ρ) (pc:=x::r)
  show(!(den ρ e).eh&&(den ρ (qV (x::r))).eh)=_
  rw[this]
  simp[aq]
theorem Bu: ∀{L:List (Nat×Item)} {lo:Nat},xd lo L=true→ ∀x∈L,qI x.1 x.2=true
 | [],_,_,x,hx=>by simp at hx
 |(q,it)::r,lo,h,x,hx=>by
  simp only[xd,aw]at h
  rcases List.mem_cons.1 hx with rfl|hx
  ·exact h.1.2
  ·exact Bu h.2 x hx
theorem Ft{Φ:Nat→List D→D}{Pre:Nat→List D→Prop}{ρ dK:Nat→D}{N q:Nat}{M:Nat→Prop}{it:Item}(h:ct ⟨ρ,N,M⟩ Φ Pre it)(hb:qI q it=true)(zH: ∀i,i<q+1→dK i=ρ i):ct ⟨dK,N,M⟩ Φ Pre it:=by
 have IS: ∀i,i<q→dK i=ρ i:=fun i hi=>zH i (by omega)
 cases it with
 |KP pc b=>simp[qI]at hb
 |iP pc e=>
  simp only[qI,aw]at hb
  refine⟨h.1,fun hc=> ?_⟩
  show(den dK e).eh=true
  rw[bR IS hb.2]
  exact h.2 ((iy IS hb.1).symm.trans hc)
 |call p f args pc=>
  simp only[qI,aw,beq_iff_eq]at hb
  obtain⟨⟨rfl,cZ⟩,bY⟩:=hb
  obtain⟨h1,h2,h3,h4⟩:=h
  refine⟨h1,h2,?_,fun hc=> ?_⟩
  ·show dK p=Φ f (den dK args).ak
   rw[zH p (by omega),bR IS cZ];exact h3
  ·show Pre f (den dK args).ak
   rw[bR IS cZ];exact h4 ((iy IS bY).symm.trans hc)
 |room pc e b=>
  simp only[qI,aw]at hb
  refine⟨h.1,fun hc=> ?_⟩
  show(den dK e).ak.length≤maxLen∧(den dK e).ak.length*b≤_
  rw[bR IS hb.2]
  exact h.2 ((iy IS hb.1).symm.trans hc)
theorem iv{N:En}{Φ:Nat→List D→D}{Pre:Nat→List D→Prop}{R:D→Prop}{ops:Array Oper}{p0 M:Nat}{MM:Nat→Prop}{fin:List (Nat×fD)→St→VC}{dE:List (List D→Prop)}:
  ∀(n s:Nat) (acc:List (Nat×fD)) (σ:St) (ρ:Nat→D),(pZ N ops p0 M fin (List.range' s n) acc σ).holds Φ Pre R ρ dE→p0+s+n≤M→
   ∃(dK:Nat→D) (r:List (Nat×fD)) (σ':St),(∀i,i<p0+s→dK i=ρ i)∧qG N.P N.cs ops p0 M r σ σ'∧r.map (·.1)=List.range' s n∧(∀x∈r,∀it∈x.2.items,ct ⟨dK,M,MM⟩ Φ Pre it)∧(fin (acc++r) σ').holds Φ Pre R dK dE
 |0,s,acc,σ,ρ,h,_=>⟨ρ,[],σ,fun _ _=>rfl, .nil σ,rfl,by simp,by rw[List.append_nil];exact h⟩
 |n+1,s,acc,σ,ρ,h,hM=>by
  rw[List.range'_succ]at h⊢
  simp only[pZ]at h
  split at h
  ·exact h.elim
  ·rename_i o ho
   split at h
   ·rename_i e he
    split at h
    ·rename_i hc
     simp only[aw]at hc
     obtain⟨aL,hib⟩:=hc
     obtain⟨HX,a1,a2,a3⟩:=pI (N:=M) (M:=MM) hib (fun x hx=>by
      obtain⟨it,_,rfl⟩:=List.mem_map.1 hx
      show p0+s<M;omega) h
     obtain⟨dK,r,σ',b1,b2,b3,b4,b5⟩:=iv n (s+1) _ _ HX a3 (by omega)
     refine⟨dK,(s,e)::r,σ',fun i hi=>(b1 i (by omega)).trans (a1 i hi), .cons ho ⟨none,he⟩ aL b2,by simp[b3],?_,by simpa using b5⟩
     intro x hx it eC
     rcases List.mem_cons.1 hx with rfl|hx
     ·have hm:(p0+s,it)∈e.items.map fun it=>(p0+s,it):=List.mem_map.2 ⟨it,eC,rfl⟩
      exact Ft (a2 _ hm) (Bu hib _ hm) (fun i hi=>b1 i (by show i<p0+(s+1);have:i<p0+s+1:=hi;omega))
     ·exact b4 x hx it eC
    ·exact h.elim
   ·split at h
    ·rename_i y hy
     split at h
     ·rename_i x et ef hx het Tc
      split at h
      ·rename_i hc
       simp only[aw]at hc
       obtain⟨⟨aL,hlf⟩,cZ⟩:=hc
       obtain⟨k1,k2⟩:=h
       obtain⟨h1,h2⟩:=k2 _ rfl
       have key: ∀(b:Bool) (e:fD),iO (some b) N.P N.cs ops σ (p0+s) o=some e→e.uz.2.lt M=true→(den (dp ρ (p0+s) (Φ x.k (den ρ x.args).ak)) (L4 (p0+s))).eh= !b→
         (pZ N ops p0 M fin (List.range' (s+1) n) (acc++[(s,e)]) (e.app σ)).holds Φ Pre R (dp ρ (p0+s) (Φ x.k (den ρ x.args).ak)) dE→
         ∃(dK:Nat→D) (r:List (Nat×fD)) (σ':St),(∀i,i<p0+s→dK i=ρ i)∧qG N.P N.cs ops p0 M r σ σ'∧r.map (·.1)=s::List.range' (s+1) n∧(∀x∈r,∀it∈x.2.items,ct ⟨dK,M,MM⟩ Φ Pre it)∧(fin (acc++r) σ').holds Φ Pre R dK dE:=by
        intro b e he hle Io hh
        obtain⟨dK,r,σ',b1,b2,b3,b4,b5⟩:=iv n (s+1) _ _ _ hh (by omega)
        have ag: ∀i,i<p0+s→dK i=ρ i:=fun i hi=>(b1 i (by omega)).trans (cS _ _ (by omega))
        refine⟨dK,(s,e)::r,σ',ag, .cons ho ⟨some b,he⟩ hle b2,by simp[b3],?_,by simpa using b5⟩
        intro z hz it eC
        rcases List.mem_cons.1 hz with rfl|hz
        ·unfold iO at he
         simp only[hy]at he
         split at he
         ·cases he
         split at he
         ·rename_i fs hfs
          rw[hx]at he
          simp only[Option.map_some,Option.some.injEq]at he
          have acO:e.items=[.KP [(L4 (p0+s),!b)] true, .call (p0+s) x.k x.args []] :=by rw[←he];cases b<;>rfl
          rw[acO]at eC
          have hvp:dK (p0+s)=Φ x.k (den ρ x.args).ak:=by rw[b1 (p0+s) (by omega),ca]
          simp only[List.mem_cons,List.not_mem_nil,or_false]at eC
          rcases eC with rfl|rfl
          ·show aq dK [(L4 (p0+s),!b)] =true
           simp only[aq,List.all_cons,List.all_nil,Bool.and_true,beq_iff_eq,L4,den,hvp]
           rw[←Io]
           simp only[L4,den,ca]
          ·refine⟨E.lX (by show p0+s≤M;omega) cZ,by show p0+s<M;omega,?_,fun _=> ?_⟩
           ·show dK (p0+s)=Φ x.k (den dK x.args).ak
            rw[hvp,bR ag cZ]
           ·show Pre x.k (den dK x.args).ak
            rw[bR ag cZ];exact k1 rfl
         ·cases he
        ·exact b4 z hz it eC
       cases hb:(den (dp ρ (p0+s) (Φ x.k (den ρ x.args).ak)) (L4 (p0+s))).eh with
       |true=>exact key false ef Tc hlf hb (h1 hb)
       |false=>exact key true et het aL hb (h2 hb)
      ·exact h.elim
     ·exact h.elim
    rename_i OD
    split at h
    ·rename_i pc x et ef hg hx het Tc
     split at h
     ·rename_i hc
      simp only[aw]at hc
      obtain⟨⟨⟨aL,hlf⟩,bY⟩,cZ⟩:=hc
      obtain⟨h1,h2⟩:=h
      rw[uj]at h1 h2
      have agree: ∀dK:Nat→D,(∀i,i<p0+s→dK i=ρ i)→aq dK pc=aq ρ pc:=fun dK zH=>iy zH bY
      cases hb:aq ρ pc with
      |true=>
       obtain⟨k1,k2⟩:=h1 hb
       have k3:=k2 _ rfl
       obtain⟨dK,r,σ',b1,b2,b3,b4,b5⟩:=iv n (s+1) _ _ _ k3 (by omega)
       have ag: ∀i,i<p0+s→dK i=ρ i:=fun i hi=>(b1 i (by omega)).trans (cS _ _ (by omega))
       refine⟨dK,(s,et)::r,σ',ag, .cons ho ⟨some true,het⟩ aL b2,by simp[b3],?_,by simpa using b5⟩
       intro y hy it eC
       rcases List.mem_cons.1 hy with rfl|hy
       ·rw[hg,Option.bind_some]at hx
        unfold iO at het
        simp only[OD,hg,hx]at het
        split at het
        ·cases het
        injection het with het
        rw[←het]at eC
        simp only[List.mem_cons,List.not_mem_nil,or_false]at eC
        rcases eC with rfl|rfl
        ·show aq dK pc=true
         rw[agree dK ag,hb]
        ·refine⟨E.lX (by show p0+s≤M;omega) cZ,by show p0+s<M;omega,?_,fun _=> ?_⟩
         ·show dK (p0+s)=Φ x.k (den dK x.args).ak
          rw[b1 (p0+s) (by omega),ca,bR ag cZ]
         ·show Pre x.k (den dK x.args).ak
          rw[bR ag cZ];exact k1 rfl
       ·exact b4 y hy it eC
      |false=>
       obtain⟨dK,r,σ',b1,b2,b3,b4,b5⟩:=iv n (s+1) _ _ _ (h2 hb) (by omega)
       have ag: ∀i,i<p0+s→dK i=ρ i:=fun i hi=>b1 i (by omega)
       refine⟨dK,(s,ef)::r,σ',ag, .cons ho ⟨some false,Tc⟩ hlf b2,by simp[b3],?_,by simpa using b5⟩
       intro y hy it eC
       rcases List.mem_cons.1 hy with rfl|hy
       ·unfold iO at Tc
        simp only[OD,hg]at Tc
        split at Tc
        ·rename_i pc' sig aaD _
         injection aaD with aaD;subst aaD
         injection Tc with Tc
         rw[←Tc]at eC
         simp only[List.mem_cons,List.not_mem_nil,or_false]at eC
         subst eC
         show aq dK pc=false
         rw[agree dK ag,hb]
        ·cases Tc
       ·exact b4 y hy it eC
     ·exact h.elim
    ·exact h.elim
section
variable{w0:World}{S0:ew}{C:Cx}{G:Gh}{σ:St}{a:Act}{w:World}{n:Nat}
theorem er.drew(h:er n w0 S0 C G σ a w):er n w0 S0 C G σ a {w with drawn:=w.drawn+1}:=by
 have aU:bO C w G C {w with drawn:=w.drawn+1} G:=⟨fun _ h=>⟨rfl,h⟩,fun _ h=>h,fun _ _ h=>h,fun _ _ _=>rfl,fun _ _=>rfl,fun _ _=>rfl⟩
 refine⟨⟨h.m.below.drew,h.m.ic,h.m.keep,h.m.pd,h.m.jK,h.m.bL,h.m.eP,h.m.lG,?_,h.m.inj,?_,h.m.dM,h.m.gP,h.m.cz,h.m.lz aU rfl (fun _ _ _=>rfl) (fun _ _ h _=>h),h.m.wz⟩,h.t.later aU,h.sz,h.defers⟩
 ·intro id ro cs hx
  obtain⟨h1,h2,h3,h5⟩:=h.m.box id ro cs hx
  exact⟨h1,h2,h3.later aU rfl,h5⟩
 ·intro g e T t hx
  exact(h.m.own g e T t hx).later aU (fun _ _=>rfl) (fun _ _ _ h=>h)
structure abb(N:En)(Φ:Nat→List D→D)(Pre:Nat→List D→Prop)(w0:World)(S0:ew):Prop where
 fl: ∀k sig ob,lk N.cs.l k=some sig→sig.ob=some ob→ob.wV=true→ ∀b o,S0.gV b o→ ¬gH w0 S0 b
 cf:IZ N.P N.cs S0 Φ Pre
 wz:N.cs.fr=2→(∀b o,¬S0.gV b o)∧S0.wz
 dfs:N.YV≠ [] →Dfs w0 S0
def Marks(w0:World)(S0 S1:ew):Prop:= ∃ms:List Nat,S1.dfs=ms.map mark++S0.dfs∧ ∀r∈ms,w0.heap.size≤r
theorem Marks.refl(w0:World)(S0:ew):Marks w0 S0 S0:=⟨[],rfl,by simp⟩
theorem Marks.trans{w0 w1:World}{S0 S1 S2:ew}(h:Marks w0 S0 S1)(hw:w0.heap.size≤w1.heap.size)(k:Marks w1 S1 S2):Marks w0 S0 S2:=by
 obtain⟨ms,h1,h2⟩:=h
 obtain⟨ns,k1,k2⟩:=k
 refine⟨ns++ms,by rw[k1,h1];simp,fun r hr=> ?_⟩
 rcases List.mem_append.1 hr with hr|hr
 ·exact Nat.le_trans hw (k2 r hr)
 ·exact h2 r hr
structure nP(N:En)(Φ:Nat→List D→D)(Pre:Nat→List D→Prop)(c:Code)(w0:World)(S0:ew)(w1:World)(S1:ew):Prop where
 same:N.YV=[] ∨dS c=true→w1=w0∧S1=S0
 ext:Ext w0 S0 w1 S1
 env:abb N Φ Pre w1 S1
 marks:Marks w0 S0 S1
theorem nP.refl{N:En}{Φ:Nat→List D→D}{Pre:Nat→List D→Prop}{c:Code}{w0:World}{S0:ew}(h:abb N Φ Pre w0 S0):nP N Φ Pre c w0 S0 w0 S0:=⟨fun _=>⟨rfl,rfl⟩,Ext.refl _ _,h,Marks.refl _ _⟩
theorem nP.seq{N:En}{Φ:Nat→List D→D}{Pre:Nat→List D→Prop}{x y z:Code}{w0 w1 w2:World}{S0 S1 S2:ew}(hx:dS z=true→dS x=true)(hy:dS z=true→dS y=true)(h:nP N Φ Pre x w0 S0 w1 S1)(k:nP N Φ Pre y w1 S1 w2 S2):nP N Φ Pre z w0 S0 w2 S2 where
 same hc:=by
  obtain⟨rfl,rfl⟩:=h.same (hc.imp id hx)
  exact k.same (hc.imp id hy)
 ext:=h.ext.trans k.ext
 env:=k.env
 marks:=h.marks.trans h.ext.below.size k.marks
theorem nP.sub{N:En}{Φ:Nat→List D→D}{Pre:Nat→List D→Prop}{x z:Code}{w0 w1:World}{S0 S1:ew}(hx:dS z=true→dS x=true)(h:nP N Φ Pre x w0 S0 w1 S1):nP N Φ Pre z w0 S0 w1 S1:=⟨fun hc=>h.same (hc.imp id hx),h.ext,h.env,h.marks⟩
theorem MR.sub{ro:Option Nat}{z c:Code}{Q Q':Exit→Act→World→Prop}(h:MR ro z Q)(hp:dS z=true→dS c=true)(hq: ∀a w,Q' .outgrown a w→Q .outgrown a w):MR ro c Q':=fun hr=>⟨hp (h hr).1,fun a w hw=>(h hr).2 a w (hq a w hw)⟩
section
variable{w0:World}{S0:ew}{C:Cx}{G:Gh}{σ:St}{a:Act}{w:World}{n:Nat}
theorem cJ.Vy(h:cJ w0 S0 C G σ w){g:Tag}{e:E}{T:TypeId}{t:Ty}(hg:σ.live g=some (e,T,t))(hex:g.ex=true)(fo:0<t.cells.length)(nK: ¬S0.fr)(jg: ¬S0.wz):
  ∃G',bO C w G C w G'∧cJ w0 S0 C G' {σ with live:=fun g'=>if g'=g then none else σ.live g'} w∧e.lt C.N=true∧bj w G'.S (G.τ g) (den C.ρ e)∧Has (.list t) (den C.ρ e):=by
 have bM:=h.own g e T t hg
 obtain⟨xs,l,hd,bw,hS,hr⟩:=bM.own
 have aU:bO C w G C w {G with S:=fun b o=>G.S b o∨((G.τ g).ownBlock=some b∧o<xs.length)}:=
  ⟨fun _ h=>⟨rfl,h⟩,fun _ h=>h,fun _ _ h=> .inl h,fun _ _ _=>rfl,fun _ _=>rfl,fun _ _=>rfl⟩
 have bf: ∀{g':Tag} {x:E×TypeId×Ty},(if g'=g then none else σ.live g')=some x→g'≠g∧σ.live g'=some x:=by
  intro g' x hx
  split at hx
  ·cases hx
  ·rename_i dH;exact⟨dH,hx⟩
 refine⟨{G with S:=fun b o=>G.S b o∨((G.τ g).ownBlock=some b∧o<xs.length)},aU,?_,bM.lt,?_,bM.has⟩
 ·refine⟨h.below,fun b o hs=> .inl (h.ic b o hs),h.keep,h.pd,h.jK,?_,?_,h.lG,?_,h.inj,?_,?_,?_,?_,fun hf=>absurd hf nK,fun hz=>absurd hz jg⟩
  ·rintro b o (hs|⟨hb,_⟩)
   ·exact h.bL b o hs
   ·exact(bM.dW b hb).2
  ·rintro b o (hs|⟨hb,_⟩)
   ·exact h.eP b o hs
   ·exact .inr (h.dM g _ b hg hb)
  ·intro i FR pW hx
   obtain⟨h1,h2,h3,h5⟩:=h.box i FR pW hx
   refine⟨h1,h2,h3.later aU rfl,?_⟩
   cases FR with
   |true=>simp only[if_true]at h5⊢;exact fun o ho=> .inl (h5 o ho)
   |false=>
    simp only[Bool.false_eq_true,if_false]at h5⊢
    rintro o (ho|⟨he,_⟩)
    ·exact h5 o ho
    ·exact h.cz g i _ _ _ hg hx he rfl
  ·intro g' e' T' t' hx
   obtain⟨dH,hx⟩:=bf hx
   refine(h.own g' e' T' t' hx).later aU (fun _ _=>rfl) (fun b hb o hs=> ?_)
   rcases hs with hs|⟨fu,_⟩
   ·exact hs
   ·exact absurd (h.gP g' g _ _ b hx hg hb fu) dH
  ·intro g' x b hx hb
   exact h.dM g' x b (bf hx).2 hb
  ·intro g1 g2 x y b hx hy h1 h2
   exact h.gP g1 g2 x y b (bf hx).2 (bf hy).2 h1 h2
  ·intro g' i x y b hx hy hb
   exact h.cz g' i x y b (bf hx).2 hy hb
 ·rw[hd]
  obtain⟨hl,hh⟩:=bw
  rcases hh with⟨hv,hn⟩|⟨b,cap,cur,hv,hb,fq,yL,H9,gS,tp⟩
  ·have:l=[] :=List.eq_nil_of_length_eq_zero hn
   subst this
   rw[hv];exact .nil none 0
  ·have eS:=bM.has
   rw[hd]at eS
   obtain⟨l',ks,_,hx⟩:=aD.1 eS
   injection ks with ks;subst ks
   by_cases dH:l=[]
   ·subst dH;rw[hv];exact .nil _ cap
   ·have dw:(G.τ g).ownBlock=some b:=by rw[hv];rfl
    rw[hv]at dw⊢
    refine .list b 0 cap t.cells.length xs l fo dH yL hl (fun i hi=> ?_) (fun i v hi=> ?_) (fun i d gZ=> ?_) (fun i d j v c h1 h2 h3=>(hr i d j v c h1 h2 h3).keep (fun _ _ h=> .inl h) (fun _ _ _=>rfl))
    ·rw[Nat.zero_add];exact .inr ⟨dw,hi⟩
    ·rw[Nat.zero_add,cell_of_row w b i cur T (0,0) fq]
     rw[←tp,List.getElem?_take]at hi
     split at hi
     ·simpa using hi
     ·cases hi
    ·exact(bp (hx d (aS gZ))).1
theorem er.ML(h:er n w0 S0 C G σ a w)(nK: ¬S0.fr)(jg: ¬S0.wz)(id i:Nat): ∃G',er n w0 S0 C G' (ML id σ i) a w:=by
 unfold bZ.ML
 split
 ·rename_i cs cU
  split
  ·rename_i g u KM
   split
   ·rename_i e T u' hg
    split
    ·rename_i hc
     obtain⟨rfl,hex,fo⟩:=hc
     obtain⟨G',aU,hm,aL,fa,eS⟩:=h.m.Vy hg hex fo nK jg
     have eX:i<cs.length:=(ai.1 KM).1
     have BW:mapOf cs=none:=by
      unfold mapOf
      split
      ·rename_i e' kt T'
       have:i=0:=by simpa using eX
       subst this
       cases KM
      ·rfl
     have awm:mapOf (cs.set i (.eV e (.list u')))=none:=by
      unfold mapOf
      split
      ·rename_i e' kt T' heq
       have hl:=congrArg List.length heq
       simp at hl
       have:i=0:=by omega
       subst this
       cases cs with
       |nil=>simp at eX
       |cons c r=>simp at heq
      ·rfl
     have aaS:(⟨σ.tm,σ.hp,fun g'=>if g'=g then none else σ.live g'⟩:St).hp id=some (false,cs):=cU
     refine⟨G',⟨?_,h.t.later aU,h.sz,h.defers⟩⟩
     have Y9: ∀{j:Nat} {x:Bool×List SC},dp σ.hp id (some (false,cs.set i (.eV e (.list u')))) j=some x→ ∃y,σ.hp j=some y:=by
      intro j x hx
      by_cases hj:j=id
      ·exact⟨_,hj▸cU⟩
      ·rw[cS _ _ hj]at hx;exact⟨_,hx⟩
     refine⟨hm.below,hm.ic,hm.keep,hm.pd,hm.jK,hm.bL,hm.eP,?_,?_,?_,hm.own,hm.dM,hm.gP,?_,hm.fresh,hm.wz⟩
     ·intro j x hx
      obtain⟨y,hy⟩:=Y9 hx
      exact hm.lG j y hy
     ·intro j FR pW hx
      by_cases hj:j=id
      ·subst hj
       have hx:dp σ.hp j (some (false,cs.set i (.eV e (.list u')))) j=some (FR,pW):=hx
       simp only[ca,Option.some.injEq,Prod.mk.injEq]at hx
       obtain⟨rfl,rfl⟩:=hx
       obtain⟨b1,b2,b3,b4⟩:=hm.box j _ _ aaS
       obtain⟨vs,Tb,fq,mB⟩:=b3.cells BW
       refine⟨b1,?_, .mk fq ⟨by rw[List.length_set];exact mB.1,fun k c v hc hv=> ?_⟩,?_⟩
       ·rw[aV]at b2⊢
        intro x hx
        rcases List.mem_or_eq_of_mem_set hx with hx|rfl
        ·exact b2 x hx
        ·rfl
       ·by_cases hk:k=i
        ·subst hk
         rw[List.getElem?_set_self eX]at hc
         injection hc with hc;subst hc
         obtain⟨hM,ng,_⟩:=mB.2 k _ v KM hv
         have eJ:G'.τ g=G.τ g:=aU.τ g hM
         exact⟨aL,by rw[ng,eJ];exact fa,eS⟩
        ·rw[List.getElem?_set_ne (fun e=>hk e.symm)]at hc
         exact mB.2 k c v hc hv
       ·simp only[Bool.false_eq_true,if_false]at b4⊢
        exact b4
      ·have hx:σ.hp j=some (FR,pW):=by
        have hx:dp σ.hp id (some (false,cs.set i (.eV e (.list u')))) j=some (FR,pW):=hx
        rwa [cS _ _ hj]at hx
       exact hm.box j FR pW hx
     ·intro j k x y hx hy he
      obtain⟨x',iA⟩:=Y9 hx
      obtain⟨y',kU⟩:=Y9 hy
      exact hm.inj j k x' y' iA kU he
     ·intro g' j x y b hx hy hb
      obtain⟨y',kU⟩:=Y9 hy
      exact hm.cz g' j x y' b hx kU hb
    ·exact⟨G,h⟩
   ·exact⟨G,h⟩
  ·exact⟨G,h⟩
 ·exact⟨G,h⟩
theorem er.aic(nK: ¬S0.fr)(jg: ¬S0.wz)(id:Nat): ∀(l:List Nat) {G:Gh} {σ:St},er n w0 S0 C G σ a w→ ∃G',er n w0 S0 C G' (l.foldl (bZ.ML id) σ) a w
 | [],G,_,h=>⟨G,h⟩
 |t::l,_,_,h=>by
  obtain⟨G',h'⟩:=h.ML nK jg id t
  exact er.aic nK jg id l h'
theorem er.MI(h:er n w0 S0 C G σ a w)(nK: ¬S0.fr)(jg: ¬S0.wz)(t:Nat): ∃G',er n w0 S0 C G' (MI σ t) a w:=by
 unfold bZ.MI
 split
 ·split
  ·exact er.aic nK jg _ _ h
  ·exact⟨G,h⟩
 ·exact⟨G,h⟩
theorem er.XK(nK: ¬S0.fr)(jg: ¬S0.wz): ∀(l:List Nat) {G:Gh} {σ:St},er n w0 S0 C G σ a w→ ∃G',er n w0 S0 C G' (l.foldl bZ.MI σ) a w
 | [],G,_,h=>⟨G,h⟩
 |t::l,_,_,h=>by
  obtain⟨G',h'⟩:=h.MI nK jg t
  exact er.XK nK jg l h'
theorem er.aib: ∀(l:List Nat) {G:Gh} {σ:St},er n w0 S0 C G σ a w→ ∃G',er n w0 S0 C G' (l.foldl (fun σ t=>bZ.Gn σ (.tmp t, .ptr .nil,none)) σ) a w
 | [],G,_,h=>⟨G,h⟩
 |t::l,_,_,h=>by
  obtain⟨G1,h1⟩:=h.Gn (.tmp t, .ptr .nil,none)
  exact er.aib l h1
theorem er.Pt{N:En}(r:Nat)(h:er n w0 S0 C G σ a w): ∃G',er n w0 S0 C G' (bZ.Pt N r σ) a w:=er.aib _ h
theorem er.MK{N:En}(r:Nat)(h:er n w0 S0 C G σ a w)(hf:N.cs.fr=0→ ¬S0.fr∧ ¬S0.wz): ∃G',er n w0 S0 C G' (MK N r σ) a w:=by
 unfold bZ.MK
 split
 ·rename_i hq
  obtain⟨h1,h2⟩:=hf (by simpa using hq)
  exact er.XK h1 h2 _ h
 ·exact⟨G,h⟩
end
theorem cJ.setCell(h:cJ w0 S0 C G σ w){id c:Nat}{cs:List SC}{x y:SC}(cU:σ.hp id=some (false,cs))(hc:cs[c]? =some x)(hx:x.scalar=true→y.scalar=true)(BW: ∀e kt T,x≠ .tM e kt T)
  (hxy: ∀v,pX C w G x v→pX C w G y v):cJ w0 S0 C G (OU σ id c cs y) w:=by
 have Y3: ∀i z,(OU σ id c cs y).hp i=some z→(i=id∧z=(false,cs.set c y))∨(i≠id∧σ.hp i=some z):=by
  intro i z hz
  simp only[OU]at hz
  by_cases hi:i=id
  ·subst hi;rw[ca]at hz;injection hz with hz;exact .inl ⟨rfl,hz.symm⟩
  ·rw[cS _ _ hi]at hz;exact .inr ⟨hi,hz⟩
 have ib: ∀i z,(OU σ id c cs y).hp i=some z→ ∃z',σ.hp i=some z':=by
  intro i z hz
  rcases Y3 i z hz with⟨rfl,_⟩|⟨_,h⟩
  ·exact⟨_,cU⟩
  ·exact⟨_,h⟩
 refine{below:=h.below,ic:=h.ic,keep:=h.keep,pd:=h.pd,jK:=h.jK,bL:=h.bL,eP:=h.eP,lG:= ?_,box:= ?_,inj:= ?_,own:=h.own,dM:=h.dM,gP:=h.gP,cz:= ?_,fresh:=h.fresh,wz:=h.wz}
 ·intro i z hz
  obtain⟨z',h'⟩:=ib i z hz
  exact h.lG i z' h'
 ·intro i ro pW hz
  rcases Y3 i _ hz with⟨rfl,h2⟩|⟨_,h2⟩
  ·simp only[Prod.mk.injEq]at h2
   obtain⟨rfl,rfl⟩:=h2
   obtain⟨b1,b2,b3,b4⟩:=h.box _ _ _ cU
   have hm:mapOf cs=none:=by
    unfold mapOf
    split
    ·rename_i e kt T
     cases c with
     |zero=>simp at hc;exact absurd hc.symm (BW _ _ _)
     |succ c=>simp at hc
    ·rfl
   obtain⟨vs,T,e1,e2⟩:=b3.cells hm
   have gz:c<cs.length:=(ai.1 hc).1
   refine⟨b1,?_,ij.mk (vs:=vs) (T:=T) e1 ⟨by simpa using e2.1,?_⟩,by simpa using b4⟩
   ·rw[aV]at b2⊢
    intro z hz
    rcases List.mem_or_eq_of_mem_set hz with hz|rfl
    ·exact b2 z hz
    ·exact hx (b2 x (aS hc))
   ·intro i z v hz hv
    rw[List.getElem?_set]at hz
    split at hz
    ·rename_i KM
     subst KM
     injection hz with hz;subst hz
     exact hxy v (e2.2 _ _ _ hc hv)
    ·exact e2.2 _ _ _ hz hv
  ·exact h.box _ _ _ h2
 ·intro i j a b ha hb
  obtain⟨a',ha'⟩:=ib i a ha
  obtain⟨b',fu⟩:=ib j b hb
  exact h.inj i j a' b' ha' fu
 ·intro g i a b bl hg hb
  obtain⟨b',fu⟩:=ib i b hb
  exact h.cz g i a b' bl hg fu
theorem Hy{N:En}{Φ:Nat→List D→D}{Pre:Nat→List D→Prop}{R:D→Prop}{r p n:Nat}{f:St→VC}{σ:St}{ρ:Nat→D}{dE:List (List D→Prop)}{w0 w:World}{S0:ew}{G:Gh}{a:Act}{id c m:Nat}{cs:List SC}{e:E}{kd:IntKind}
  (uv:tZ N r σ p=some (id,c,cs,e,kd,m)) (hs:er n w0 S0 ⟨ρ,p,fun i=>i<p⟩ G σ a w): ∀l:List Nat,(vD f σ id c cs e kd l).holds Φ Pre R ρ dE→ ∃σ',(f σ').holds Φ Pre R ρ dE∧er n w0 S0 ⟨ρ,p,fun i=>i<p⟩ G σ' a w:=by
 have hh:σ.hp id=some (false,cs)∧cs[c]? =some (.eV e (.int kd)):=by
  unfold tZ at uv
  split at uv
  ·split at uv
   ·split at uv
    ·rename_i qn
     split at uv
     ·rename_i m8
      split at uv
      ·injection uv with uv
       simp only[Prod.mk.injEq]at uv
       obtain⟨rfl,rfl,rfl,rfl,rfl,_⟩:=uv
       exact⟨qn,m8⟩
      ·cases uv
     ·cases uv
    ·cases uv
   ·cases uv
  ·cases uv
 obtain⟨cU,hc⟩:=hh
 intro l
 induction l with
 |nil=>intro h;exact h.elim
 |cons j r ih=>
  intro h
  unfold vD at h
  obtain⟨h1,h2⟩:=h
  cases hb:(den ρ (.bin .eq e (.ao kd j))).eh with
  |false=>exact ih (h2 hb)
  |true=>
   refine⟨_,h1 hb,⟨hs.m.setCell cU hc (fun _=>rfl) (fun _ _ _ h=>by cases h) ?_,hs.t,hs.sz,hs.defers⟩⟩
   rintro v ⟨aL,fa,eS⟩
   obtain⟨z,hz,hzk⟩:=bF.1 eS
   have hzj:z=(j:Int):=by
    have KD:den ρ e= .int kd z:=hz
    simp only[den,B.den,KD,D.ab,D.eh]at hb
    simpa using hb
   subst hzj
   refine⟨rfl,?_,bF.2 ⟨(j:Int),rfl,hzk⟩⟩
   rw[hz]at fa
   exact fa
theorem JW{N:En}{Φ:Nat→List D→D}{Pre:Nat→List D→Prop}{R:D→Prop}{r p n:Nat}{f:St→VC}{σ:St}{ρ:Nat→D}{dE:List (List D→Prop)}{w0 w:World}{S0:ew}{G:Gh}{a:Act}
  (h:(EN N r p f σ).holds Φ Pre R ρ dE) (hs:er n w0 S0 ⟨ρ,p,fun i=>i<p⟩ G σ a w): ∃σ',(f σ').holds Φ Pre R ρ dE∧er n w0 S0 ⟨ρ,p,fun i=>i<p⟩ G σ' a w:=by
 unfold EN at h
 split at h
 ·rename_i t e kd m uv
  have ht:σ.tm t=some ([], .one (.eV e (.int kd))):=by
   unfold splitAt at uv
   split at uv
   ·rename_i x0 _
    generalize T4 x0=y at uv
    split at uv
    ·rename_i uE
     split at uv
     ·injection uv with uv
      simp only[Prod.mk.injEq]at uv
      obtain⟨rfl,rfl,rfl,_⟩:=uv
      exact uE
     ·cases uv
    ·cases uv
   ·cases uv
  obtain⟨v,hv,hc,_,hr⟩:=hs.t t _ _ ht
  simp only[aq,List.all_nil,if_true]at hr
  obtain⟨aL,fa,eS⟩:=hr
  obtain⟨z,hz,hzk⟩:=bF.1 eS
  have go: ∀l:List Nat,(zo f σ t e kd l).holds Φ Pre R ρ dE→ ∃σ',(f σ').holds Φ Pre R ρ dE∧er n w0 S0 ⟨ρ,p,fun i=>i<p⟩ G σ' a w:=by
   intro l
   induction l with
   |nil=>intro h;exact h.elim
   |cons j r ih=>
    intro h
    unfold zo at h
    obtain⟨h1,h2⟩:=h
    cases hb:(den ρ (.bin .eq e (.ao kd j))).eh with
    |false=>exact ih (h2 hb)
    |true=>
     have hzj:z=(j:Int):=by
      have KD:den ρ e= .int kd z:=hz
      simp only[den,B.den,KD,D.ab,D.eh]at hb
      simpa using hb
     subst hzj
     refine⟨_,h1 hb,⟨hs.m.congr (σ':=F8 σ t (.eV (.ao kd j) (.int kd))) rfl rfl,?_,hs.sz,hs.defers⟩⟩
     intro t' c s nh
     have IM:dp σ.tm t (some ([], .one (.eV (.ao kd j) (.int kd)))) t'=some (c,s):=nh
     by_cases FY:t'=t
     ·subst FY
      rw[ca]at IM
      injection IM with IM
      simp only[Prod.mk.injEq]at IM
      obtain⟨rfl,rfl⟩:=IM
      refine⟨v,hv,by simp,rfl,?_⟩
      simp only[aq,List.all_nil,if_true]
      refine⟨rfl,?_,bF.2 ⟨(j:Int),rfl,hzk⟩⟩
      rw[hz]at fa
      exact fa
     ·rw[cS _ _ FY]at IM
      exact hs.t t' c s IM
  exact go _ h
 ·split at h
  ·rename_i uv
   exact Hy uv hs _ h
  ·exact⟨σ,h,hs⟩
theorem MT{N:En}{Φ:Nat→List D→D}{Pre:Nat→List D→Prop}{R:D→Prop}(tO:N.P.follows .mixedOrders=true)(fb: ∀k sig,lk N.cs.l k=some sig→ax N.P k sig (Pre k) (Φ k))
  (hfw: ∀k y,lk N.fw k=some y→E3 N.P k y.1 y.2 (fun _=>True) (Φ k)) (SP: ∀k y,lk N.wl k=some y→JG N.P k y.1 y.2) (ahR: ∀k y,lk N.YV k=some y→ac9 N.P k y.1 y.2 (Pre k) (Φ k)):
  ∀(c:Code) (ro:Option Nat) (k:Ex→St→Nat→Nat→VC) (σ:St) (p d:Nat) (ρ:Nat→D) (dE:List (List D→Prop)) (Q:Exit→Act→World→Prop) (w0:World) (S0:ew),abb N Φ Pre w0 S0→MR ro c Q→
  (vc N c k σ p d).holds Φ Pre R ρ dE→dE.length=d→(∀i b,S0.pd i=some b→i<p)→
  (∀w1 S1,nP N Φ Pre c w0 S0 w1 S1→ ∀ex σ' p' d' dK ka a w G,(∀i b,S1.pd i=some b→i<p')→p≤p'→(∀i,i<p→dK i=ρ i)→ka.length=d'→(∃l,ka=l++dE)→(k ex σ' p' d').holds Φ Pre R dK ka→er N.n w1 S1 ⟨dK,p',fun i=>i<p'⟩ G σ' a w→Q ex.to a w)→
  ∀a w G,er N.n w0 S0 ⟨ρ,p,fun i=>i<p⟩ G σ a w→WP ro N.P c Q a w:=by
 intro c
 induction c with
 |skip=>intro ro k σ p d ρ dE Q w0 S0 hV n9 h hd lF hk a w G hs;exact WP.skip (hk _ _ (nP.refl hV) .normal _ _ _ _ _ a w G lF (Nat.le_refl _) (fun _ _=>rfl) hd ⟨[],rfl⟩ h hs)
 |label l=>intro ro k σ p d ρ dE Q w0 S0 hV n9 h hd lF hk a w G hs;exact WP.label (hk _ _ (nP.refl hV) .normal _ _ _ _ _ a w G lF (Nat.le_refl _) (fun _ _=>rfl) hd ⟨[],rfl⟩ h hs)
 |exit i=>intro ro k σ p d ρ dE Q w0 S0 hV n9 h hd lF hk a w G hs;exact WP.exit (hk _ _ (nP.refl hV) (.exit i) _ _ _ _ _ a w G lF (Nat.le_refl _) (fun _ _=>rfl) hd ⟨[],rfl⟩ h hs)
 |ret=>intro ro k σ p d ρ dE Q w0 S0 hV n9 h hd lF hk a w G hs;exact WP.ret (hk _ _ (nP.refl hV) .ret _ _ _ _ _ a w G lF (Nat.le_refl _) (fun _ _=>rfl) hd ⟨[],rfl⟩ h hs)
 |region id ops draw=>
  intro ro k σ p d ρ dE Q w0 S0 hV n9 h hd lF hk a w G hs
  have sZ:=hV.fl
  have s9:=hV.cf
  have hwz:=hV.wz
  replace hk: ∀ex σ' p' d' dK ka a w G,p≤p'→(∀i,i<p→dK i=ρ i)→ka.length=d'→(∃l,ka=l++dE)→(k ex σ' p' d').holds Φ Pre R dK ka→er N.n w0 S0 ⟨dK,p',fun i=>i<p'⟩ G σ' a w→Q ex.to a w:=
   fun ex σ' p' d' dK ka a w G hp=>hk w0 S0 (nP.refl hV) ex σ' p' d' dK ka a w G (fun i b hi=>Nat.lt_of_lt_of_le (lF i b hi) hp) hp
  simp only[vc]at h
  obtain⟨G,hs⟩:=hs.MK (N:=N) id (fun hz=>⟨fun hf=>by have:=hV.cf.1 hf;omega,fun hf=>by have:=hV.cf.2 hf;omega⟩)
  obtain⟨G,hs⟩:=hs.Pt (N:=N) id
  generalize Pt N id (MK N id σ)=σ at h hs
  obtain⟨SE,h2,xP⟩:=JW h hs
  clear h hs
  clear σ
  revert h2 xP
  revert SE
  intro σ h hs
  unfold WI at h
  split at h
  ·rename_i c hx
   obtain⟨rfl,gz⟩:=JN hx
   simp only[if_true]at gz
   obtain⟨HX,r1,VZ,Gm,JA,Af,Qq,Im⟩:=iv (MM:=fun i=>i<p) c 0 [] σ ρ h (by omega)
   rw[Nat.add_zero]at Gm
   split at Im
   ·rename_i t e N9
    rw[Option.bind_eq_some_iff]at N9
    obtain⟨o,ho,N9⟩:=N9
    split at Im
    ·rename_i cp
     simp only[XL]at cp
     have Lc: ∀(i:Nat) (o:Oper) (dd:Nat),ops[i]? =some o→o.dst=some dd→dd<N.n:=fun i o dd ho hod=>by
      have:=aV.1 cp o (by simpa using Array.mem_of_getElem? ho)
      rw[hod]at this;simpa using this
     have yJ: ∀y∈r1,y.1<c:=fun y hy=>by
      have:y.1∈List.range' 0 c:=by rw[←Af];exact List.mem_map.2 ⟨y,hy,rfl⟩
      rw[List.mem_range'_1]at this;omega
     have Qo:bO ⟨ρ,p,fun i=>i<p⟩ w G ⟨HX,p+c,fun i=>i<p⟩ w G:=
      ⟨fun e he=>⟨bR Gm he,E.lX (Nat.le_add_right _ _) he⟩,fun _ h=>h,fun _ _ h=>h,fun _ _ _=>rfl,fun _ _=>rfl,fun _ _=>rfl⟩
     have yT:nq N.P N.cs ops p N.n S0 ⟨HX,p+c,fun i=>i<p⟩ Φ Pre r1:=
      ⟨fb,Qq,fun y hy=>by have:=yJ y hy;show p+y.1<p+c;omega,Lc,s9⟩
     refine WP.region n9 ?_
     have Jz:List.range ops.size=r1.map (·.1)++List.range' c (ops.size-c):=by
      rw[Af,List.range_eq_range']
      have h2:=List.range'_append_1 (s:=0) (m:=c) (n:=ops.size-c)
      rw[Nat.zero_add]at h2
      rw[h2];congr 1;omega
     rw[Jz]
     refine je _ JA yT (hs.fm Qo) (by rw[Af];exact List.nodup_range') (fun y hy h=>by
      have h':p+y.1<p:=h
      omega) ?_
     intro a1 w1 G1 M1 hM1 hs1
     have aaA:=hs1.fm (bO.K2 ⟨HX,p+c,M1⟩ w1 G1 (M':=fun i=>i<p+c) (fun i hi=>by
      rcases hM1 i hi with h|⟨y,hy,rfl⟩
      ·have h':i<p:=h
       show i<p+c;omega
      ·have:=yJ y hy;show p+y.1<p+c;omega))
     have fX:List.range' c (ops.size-c)=[c] :=by rw[show ops.size-c=1 by omega];rfl
     rw[fX]
     obtain⟨g1,g2⟩:=Im
     have qo:(den HX (.bin .eq (.un .len e) (.ao .i64 0))).eh=decide ((den HX e).ak.length=0):=by
      show((((den HX e).ak.length:Nat):Int)==0)=_
      rw[Bool.eq_iff_iff];simp
     refine Vn ho N9 aaA Q [] (fun SY b a2 xP=> ?_) (fun SY a2 xP=> ?_)
     ·have h3:=g1 (by rw[qo];exact decide_eq_true SY) (.bool b) (bA.2 ⟨_,rfl⟩)
      have e1:p+c+1=p+ops.size:=by omega
      rw[e1]at xP
      exact hk .normal _ (p+ops.size) d _ dE a2 w1 G1 (Nat.le_add_right _ _) (fun i hi=>(cS _ _ (by omega)).trans (Gm i hi)) hd ⟨[],rfl⟩ h3 xP
     ·have h3:=g2 (by rw[qo];exact decide_eq_false SY) (.bool false) (bA.2 ⟨_,rfl⟩)
      have e1:p+c+1=p+ops.size:=by omega
      rw[e1]at xP
      exact hk .normal _ (p+ops.size) d _ dE a2 w1 G1 (Nat.le_add_right _ _) (fun i hi=>(cS _ _ (by omega)).trans (Gm i hi)) hd ⟨[],rfl⟩ h3 xP
    ·exact Im.elim
   ·exact Im.elim
  ·rename_i c hx
   exact h.elim
  split at h
  ·rename_i hwe
   exact h.elim
  split at h
  ·rename_i c hx
   exact h.elim
  split at h
  ·rename_i c hx
   obtain⟨rfl,ahH,gz⟩:=RO hx
   have nK: ¬S0.fr:=fun iQ=>by have:=s9.1 iQ;rw[ahH]at this;cases this
   have jg: ¬S0.wz:=fun iQ=>by have:=s9.2 iQ;rw[ahH]at this;cases this
   obtain⟨HX,r1,VZ,Gm,JA,Af,Qq,Im⟩:=iv (MM:=fun i=>i<p) c 0 [] σ ρ h (by omega)
   rw[Nat.add_zero]at Gm
   split at Im
   ·rename_i x N9
    rw[Option.bind_eq_some_iff]at N9
    obtain⟨o,ho,N9⟩:=N9
    split at Im
    ·rename_i hc
     simp only[aw]at hc
     obtain⟨mZ,cp⟩:=hc
     obtain⟨gE,h2⟩:=Im
     have iV:Pre x.k [den HX x.e] :=gE rfl
     have h2':=h2 _ rfl
     obtain⟨Oq,r2,SE,ah2,acK,Qn,ako,hf2⟩:=iv (MM:=fun i=>i<p+c+1) (ops.size-(c+1)) (c+1) [] _ _ h2' (by omega)
     have Lc: ∀(i:Nat) (o:Oper) (dd:Nat),ops[i]? =some o→o.dst=some dd→dd<N.n:=fun i o dd ho hod=>by
      have:=aV.1 cp o (by simpa using Array.mem_of_getElem? ho)
      rw[hod]at this;simpa using this
     have yJ: ∀y∈r1,y.1<c:=fun y hy=>by
      have:y.1∈List.range' 0 c:=by rw[←Af];exact List.mem_map.2 ⟨y,hy,rfl⟩
      rw[List.mem_range'_1]at this;omega
     have lC: ∀y∈r2,c+1≤y.1∧y.1<ops.size:=fun y hy=>by
      have:y.1∈List.range' (c+1) (ops.size-(c+1)):=by rw[←Qn];exact List.mem_map.2 ⟨y,hy,rfl⟩
      rw[List.mem_range'_1]at this;omega
     have Qo:bO ⟨ρ,p,fun i=>i<p⟩ w G ⟨HX,p+c,fun i=>i<p⟩ w G:=
      ⟨fun e he=>⟨bR Gm he,E.lX (Nat.le_add_right _ _) he⟩,fun _ h=>h,fun _ _ h=>h,fun _ _ _=>rfl,fun _ _=>rfl,fun _ _=>rfl⟩
     have yT:nq N.P N.cs ops p N.n S0 ⟨HX,p+c,fun i=>i<p⟩ Φ Pre r1:=
      ⟨fb,Qq,fun y hy=>by have:=yJ y hy;show p+y.1<p+c;omega,Lc,s9⟩
     refine WP.region n9 ?_
     have Jz:List.range ops.size=r1.map (·.1)++(c::(r2.map (·.1)++[])):=by
      rw[Af,Qn,List.append_nil,List.range_eq_range']
      have h1:c::List.range' (c+1) (ops.size-(c+1))=List.range' c (ops.size-(c+1)+1):=List.range'_succ.symm
      have h2:=List.range'_append_1 (s:=0) (m:=c) (n:=ops.size-(c+1)+1)
      rw[Nat.zero_add]at h2
      rw[h1,h2]
      congr 1;omega
     rw[Jz]
     refine je _ JA yT (hs.fm Qo) (by rw[Af];exact List.nodup_range') (fun y hy h=>by
      have h':p+y.1<p:=h
      omega) ?_
     intro a1 w1 G1 M1 hM1 hs1
     have aaA:=hs1.fm (bO.K2 ⟨HX,p+c,M1⟩ w1 G1 (M':=fun i=>i<p+c) (fun i hi=>by
      rcases hM1 i hi with h|⟨y,hy,rfl⟩
      ·have h':i<p:=h
       show i<p+c;omega
      ·have:=yJ y hy;show p+y.1<p+c;omega))
     have xY:=UU (ops:=ops) N9 fb aaA iV sZ nK jg (wpOps N.P ops Q (r2.map (·.1)++[])) Q (fun a2 w2 G2 xP=>by
      have akm:bO ⟨dp HX (p+c) (Φ x.k [den HX x.e]),p+c+1,fun i=>i<p+c+1⟩ w2 G2 ⟨Oq,p+ops.size,fun i=>i<p+c+1⟩ w2 G2:=
       ⟨fun e he=>⟨bR (fun i hi=>ah2 i (by show i<p+(c+1);have:i<p+c+1:=hi;omega)) he,E.lX (by show p+c+1≤p+ops.size;omega) he⟩,fun _ h=>h,fun _ _ h=>h,fun _ _ _=>rfl,fun _ _=>rfl,fun _ _=>rfl⟩
      have uJ:nq N.P N.cs ops p N.n S0 ⟨Oq,p+ops.size,fun i=>i<p+c+1⟩ Φ Pre r2:=
       ⟨fb,ako,fun y hy=>by have:=lC y hy;show p+y.1<p+ops.size;omega,Lc,s9⟩
      refine je _ acK uJ (xP.fm akm) (by rw[Qn];exact List.nodup_range') (fun y hy h=>by
       have h':p+y.1<p+c+1:=h
       have:=lC y hy
       omega) ?_
      intro a3 w3 G3 M3 hM3 hs3
      have aqu:=hs3.fm (bO.K2 ⟨Oq,p+ops.size,M3⟩ w3 G3 (M':=fun i=>i<p+ops.size) (fun i hi=>by
       rcases hM3 i hi with h|⟨y,hy,rfl⟩
       ·have h':i<p+c+1:=h
        show i<p+ops.size;omega
       ·have:=lC y hy;show p+y.1<p+ops.size;omega))
      show Q .normal a3 w3
      refine hk .normal SE (p+ops.size) d Oq dE a3 w3 G3 (Nat.le_add_right _ _) (fun i hi=> ?_) hd ⟨[],rfl⟩ hf2 aqu
      rw[ah2 i (by omega),cS _ _ (by omega),Gm i hi])
     simp only[wpOps,ho]
     rw[xY.1,if_pos rfl]
     exact .inl xY.2
    ·exact Im.elim
   ·exact Im.elim
  rw[List.range_eq_range']at h
  obtain⟨dK,r,σ',arj,Xp,akj,ahR,hf⟩:=iv (MM:=fun i=>i<p) ops.size 0 [] σ ρ h (by omega)
  have zH: ∀i,i<p→dK i=ρ i:=arj
  have yU:r.map (·.1)=List.range ops.size:=by rw[List.range_eq_range'];exact akj
  rw[List.nil_append]at hf
  split at hf
  ·rename_i hc
   ·simp only[aw]at hc
    obtain⟨x9,cp⟩:=hc
    have KG:=hf
    have Up: ∀x∈r,x.1<ops.size:=by
     intro x hx
     have:x.1∈List.range ops.size:=by rw[←yU];exact List.mem_map.2 ⟨x,hx,rfl⟩
     simpa using this
    have aU:bO ⟨ρ,p,fun i=>i<p⟩ w G ⟨dK,p+ops.size,fun i=>i<p⟩ w G:=
     ⟨fun e he=>⟨bR zH he,E.lX (Nat.le_add_right _ _) he⟩,fun _ h=>h,fun _ _ h=>h,fun _ _ _=>rfl,fun _ _=>rfl,fun _ _=>rfl⟩
    have hs1:=hs.fm aU
    have bM:nq N.P N.cs ops p N.n S0 ⟨dK,p+ops.size,fun i=>i<p⟩ Φ Pre r:=
     ⟨fb,ahR,
      fun x hx=>by have:=Up x hx;show p+x.1<p+ops.size;omega,
      fun i o d ho hod=>by
       have:=aV.1 cp o (by simpa using Array.mem_of_getElem? ho)
       simpa [hod]using this,s9⟩
    have hM: ∀x∈r,¬(fun i=>i<p) (p+x.1):=fun x _ h=>by
     have h':p+x.1<p:=h
     omega
    have qq:(r.map (·.1)).Nodup:=by rw[yU];exact List.nodup_range
    have fin: ∀a' w' G' M',(∀i,M' i→i<p∨ ∃x∈r,i=p+x.1)→er N.n w0 S0 ⟨dK,p+ops.size,M'⟩ G' σ' a' w'→Q .normal a' w':=by
     intro a' w' G' M' Zl sY
     have xP:=sY.fm (bO.K2 ⟨dK,p+ops.size,M'⟩ w' G' (M':=fun i=>i<p+ops.size) (fun i hi=>by
      rcases Zl i hi with h|⟨x,hx,rfl⟩
      ·show i<_;omega
      ·have:=Up x hx;show p+x.1<_;omega))
     exact hk .normal σ' (p+ops.size) d dK dE a' w' G' (Nat.le_add_right _ _) zH hd ⟨[],rfl⟩ KG xP
    cases draw with
    |false=>
     refine WP.region n9 ?_
     rw[←yU]
     exact Bi Xp bM hs1 qq hM fin
    |true=>
     simp only[Bool.not_true,Bool.false_or,aw]at x9
     refine WP.J3 n9 tO ?_
     have hrl:r.length=ops.size:=by have:=congrArg List.length yU;simpa using this
     refine JK ops.size Xp bM hs1.drew qq hM x9.1 (by simp) ?_ (by omega) ?_ Up ?_ ?_ fin
     ·intro j o ho hj
      have jh:j<ops.size:=(Array.getElem?_eq_some_iff.1 ho).1
      simp[jh]at hj
     ·intro i hi
      rw[yU];simp[hi]
     ·intro dH
      exact BB x9.2 (by simp) (r:=r.map (·.1)) (fun i hi=>by rw[yU];simp[hi]) (by simpa using dH) (fun x hx=>by obtain⟨y,hy,rfl⟩:=List.mem_map.1 hx;exact Up y hy)
     ·intro l r' h1 _ h3 h4 h5
      exact BB x9.2 h1 h3 (by simpa using h4) (fun x hx=>by obtain⟨y,hy,rfl⟩:=List.mem_map.1 hx;exact h5 y hy)
  ·exact hf.elim
 |seq x y ihx ihy=>
  intro ro k σ p d ρ dE Q w0 S0 hV n9 h hd lF hk a w G hs
  have Y8:dS (.seq x y)=true→dS x=true:=fun h=>by simp only[dS,aw]at h;exact h.1
  have hpy:dS (.seq x y)=true→dS y=true:=fun h=>by simp only[dS,aw]at h;exact h.2
  refine WP.seq (ihx ro _ σ p d ρ dE (Exit.then (WP ro N.P y Q) Q) w0 S0 hV (n9.sub Y8 (fun _ _ h=>h)) h hd lF ?_ a w G hs)
  intro w1 S1 hg ex σ' p' d' dK ka a' w' G' xZ hp sW hl ⟨l,tN⟩ Ij sY
  cases ex with
  |normal=>
   refine ihy ro k σ' p' d' dK ka Q w1 S1 hg.env (n9.sub hpy (fun _ _ h=>h)) Ij hl xZ ?_ a' w' G' sY
   intro w2 S2 BX ex2 SE p2 d2 Oq OR a2 w2' G2 K5 OC aam nL ⟨l2,CW⟩ B7 xP
   exact hk w2 S2 (hg.seq Y8 hpy BX) ex2 SE p2 d2 Oq OR a2 w2' G2 K5 (by omega) (fun i hi=>(aam i (by omega)).trans (sW i hi)) nL ⟨l2++l,by rw[CW,tN,List.append_assoc]⟩ B7 xP
  |exit i=>exact hk w1 S1 (hg.sub Y8) (.exit i) σ' p' d' dK ka a' w' G' xZ hp sW hl ⟨l,tN⟩ Ij sY
  |ret=>exact hk w1 S1 (hg.sub Y8) .ret σ' p' d' dK ka a' w' G' xZ hp sW hl ⟨l,tN⟩ Ij sY
 |cond c x y ihx ihy=>
  intro ro k σ p d ρ dE Q w0 S0 hV n9 h hd lF hk a w G hs
  have Y8:dS (.cond c x y)=true→dS x=true:=fun h=>by simp only[dS,aw]at h;exact h.1
  have hpy:dS (.cond c x y)=true→dS y=true:=fun h=>by simp only[dS,aw]at h;exact h.2
  have k7: ∀e,QD σ N.P c=some e→ ∃b,a.eval c= .bool b∧den ρ e= .bool b:=by
   intro e he
   unfold QD at he
   split at he
   ·rename_i e' F4
    injection he with he;subst he
    obtain⟨_,h2,h3⟩:=bT hs.t (pc:=[]) rfl F4
    obtain⟨b,hb⟩:=bA.1 h3
    exact⟨b,(hb▸h2).eH,hb⟩
   ·cases he
  have goX:=fun h=>ihx ro k σ p d ρ dE Q w0 S0 hV (n9.sub Y8 (fun _ _ h=>h)) h hd lF (fun w1 S1 hg=>hk w1 S1 (hg.sub Y8)) a w G hs
  have goY:=fun h=>ihy ro k σ p d ρ dE Q w0 S0 hV (n9.sub hpy (fun _ _ h=>h)) h hd lF (fun w1 S1 hg=>hk w1 S1 (hg.sub hpy)) a w G hs
  simp only[vc]at h
  split at h
  ·rename_i Oi
   obtain⟨b,tH,tG⟩:=k7 _ Oi
   simp only[den,D.bool.injEq]at tG;subst tG
   exact WP.cond tH (goX h)
  ·rename_i Oi
   obtain⟨b,tH,tG⟩:=k7 _ Oi
   simp only[den,D.bool.injEq]at tG;subst tG
   exact WP.cond tH (goY h)
  ·rename_i e _ _ Oi
   obtain⟨b,tH,tG⟩:=k7 _ Oi
   split at h
   ·rename_i hfo
    have:=Hm (ρ:=ρ) hfo
    rw[tG]at this
    simp only[D.eh]at this;subst this
    exact WP.cond tH (goX h)
   ·rename_i hfo
    have:=Hm (ρ:=ρ) hfo
    rw[tG]at this
    simp only[D.eh]at this;subst this
    exact WP.cond tH (goY h)
   split at h
   ·obtain⟨h1,h2⟩:=h
    cases b with
    |true=>exact WP.cond tH (goX (h1 (by rw[tG];rfl)))
    |false=>exact WP.cond tH (goY (h2 (by rw[tG];rfl)))
   ·exact h.elim
  ·exact h.elim
 |block i c ih=>
  intro ro k σ p d ρ dE Q w0 S0 hV n9 h hd lF hk a w G hs
  refine WP.block (ih ro _ σ p d ρ dE (Exit.inBlock i Q) w0 S0 hV (n9.sub (fun h=>h) (fun _ _ h=>h)) h hd lF ?_ a w G hs)
  intro w1 S1 hg ex σ' p' d' dK ka a' w' G' xZ hp sW hl tN Ij sY
  have wO:nP N Φ Pre (.block i c) w0 S0 w1 S1:=nP.sub (x:=c) (fun h=>h) hg
  cases ex with
  |normal=>exact hk w1 S1 wO .normal σ' p' d' dK ka a' w' G' xZ hp sW hl tN Ij sY
  |ret=>exact hk w1 S1 wO .ret σ' p' d' dK ka a' w' G' xZ hp sW hl tN Ij sY
  |exit j=>
   simp only at Ij
   show(if j=i then Q .normal a' w' else Q (.exit j) a' w')
   by_cases hj:j=i
   ·rw[if_pos hj]at Ij⊢
    exact hk w1 S1 wO .normal σ' p' d' dK ka a' w' G' xZ hp sW hl tN Ij sY
   ·rw[if_neg hj]at Ij⊢
    exact hk w1 S1 wO (.exit j) σ' p' d' dK ka a' w' G' xZ hp sW hl tN Ij sY
 |loop c ih=>
  intro ro k σ p d ρ dE Q w0 S0 hV n9 h hd lF hk a w G hs
  simp only[vc]at h
  split at h
  ·exact h.elim
  rename_i tF
  have aqA:N.YV=[] ∨dS c=true:=by
   simp only[aw,Bool.not_eq_true',not_and,Bool.not_eq_false]at tF
   cases hq:N.YV with
   |nil=>exact .inl rfl
   |cons x r=>exact .inr (tF (by rw[hq];rfl))
  split at h
  ·rename_i es iC
   obtain⟨I,m,hI0,xf⟩:=h
   have bM:=Nx N.n (((fQ c).bind (lk N.nO)).getD {}) ((((fQ c).bind (lk N.nO)).getD {}).own.map (·.1)++assigned c) σ p
   generalize hh:tV N.n (((fQ c).bind (lk N.nO)).getD {}) ((((fQ c).bind (lk N.nO)).getD {}).own.map (·.1)++assigned c) σ p=gZ at*
   have CO:gZ.v0=p:=by rw[←hh];rfl
   have aft: ∀{tg:List E} {dK:Nat→D},tg.length=gZ.size→(∀(j:Nat) x e,gZ.fg[j]? =some x→tg[j]? =some e→Has (kv x.2.1 x.2.2) (den dK e))→bV (.bQ (gZ.fg.map fun x=>kv x.2.1 x.2.2)) (tg.map (den dK)):=by
    intro tg dK h1 h2
    refine fK (by simp[h1,Head.size]) fun j u x hj hx=> ?_
    simp only[List.getElem?_map,br]at hj hx
    obtain⟨y,hy,rfl⟩:=hj
    obtain⟨e,he,rfl⟩:=hx
    exact h2 j y e hy he
   obtain⟨q1,q2,G1,q3⟩:=Hn hs bM iC (ρ0:=ρ) (fun _ _=>rfl) (fun i b hi=>by rw[CO];exact lF i b hi)
   rw[CO]at q3
   refine WP.loop (fun kk a' w'=> ∃w1 S1 xs G',nP N Φ Pre (.loop c) w0 S0 w1 S1∧(∀i b,S1.pd i=some b→i<p)∧bV (.bQ (gZ.fg.map fun x=>kv x.2.1 x.2.2)) xs∧I xs∧m xs=kk∧er N.n w1 S1 ⟨dI ρ p xs,p+gZ.size,fun i=>i<p+gZ.size⟩ G' gZ.st a' w') _
    ⟨w0,S0,es.map (den ρ),G1,nP.refl hV,lF,aft q1 q2,hI0,rfl,q3⟩ ?_
   rintro kk a' w' ⟨w1,S1,xs,G',hg1,Xr,fV,hI,rfl,sY⟩
   refine ih ro _ gZ.st (p+gZ.size) (d+1) (dI ρ p xs) _ (Exit.then (fun a' w'=> ∃n',n'<m xs∧ ∃w1 S1 xs G',nP N Φ Pre (.loop c) w0 S0 w1 S1∧(∀i b,S1.pd i=some b→i<p)∧bV (.bQ (gZ.fg.map fun x=>kv x.2.1 x.2.2)) xs∧I xs∧m xs=n'∧er N.n w1 S1 ⟨dI ρ p xs,p+gZ.size,fun i=>i<p+gZ.size⟩ G' gZ.st a' w') Q) w1 S1 hg1.env (n9.sub (fun h=>h) (fun _ _ h=>h)) (xf xs fV hI) (by simp[hd]) (fun i b hi=>Nat.lt_of_lt_of_le (Xr i b hi) (Nat.le_add_right _ _)) ?_ a' w' G' sY
   intro w2 S2 BX ex SE p2 d2 Oq OR a2 w2' G2 K5 OC aam nL ⟨l2,CW⟩ B7 xP
   have JC: ∀i,i<p→Oq i=ρ i:=fun i hi=>(aam i (by omega)).trans (Ll hi)
   have aaU:nP N Φ Pre (.loop c) w0 S0 w2 S2:=hg1.seq (x:= .loop c) (y:=c) (fun h=>h) (fun h=>h) BX
   cases ex with
   |normal=>
    simp only at B7
    split at B7
    ·rename_i tg aku
     have hlen:l2.length=d2-1-d:=by
      have:=congrArg List.length CW
      simp only[List.length_append,List.length_cons]at this
      omega
     have zY:OR[d2-1-d]? =some (fun ys=>I ys∧m ys<m xs):=by
      rw[CW,←hlen,List.getElem?_append_right (Nat.le_refl _),Nat.sub_self];rfl
     simp only[VC.holds,zY]at B7
     obtain⟨G2',aqv⟩:=xP.GH gZ.fg
     have CX: ∀i b,S2.pd i=some b→i<p:=by rw[(BX.same aqA).2];exact Xr
     obtain⟨r1,r2,G3,r3⟩:=Hn aqv bM aku (ρ0:=ρ) (fun i hi=>by rw[CO]at hi;exact(JC i hi).symm) (fun i b hi=>by rw[CO];exact CX i b hi)
     rw[CO]at r3
     exact⟨_,B7.2,w2,S2,tg.map (den Oq),G3,aaU,CX,aft r1 r2,B7.1,rfl,r3⟩
    ·exact B7.elim
   |exit i=>exact hk w2 S2 aaU (.exit i) SE p2 d2 Oq OR a2 w2' G2 K5 (by omega) JC nL ⟨l2++[fun ys=>I ys∧m ys<m xs],by rw[CW];simp⟩ B7 xP
   |ret=>exact hk w2 S2 aaU .ret SE p2 d2 Oq OR a2 w2' G2 K5 (by omega) JC nL ⟨l2++[fun ys=>I ys∧m ys<m xs],by rw[CW];simp⟩ B7 xP
  ·exact h.elim
 |_=>intro ro k σ p d ρ dE Q w0 S0 hV n9 h;exact h.elim
theorem GO{N:En}{Φ:Nat→List D→D}{Pre:Nat→List D→Prop}{R:D→Prop}(tO:N.P.follows .mixedOrders=true)(fb: ∀k sig,lk N.cs.l k=some sig→ax N.P k sig (Pre k) (Φ k))
  (sZ: ∀k sig ob,lk N.cs.l k=some sig→sig.ob=some ob→ob.wV=true→ ∀b o,S0.gV b o→ ¬gH w0 S0 b) (s9:IZ N.P N.cs S0 Φ Pre) (hfw: ∀k y,lk N.fw k=some y→E3 N.P k y.1 y.2 (fun _=>True) (Φ k)) (SP: ∀k y,lk N.wl k=some y→JG N.P k y.1 y.2)
  (hwz:N.cs.fr=2→(∀b o,¬S0.gV b o)∧S0.wz) (hn:N.YV=[]):
  ∀(c:Code) (k:Ex→St→Nat→Nat→VC) (σ:St) (p d:Nat) (ρ:Nat→D) (dE:List (List D→Prop)) (Q:Exit→Act→World→Prop),(vc N c k σ p d).holds Φ Pre R ρ dE→dE.length=d→(∀i b,S0.pd i=some b→i<p)→
  (∀ex σ' p' d' dK ka a w G,p≤p'→(∀i,i<p→dK i=ρ i)→ka.length=d'→(∃l,ka=l++dE)→(k ex σ' p' d').holds Φ Pre R dK ka→er N.n w0 S0 ⟨dK,p',fun i=>i<p'⟩ G σ' a w→Q ex.to a w)→
  ∀a w G,er N.n w0 S0 ⟨ρ,p,fun i=>i<p⟩ G σ a w→c.wp N.P Q a w:=by
 intro c k σ p d ρ dE Q h hd lF hk a w G hs
 refine MT tO fb hfw SP (fun k y h=>by rw[hn]at h;cases h) c none k σ p d ρ dE Q w0 S0 ⟨sZ,s9,hwz,fun h=>absurd hn h⟩ (fun h=>by cases h) h hd lF ?_ a w G hs
 intro w1 S1 hg ex σ' p' d' dK ka a' w' G' _ hp sW hl mj KG sY
 obtain⟨fC,hS1⟩:=hg.same (.inl hn)
 rw[fC,hS1]at sY
 exact hk ex σ' p' d' dK ka a' w' G' hp sW hl mj KG sY
end
end Go.bZ
