/- Part 4 of the proof of RaftStale; no condition. -/
import Derived.Test.YtjhmkaninmgilaaS03
import Derived.OrdersHeld
import Derived.Deep.LoopGhost
import Derived.Shelf.Sort.Plain
import Derived.Shelf.Slices.In.SortNone
import Derived.Shelf.Slices.CompactI
import Derived.Shelf.Slices.Clone
import Derived.Sort.OwnSortedInts
import Derived.Lib.OwnBridge
set_option linter.unusedVariables false
set_option linter.unusedSimpArgs false
set_option maxHeartbeats 4000000
namespace Go.bZ
open Go Go.RowKit
def rK(P:Program)(σ:St):ResultVar→Option (Bool×List SC)
 | .tmp t=>match σ.tm t with
  |some ([], .one c)=>if c.scalar then some (false,[c]) else none
  |some ([], .agg l)=>some (true,l)
  |_=>none
 | .cell t T=>match σ.tm t with
  |some ([], .one (.pa id 0))=>match σ.hp id with
   |some (_,cs)=>if(mapOf cs).isSome then none else if fY P T then(if fG P T=some cs.length then some (true,cs) else none)
     else(match cs with| [c] =>if(P.underlying T).isSome then some (false,[c]) else none|_=>none)
   |none=>none
  |_=>none
def vi(σ:St)(r:Bool×List aA)(c:Bool×List SC):Option (E×jI):=
 if r.1=c.1 then match dY σ r.2 c.2 with
  |some (es,l)=>if r.1 then some (.un .agg (.bQ es),l) else match es with| [e] =>some (e,l)|_=>none
  |none=>none
 else none
def gJ(P:Program)(σ:St):List (Bool×List aA)→List ResultVar→Option (List E×jI)
 | [],[] =>some ([],[])
 |r::rs,x::xs=>match (rK P σ x).bind (vi σ r),gJ P σ rs xs with
  |some (e,l),some (es,ls)=>some (e::es,l++ls)
  |_,_=>none
 |_,_=>none
def KU(P:Program)(sig:bS)(fn:Func)(σ:St):VC:=
 match gJ P σ sig.res fn.results.toList with
 |some (es,l)=>if nR l then(match sig.res,es with| [_],[e] => .ret e|_,es=> .ret (.un .cW (.bQ es))) else .stuck 10
 |none=> .stuck 11
def kN(a:Act):ResultVar→Sem Value
 | .tmp t=>pure (a.tmps.getD t undef)
 | .cell p t=>do loadVar t (←asAddr (a.tmps.getD p undef))
def I7:List Value→Value
 | [v] =>v
 |vs=> .tuple vs.toArray
def St.start(ps:List Ty):St:=⟨fun t=>match ps[t]? with|some ty=>some ([], .one (.eV (.var t) ty))|none=>none,fun _=>none,fun _=>none⟩
section
variable{P:Program}{C:Cx}{w w0:World}{S0:ew}{G:Gh}{σ:St}{a:Act}{n:Nat}
theorem J1{L:jI}(hm:cJ w0 S0 C G σ w)(hn:(L.map (·.1)).Nodup){r:Bool×List aA}{c:Bool×List SC}{e:E}{l:jI}{v:Value}(h:vi σ r c=some (e,l))(hr:ko C w G c v)(hL: ∀x∈l,x∈L):
  ep w 0 G.S (oq G L) r v (den C.ρ e):=by
 unfold vi at h
 split at h
 ·rename_i mB
  split at h
  ·rename_i es l' gS
   unfold ko at hr
   unfold ep
   cases yJ:r.1 with
   |true=>
    rw[←mB,yJ]at hr
    simp only[yJ,if_true]at hr h⊢
    injection h with h;simp only[Prod.mk.injEq]at h;obtain⟨rfl,rfl⟩:=h
    obtain⟨vs,rfl,Ox⟩:=hr
    obtain⟨k1,k2,k3⟩:=iw hm hn gS Ox hL
    refine⟨vs,es.map (den C.ρ),rfl,by simp only[den,dG,U.den,D.ak],k2,by simp[k1],fun i x u y hx hu hy=> ?_⟩
    simp only[List.getElem?_map,br]at hy
    obtain⟨e,he,rfl⟩:=hy
    exact k3 i x u e hx hu he
   |false=>
    rw[←mB,yJ]at hr
    simp only[yJ,Bool.false_eq_true,if_false]at hr h⊢
    split at h
    ·rename_i e0
     injection h with h;simp only[Prod.mk.injEq]at h;obtain⟨rfl,rfl⟩:=h
     obtain⟨c0,Oj,qf⟩:=hr
     rw[Oj]at gS
     obtain⟨k1,k2,k3⟩:=iw hm hn gS (vs:=[v]) ⟨rfl,fun i c u hi hu=>by
      cases i with
      |zero=>simp at hi hu;subst hi;subst hu;exact qf
      |succ i=>simp at hi⟩ hL
     obtain⟨x,hx⟩:=List.length_eq_one_iff.1 k1.symm
     exact⟨x,hx,k3 0 x v e0 (by rw[hx];rfl) rfl rfl⟩
    ·cases h
  ·cases h
 ·cases h
theorem Hz{x:ResultVar}{c:Bool×List SC}(hs:er n w0 S0 C G σ a w)(h:rK P σ x=some c):
  ∃v,(kN a x).run P w= .ok v w∧ko C w G c v:=by
 unfold rK at h
 split at h
 ·rename_i t
  split at h
  ·rename_i c' ht
   split at h
   ·injection h with h;subst h
    obtain⟨v,h1,_,_,h2⟩:=hs.t t _ _ ht
    simp only[aq,List.all_nil,if_true]at h2
    refine⟨v,by simp[kN,h1],?_⟩
    unfold ko
    simp only[Bool.false_eq_true,if_false]
    exact⟨_,rfl,h2⟩
   ·cases h
  ·rename_i l ht
   injection h with h;subst h
   obtain⟨v,h1,_,_,h2⟩:=hs.t t _ _ ht
   simp only[aq,List.all_nil,if_true]at h2
   refine⟨v,by simp[kN,h1],?_⟩
   unfold ko
   simp only[if_true]
   exact h2
  ·cases h
 ·rename_i t T
  split at h
  ·rename_i id ht
   obtain⟨v,h1,_,_,h2⟩:=hs.t t _ _ ht
   simp only[aq,List.all_nil,if_true]at h2
   obtain⟨_,rfl⟩:=h2
   split at h
   ·rename_i ro cs cU
    obtain⟨_,_,dq,_⟩:=hs.m.box _ _ _ cU
    split at h
    ·cases h
    rename_i BW
    obtain⟨vs,T0,hg,hr⟩:=dq.cells (by simpa using BW)
    have cB: ∀j,w.cell? ⟨G.β id,j,none⟩=vs[j]? :=by intro j;rw[cell_of_row w _ j _ T0 _ hg];simp
    have Xy: ∀{u:Value},(Instr.loadAt T (.pointer (some ⟨G.β id,0,none⟩))).run P w= .ok u w→(do loadVar T (←asAddr (a.tmps.getD t undef)):Sem Value).run P w= .ok u w:=by
     intro u hu
     have e1:a.tmps.getD t undef= .pointer (some ⟨G.β id,0,none⟩):=by simp[h1]
     rw[e1]
     simpa [Instr.loadAt,Instr.sureAddr,asAddr]using hu
    split at h
    ·rename_i ha
     split at h
     ·rename_i fo
      injection h with h;subst h
      refine⟨.agg vs.toArray,Xy (iz fo ha hr.1 (fun j v hv=>by rw[Nat.zero_add,cB];exact hv)),?_⟩
      unfold ko
      simp only[if_true]
      exact⟨vs,rfl,hr⟩
     ·cases h
    ·rename_i ha
     split at h
     ·rename_i c'
      split at h
      ·rename_i ib
       injection h with h;subst h
       obtain⟨u,rfl⟩: ∃u,vs=[u] :=List.length_eq_one_iff.1 hr.1
       refine⟨u,Xy (l5 (by simpa using ha) ib (by rw[cB];rfl)),?_⟩
       unfold ko
       simp only[Bool.false_eq_true,if_false]
       exact⟨_,rfl,hr.2 0 _ u rfl rfl⟩
      ·cases h
     ·cases h
   ·cases h
  ·cases h
theorem pM{L:jI}(hs:er n w0 S0 C G σ a w)(hn:(L.map (·.1)).Nodup): ∀{rs:List (Bool×List aA)} {xs:List ResultVar} {es:List E} {l:jI},gJ P σ rs xs=some (es,l)→(∀x∈l,x∈L)→
  ∃vs:List Value,(xs.mapM (m:=Sem) (kN a)).run P w= .ok vs w∧vs.length=rs.length∧es.length=rs.length∧xs.length=rs.length∧
   ∀(i:Nat) r v e,rs[i]? =some r→vs[i]? =some v→es[i]? =some e→ep w 0 G.S (oq G L) r v (den C.ρ e)
 | [],[],es,l,h,_=>by
  simp only[gJ,Option.some.injEq,Prod.mk.injEq]at h
  obtain⟨rfl,rfl⟩:=h
  exact⟨[],by simp,rfl,rfl,rfl,by intro i r v e hi;simp at hi⟩
 | [],_::_,_,_,h,_=>by cases h
 |_::_,[],_,_,h,_=>by cases h
 |r::rs,x::xs,es,l,h,hL=>by
  simp only[gJ]at h
  split at h
  ·rename_i e l1 tg l2 h1 h2
   injection h with h;simp only[Prod.mk.injEq]at h;obtain⟨rfl,rfl⟩:=h
   cases hc:rK P σ x with
   |none=>simp[hc]at h1
   |some c=>
    simp only[hc,Option.bind_some]at h1
    obtain⟨v,k1,k2⟩:=Hz hs hc
    obtain⟨vs,m1,m2,m3,m4,m5⟩:=pM hs hn h2 (fun x hx=>hL x (by simp[hx]))
    refine⟨v::vs,?_,by simp[m2],by simp[m3],by simp[m4],fun i r' v' e' hi hv he=> ?_⟩
    ·rw[List.mapM_cons,Sem.run_bind,k1,Result.andThen_ok,Sem.run_bind,m1];rfl
    ·cases i with
     |zero=>simp at hi hv he;subst hi;subst hv;subst he;exact J1 hs.m hn h1 k2 (fun x hx=>hL x (by simp[hx]))
     |succ i=>exact m5 i r' v' e' (by simpa using hi) (by simpa using hv) (by simpa using he)
  ·cases h
theorem rl{fn:Func}{vs:List Value}(h:(fn.results.toList.mapM (m:=Sem) (kN a)).run P w= .ok vs w):
  (results fn a.tmps).run P w= .ok (I7 vs) w:=by
 have h0:results fn a.tmps=(do
   let vs←fn.results.mapM (kN a)
   pure (if h:vs.size=1 then vs[0] else .tuple vs)):=by
  unfold results
  rfl
 rw[h0]
 have h1:(fn.results.mapM (m:=Sem) (kN a)).run P w= .ok vs.toArray w:=by
  have e1:=Array.mapM_eq_mapM_toList (m:=Sem) (f:=kN a) (xs:=fn.results)
  rw[e1,Sem.run_map,h];rfl
 rw[Sem.run_bind,h1,Result.andThen_ok]
 match vs with
 | [] =>rfl
 | [v] =>rfl
 |_::_::_=>rfl
theorem mb: ∀{rs:List (Bool×List aA)} {xs:List ResultVar} {es:List E} {l:jI},gJ P σ rs xs=some (es,l)→bk rs=l.map (·.1)
 | [],xs,es,l,h=>by
  cases xs<;>simp[gJ]at h
  obtain⟨rfl,rfl⟩:=h;rfl
 |_::_,[],_,_,h=>by cases h
 |r::rs,x::xs,es,l,h=>by
  simp only[gJ]at h
  split at h
  ·rename_i q1 q2
   injection h with h;simp only[Prod.mk.injEq]at h;rw[←h.2,List.map_append,←mb q2]
   have:bk (r::rs)=(r.2.filterMap fun x=>x.2.map (·.1))++bk rs:=by simp[bk]
   rw[this]
   congr 1
   cases mB:rK P σ x with
   |none=>simp[mB]at q1
   |some c=>
    simp only[mB,Option.bind_some]at q1
    unfold vi at q1
    split at q1
    ·split at q1
     ·rename_i gS
      split at q1
      ·injection q1 with q1;simp only[Prod.mk.injEq]at q1;rw[←q1.2];exact mc gS
      ·split at q1
       ·injection q1 with q1;simp only[Prod.mk.injEq]at q1;rw[←q1.2];exact mc gS
       ·cases q1
     ·cases q1
    ·cases q1
  ·cases h
theorem nW: ∀{rs:List (Bool×List aA)} {xs:List ResultVar} {es:List E} {l:jI},gJ P σ rs xs=some (es,l)→ ∀j g,(j,some g)∈l→ ∃z,σ.live g=some z
 | [],xs,es,l,h,j,g,hm=>by cases xs<;>simp[gJ]at h;obtain⟨rfl,rfl⟩:=h;simp at hm
 |r::rs,[],es,l,h,j,g,hm=>by cases h
 |r::rs,x::xs,es,l,h,j,g,hm=>by
  simp only[gJ]at h
  split at h
  ·rename_i q1 q2
   injection h with h;simp only[Prod.mk.injEq]at h;rw[←h.2]at hm
   rcases List.mem_append.1 hm with hm|hm
   ·cases mB:rK P σ x with
    |none=>simp[mB]at q1
    |some c=>
     simp only[mB,Option.bind_some]at q1
     unfold vi at q1
     split at q1
     ·split at q1
      ·rename_i gS
       split at q1
       ·injection q1 with q1;simp only[Prod.mk.injEq]at q1;rw[←q1.2]at hm;exact kS gS hm
       ·split at q1
        ·injection q1 with q1;simp only[Prod.mk.injEq]at q1;rw[←q1.2]at hm;exact kS gS hm
        ·cases q1
      ·cases q1
     ·cases q1
   ·exact nW q2 j g hm
  ·cases h
theorem Fi{f:Nat}{fn:Func}{c:Code}{sig:bS}{qH:List D→Prop}{yF:List D→D}(cs:lD)(fw wl:UH)(Φ:Nat→List D→D)(Pre:Nat→List D→Prop)(nO:List (Nat×FQ))(v:VC)
  (hf:P.funcs[f]? =some fn) (hb:fn.body=some c) (Qm:(fn.name== "runtime.NumGoroutine")=false) (tO:P.follows .mixedOrders=true)
  (hps:sig.params.length≤fn.ntmps) (dw:sig.ob=none) (Ze:cs.mp=[] ∧cs.et=[])
  (fb: ∀k sig,lk cs.l k=some sig→ax P k sig (Pre k) (Φ k)) (s9:cs.fr=0∧Uf sig.res=true∨cs.fr=1) (hfw: ∀k y,lk fw k=some y→E3 P k y.1 y.2 (fun _=>True) (Φ k)) (SP: ∀k y,lk wl k=some y→JG P k y.1 y.2)
  (hv:vc ⟨P,cs,fn.ntmps,nO,fw,wl,[]⟩ c (fun ex σ _ _=>match ex with| .exit _=> .stuck 20|_=>KU P sig fn σ) (St.start sig.params) sig.params.length 0=v)
  (hc: ∀ds,bV (.bQ sig.params) ds→qH ds→v.holds Φ Pre (fun d=>d=yF ds) (fun i=>ds.getD i .top) []):ax P f sig qH yF where
 enter args w:=by
  unfold callFunc
  have Ip:fn.body.isNone=false:=by rw[hb];rfl
  have Az:fn.name≠ "runtime.NumGoroutine" :=by simpa using Qm
  simp[hf,hb,Az]
 Ao ob ov:=by rw[dw]at ov;cases ov
 I9 ob ov:=by rw[dw]at ov;cases ov
 calls _ w S vs ds yW hlen fa fV gE:=by
  have qo:ds.length=sig.params.length:=by rw[dZ fV,Ty.cC]
  refine calls_of_wp hf hb ?_
  have k7:=hc ds fV gE
  rw[←hv]at k7
  refine GO (w0:=w) (S0:=⟨S,fun _=>False,fun _=>none,cs.fr=1,False,P,[]⟩) (N:=⟨P,cs,fn.ntmps,nO,fw,wl,[]⟩) tO fb (fun _ _ _ _ _ _ b o hb=>by
   rintro(h|h)
   ·exact absurd (yW b o hb) (by show¬b<w.heap.size;have:w.heap.size≤b:=h;omega)
   ·exact h) ⟨fun h=>h,fun h=>h.elim,rfl,fun T kt h=>(by rw[show cs.mp=[] from Ze.1]at h;cases h),fun k sg h=>(by rw[show cs.et=[] from Ze.2]at h;cases h),fun k sg _ _ h=>(by rw[show cs.et=[] from Ze.2]at h;cases h)⟩ hfw SP (fun h=>by have:cs.fr=2:=h;omega) rfl c _ _ _ 0 _ [] _ k7 rfl (fun i b h=>(by cases h)) ?_ _ w ⟨S,fun _=>0,fun _=> .nilIface⟩ ?_
  ·intro ex σ' p' d' dK ka a' w' G' _ _ _ _ hk hs
   have fin:(KU P sig fn σ').holds Φ Pre (fun d=>d=yF ds) dK ka→a'.defers=[] ∧ ∃v,(results fn a'.tmps).run P w'= .ok v w'∧ ∃v0 S' τ,Ending.returned v= .returned v0∧Below w.heap.size w w'∧(∀b o,S b o→S' b o)∧(∀b o,S' b o→b<w'.heap.size)∧(∀b o,S' b o→S b o∨w.heap.size≤b)∧
     eN w' 0 S' τ sig.res v0 (yF ds)∧(∀j b,j∈bk sig.res→(τ j).ownBlock=some b→w.heap.size≤b)∧(∀j k b,j∈bk sig.res→k∈bk sig.res→(τ j).ownBlock=some b→(τ k).ownBlock=some b→j=k)∧ ∀j,j∈bk sig.res→Wp j=true→zm (fun b=>w.heap.size≤b) w' S' (τ j):=by
    intro hk
    refine⟨hs.defers,?_⟩
    unfold KU at hk
    split at hk
    ·rename_i es l nM
     split at hk
     ·rename_i bM
      have qD:=bM
      unfold nR at bM
      simp only[aw,aN]at bM
      obtain⟨hnt,OE⟩:=bM
      have bf:=nW nM
      obtain⟨us,h1,h2,h3,h4,h5⟩:=pM (L:=l) hs OE nM (fun x hx=>hx)
      refine⟨_,rl h1,_,G'.S,oq G' l,rfl,hs.m.below.to (fun _ h=>h),hs.m.ic,hs.m.bL,fun b o hb=>(hs.m.eP b o hb).imp (fun h=>h) (fun h=>h.elim (fun h=>h) (fun h=>h.elim)),?_,?_,?_,?_⟩
      ·split at hk
       ·rename_i r e cw
        have hd:den dK e=yF ds:=hk
        rw[cw]at h2 h5⊢
        obtain⟨u,rfl⟩: ∃u,us=[u] :=List.length_eq_one_iff.1 h2
        exact .inl ⟨r,rfl,by rw[←hd];exact h5 0 r u e rfl rfl rfl⟩
       ·rename_i es1 _ es2 dH
        have hd:den dK (.un .cW (.bQ _))=yF ds:=hk
        have wN:sig.res.length≠1:=by
         intro h
         obtain⟨r,hr⟩:=List.length_eq_one_iff.1 h
         obtain⟨e,he⟩:=List.length_eq_one_iff.1 (h3.trans h)
         exact dH r e hr he
        have Ih:I7 us= .tuple us.toArray:=by
         match us,h2 with
         | [],_=>rfl
         | [u],h2=>exact absurd h2.symm wN
         |_::_::_,_=>rfl
        rw[Ih]
        refine .inr ⟨wN,us,es1.map (den dK),rfl,by rw[←hd];simp only[den,dG,U.den,D.ak],h2,by simp[h3],fun i r u y hr hu hy=> ?_⟩
        simp only[List.getElem?_map,br]at hy
        obtain⟨e,he,rfl⟩:=hy
        exact h5 i r u e hr hu he
      ·intro j b hj hb
       rw[mb nM]at hj
       obtain⟨g,OJ,fq⟩:=vj qD hj hb
       obtain⟨z,hz⟩:=bf _ _ OJ
       exact(hs.m.dM g z b hz fq).elim (fun h=>h) (fun h=>h.elim)
      ·intro j k b hj KG ON F6
       rw[mb nM]at hj KG
       exact xu hs.m qD bf hj KG ON F6
      ·intro j hj Wk
       rcases s9 with s9|s9
       ·have:=aV.1 s9.2 j hj
        rw[Wk]at this;cases this
       ·unfold oq
        split
        ·exact(hs.m.fresh s9 _).aeM fun b hb=>hb.elim (fun h=>h) (fun h=>h.elim)
        ·intro a n cap hv
         exact .inl (by cases hv;rfl)
     ·exact hk.elim
    ·exact hk.elim
   cases ex with
   |normal=>exact fin hk
   |ret=>exact fin hk
   |exit i=>exact hk.elim
  ·refine⟨⟨dU.refl _ _,fun _ _ h=>h,fun _ _ _=>rfl,fun i b h=>(by cases h),fun i b h=>(by cases h),yW,fun _ _ h=> .inl h,?_,?_,?_,?_,fun g x b hx=>(by cases hx),?_,?_,fun _ _=>zm.nilIface,fun h=>h.elim⟩,?_,?_,rfl⟩
   ·intro id x hx;cases hx
   ·intro id ro cs hx;cases hx
   ·intro i j x y hx;cases hx
   ·intro g e T t hx;cases hx
   ·intro g g' x y b hx;cases hx
   ·intro g id x y b hx;cases hx
   ·intro t c s nh
    simp only[St.start]at nh
    split at nh
    ·rename_i ty O8
     injection nh with nh;simp only[Prod.mk.injEq]at nh;obtain⟨rfl,rfl⟩:=nh
     have xO:t<sig.params.length:=(ai.1 O8).1
     have hdt:ds[t]? =some (ds[t]'(by omega)):=av _
     have hvt:vs[t]? =some (vs[t]'(by omega)):=av _
     obtain⟨x,hx,hxh⟩:=bX fV t ty (by rw[Ty.cC];exact O8)
     rw[hdt]at hx;injection hx with hx
     have dC:den (fun i=>ds.getD i .top) (.var t)=ds[t]'(by omega):=by show ds.getD t .top=_;exact dX hdt
     refine⟨vs[t]'(by omega),?_,by simp,by simpa [SV.lt,SC.lt,E.lt]using xO,?_⟩
     ·rw[Array.getElem?_append_left (by simp;omega)];simp[hvt]
     ·simp only[aq,List.all_nil,if_true]
      refine⟨by simpa [E.lt]using xO,?_,?_⟩
      ·show bj w S _ (den (fun i=>ds.getD i .top) (.var t))
       rw[dC];exact fa t _ _ hvt hdt
      ·show Has ty (den (fun i=>ds.getD i .top) (.var t))
       rw[dC,hx];exact hxh
    ·cases nh
   ·simp;omega
end
def lf:Nat→List aA→List SC
 |_,[] => []
 |k,c::r=>mO true 0 (.var k) c::lf (k+1) r
def rH:Nat→List aA→List (Tag×Option (E×TypeId×Ty))
 |_,[] => []
 |k,c::r=>iY 0 (.var k) c++rH (k+1) r
def fj(l:List Bool):Nat:=(l.filter fun b=> !b).length
def nS(nd:Nat)(ba:List (List aA))(o:Nat):Nat:=nd+(ba.take o).flatten.length
def Aw(ob:Ob):Option Nat:=if eZ ob.shape<ob.ba.length then some (ob.ba.length-1) else none
def St.mL(sig:bS)(ob:Ob):St:=
 ⟨fun i=>match ob.shape[i]? with
   |some false=>(sig.params[fj (ob.shape.take i)]?).map fun ty=>([], .one (.eV (.var (fj (ob.shape.take i))) ty))
   |some true=>some ([], .one (.pa (eZ (ob.shape.take i)) 0))
   |none=>none,
  fun o=>(ob.ba[o]?).map fun rc=>(false,tQ (Aw ob) rc (lf (nS (fj ob.shape) ob.ba o) rc)),
  cG (fun _=>none) (rH (fj ob.shape) ob.ba.flatten)⟩
def agy(P:Program)(σ:St)(sig:bS)(ob:Ob)(fn:Func):Option (E×jI×List Nat):=
 match ob.new with
 |true=>match fn.results.toList with
  | [.tmp t] =>match σ.tm t with
   |some ([], .one (.pa id 0))=>if ob.ba.length≤id then some (.un .cW .nil,[],[id]) else none
   |_=>none
  |_=>none
 |false=>match gJ P σ sig.res fn.results.toList with
  |some (es,l)=>some ((match sig.res,es with| [_],[e] =>e|_,es=> .un .cW (.bQ es)),l,[])
  |none=>none
def uT(σ:St)(ob:Ob)(fr:List Nat):List Nat:=if ob.mv then List.range (ob.ba.length-1)++(match σ.hp 0,ob.outs with
  |some (_,cs),rc::_=>(Jw rc cs).toList
  |_,_=> []) else List.range ob.ba.length++fr
def Z4(ob:Ob)(ids:List Nat):Option Nat:=if ob.mv then ids[ob.ba.length-1]? else Aw ob
def Ai(P:Program)(sig:bS)(ob:Ob)(fn:Func)(σ:St):VC:=
 match agy P σ sig ob fn with
 |some (e,l,fr)=>match tk σ ob.outs (uT σ ob fr) with
  |some (wK,ls)=>if nR (l++ls)&&yR σ ob.outs (uT σ ob fr) (Z4 ob (uT σ ob fr))&&(!ob.mv||decide ((uT σ ob fr).Nodup)) then .ret (.un .cW (.cons e (.bQ (wK.map fun es=> .un .agg (.bQ es))))) else .stuck 10
  |none=> .stuck 12
 |none=> .stuck 11
def obB(fn:Func)(sig:bS)(ob:Ob):Bool:=
 fn.body.isSome&& !(fn.name== "runtime.NumGoroutine")&&decide (ob.shape.length≤fn.ntmps)&&decide (0<sig.params.length)&&decide (ob.ba.length≤sig.params.length)&&(ob.ba.all fun rc=>rc.all agA)&&
 decide (sig.params.length=fj ob.shape+ob.ba.flatten.length)&&decide (eZ ob.shape≤ob.ba.length)&&decide (ob.ia.Nodup)&&decide (ob.outs.length=ob.ba.length+ob.new.toNat)&&(!ob.new||sig.res.isEmpty)&&(!ob.mv||decide (eZ ob.shape<ob.ba.length))
theorem pL: ∀(l:List aA) (k i:Nat),(lf k l)[i]? =(l[i]?).map fun c=>mO true 0 (.var (k+i)) c
 | [],k,i=>by simp[lf]
 |c::l,k,0=>by simp[lf]
 |c::l,k,i+1=>by simp only[lf,List.getElem?_cons_succ,pL l (k+1) i];congr 2;funext c;congr 2;omega
theorem vT: ∀(l:List aA) (k:Nat),(lf k l).length=l.length
 | [],_=>rfl
 |_::l,k=>by simp[lf,vT l]
theorem yf: ∀{l:List aA} {k:Nat} {x},x∈rH k l→ ∃(i:Nat) (c:aA),l[i]? =some c∧x∈iY 0 (.var (k+i)) c
 | [],k,x,h=>by simp[rH]at h
 |c::l,k,x,h=>by
  simp only[rH,List.mem_append]at h
  rcases h with h|h
  ·exact⟨0,c,rfl,h⟩
  ·obtain⟨i,c',h1,h2⟩:=yf h
   exact⟨i+1,c',by simpa using h1,by rw[show k+(i+1)=k+1+i by omega];exact h2⟩
theorem yp{α:Type}: ∀{ls:List (List α)} {i:Nat} {x:α},ls.flatten[i]? =some x→ ∃(o c:Nat) (l:List α),ls[o]? =some l∧l[c]? =some x∧i=(ls.take o).flatten.length+c
 | [],i,x,h=>by simp at h
 |l::ls,i,x,h=>by
  rw[List.flatten_cons]at h
  by_cases hi:i<l.length
  ·rw[List.getElem?_append_left hi]at h
   exact⟨0,i,l,rfl,h,by simp⟩
  ·rw[List.getElem?_append_right (by omega)]at h
   obtain⟨o,c,l',h1,h2,h3⟩:=yp h
   exact⟨o+1,c,l',by simpa using h1,h2,by simp only[List.take_succ_cons,List.flatten_cons,List.length_append];omega⟩
theorem uh{α:Type}: ∀{ls:List (List α)} {o c:Nat} {l:List α} {x:α},ls[o]? =some l→l[c]? =some x→ls.flatten[(ls.take o).flatten.length+c]? =some x
 | [],o,c,l,x,h,_=>by simp at h
 |l'::ls,0,c,l,x,h,h'=>by
  simp at h;subst h
  have hc:c<l'.length:=(ai.1 h').1
  simp only[List.take_zero,List.flatten_nil,List.length_nil,Nat.zero_add,List.flatten_cons]
  rw[List.getElem?_append_left hc];exact h'
 |l'::ls,o+1,c,l,x,h,h'=>by
  have:=uh (ls:=ls) (o:=o) (c:=c) (by simpa using h) h'
  simp only[List.take_succ_cons,List.flatten_cons,List.length_append]
  rw[List.getElem?_append_right (by omega),show l'.length+(ls.take o).flatten.length+c-l'.length=(ls.take o).flatten.length+c by omega]
  exact this
theorem wo{α β:Type}: ∀{xs:List (List α)} {ys:List (List β)},xs.length=ys.length→(∀(i:Nat) x y,xs[i]? =some x→ys[i]? =some y→x.length=y.length)→ ∀o,(xs.take o).flatten.length=(ys.take o).flatten.length
 | [],[],_,_,o=>by simp
 | [],_::_,h,_,_=>by simp at h
 |_::_,[],h,_,_=>by simp at h
 |x::xs,y::ys,h,h',0=>by simp
 |x::xs,y::ys,h,h',o+1=>by
  have:=wo (xs:=xs) (ys:=ys) (by simpa using h) (fun i x y hx hy=>h' (i+1) x y (by simpa using hx) (by simpa using hy)) o
  simp only[List.take_succ_cons,List.flatten_cons,List.length_append,this,h' 0 x y rfl rfl]
theorem xF{w:World}{S:aO}{β:Nat→Nat}: ∀{sh:List Bool} {k:Nat} {vs:List Value} {dd:List D},qQ w S β sh k vs dd→vs.length=sh.length∧dd.length=fj sh∧
  ∀(i:Nat) b,sh[i]? =some b→ ∃v,vs[i]? =some v∧(if b then v= .pointer (some ⟨β (k+eZ (sh.take i)),0,none⟩) else∃d,dd[fj (sh.take i)]? =some d∧bj w S v d)
 | [],k,[],[],_=>⟨rfl,rfl,by intro i b h;simp at h⟩
 |true::sh,k,v::vs,dd,⟨h1,h2⟩=>by
  obtain⟨q1,q2,q3⟩:=xF h2
  refine⟨by simp[q1],by simp[fj,q2],fun i b hi=> ?_⟩
  cases i with
  |zero=>simp at hi;subst hi;exact⟨v,rfl,by simpa [eZ]using h1⟩
  |succ i=>
   obtain⟨u,hu,hb⟩:=q3 i b (by simpa using hi)
   refine⟨u,by simpa using hu,?_⟩
   cases b with
   |true=>simp only[if_true]at hb⊢;rw[hb];simp only[List.take_succ_cons,eZ,List.filter_cons,if_true,List.length_cons];rw[show k+1+(List.filter (fun b=>b) (List.take i sh)).length=k+((List.filter (fun b=>b) (List.take i sh)).length+1) by omega]
   |false=>simpa [fj]using hb
 |false::sh,k,v::vs,d::dd,⟨h1,h2⟩=>by
  obtain⟨q1,q2,q3⟩:=xF h2
  refine⟨by simp[q1],by simp only[fj,List.filter_cons,Bool.not_false,if_true,List.length_cons]at q2⊢;omega,fun i b hi=> ?_⟩
  cases i with
  |zero=>simp at hi;subst hi;exact⟨v,rfl,by simpa [fj]using h1⟩
  |succ i=>
   obtain⟨u,hu,hb⟩:=q3 i b (by simpa using hi)
   refine⟨u,by simpa using hu,?_⟩
   cases b with
   |true=>simpa [eZ]using hb
   |false=>simpa [fj]using hb
 | [],_,_::_,_,h=>by simp[qQ]at h
 | [],_,[],_::_,h=>by simp[qQ]at h
 |true::_,_,[],_,h=>by simp[qQ]at h
 |false::_,_,[],_,h=>by simp[qQ]at h
 |false::_,_,_::_,[],h=>by simp[qQ]at h
theorem Dz: ∀{l:List Bool} {i:Nat},l[i]? =some true→eZ (l.take i)<eZ l
 | [],i,h=>by simp at h
 |b::l,0,h=>by simp at h;subst h;simp[eZ]
 |b::l,i+1,h=>by
  have:=Dz (l:=l) (i:=i) (by simpa using h)
  unfold eZ at this⊢
  cases b<;>simp at this⊢ <;>omega
section
variable{P:Program}{C:Cx}{w w0:World}{S0:ew}{G:Gh}{σ:St}{a:Act}{n:Nat}
def Ue(cs:List (Nat×bS)):Bool:=cs.all fun x=>match x.2.ob with|some ob=> !ob.wV|none=>true
theorem Vo{cs:List (Nat×bS)}(h:Ue cs=true){k:Nat}{sig:bS}{ob:Ob}(hk:lk cs k=some sig)(dw:sig.ob=some ob)(hp:ob.wV=true):False:=by
 have:=aV.1 h _ (fF hk)
 simp only[dw,hp]at this
 cases this
theorem yi{f:Nat}{fn:Func}{c:Code}{sig:bS}{ob:Ob}{qH:List D→Prop}{yF:List D→D}(cs:lD)(Φ:Nat→List D→D)(Pre:Nat→List D→Prop)(nO:List (Nat×FQ))(v:VC)
  (hf:P.funcs[f]? =some fn) (hb:fn.body=some c) (tO:P.follows .mixedOrders=true) (dw:sig.ob=some ob) (Ze:cs.mp=[]) (OD: ∀k sg,lk cs.et k=some sg→ ∃sF t,sg.nn=some (sF,t)∧UG P k sF (Pre k) (Φ k)) (hB:obB fn sig ob=true) (TD:Ue cs.l=true) (s9:cs.fr=0)
  (fb: ∀k sig,lk cs.l k=some sig→ax P k sig (Pre k) (Φ k))
  (hv:vc ⟨P,cs,fn.ntmps,nO,[],[],[]⟩ c (fun ex σ _ _=>match ex with| .exit _=> .stuck 20|_=>Ai P sig ob fn σ) (St.mL sig ob) sig.params.length 0=v)
  (hc: ∀ds,bV (.bQ sig.params) ds→qH ds→v.holds Φ Pre (fun d=>d=yF ds) (fun i=>ds.getD i .top) []):ax P f sig qH yF:=by
 unfold obB at hB
 simp only[aw,aN]at hB
 obtain⟨⟨⟨⟨⟨⟨⟨⟨⟨⟨⟨_,Qm⟩,hps⟩,ev⟩,hole⟩,Ab⟩,akf⟩,hcT⟩,qE⟩,K8⟩,XB⟩,ahI⟩:=hB
 have Xu:ob.mv=true→eZ ob.shape<ob.ba.length:=fun hm=>by rw[hm]at ahI;simpa using ahI
 refine⟨fun args w=> ?_,fun ov=>(by rw[dw]at ov;cases ov),fun ob' ov _ w S β τ vs dd oo gY fV gE=> ?_,fun ob' ov tF=>absurd tF (by
  rw[dw]at ov;injection ov with ov;subst ov
  intro tF
  unfold Ob.wV at tF
  simp only[aw,List.isEmpty_iff,beq_iff_eq]at tF
  obtain⟨⟨_,h1⟩,h2⟩:=tF
  have h3:=K8
  rw[h2,h1]at h3
  cases j6:ob.new<;>rw[j6]at h3<;>simp at h3)⟩
 ·unfold callFunc
  have Az:fn.name≠ "runtime.NumGoroutine" :=by simpa using Qm
  simp[hf,hb,Az]
 rw[dw]at ov;injection ov with ov;subst ov
 obtain⟨tE,UA,zH⟩:=xF gY.args
 have aqB: ∀(o:Nat) rc cells,ob.ba[o]? =some rc→oo[o]? =some cells→rc.length=cells.length:=by
  intro o rc cells h1 h2
  obtain⟨_,_,_,_,h3,_⟩:=gY.ba o rc cells h1 h2
  exact h3.symm
 have aqF: ∀o,(ob.ba.take o).flatten.length=(oo.take o).flatten.length:=wo (by rw[gY.len]) aqB
 let ds:=dd++oo.flatten
 have aqh: ∀(o c:Nat) cells d,oo[o]? =some cells→cells[c]? =some d→ds.getD (nS (fj ob.shape) ob.ba o+c) .top=d:=by
  intro o c cells d h1 h2
  refine dX ?_
  show(dd++oo.flatten)[_]? =_
  rw[List.getElem?_append_right (by unfold nS;omega)]
  have:=uh h1 h2
  rw[←aqF]at this
  rw[←this];congr 1
  unfold nS;omega
 have ah7: ∀(o c:Nat) rc r,ob.ba[o]? =some rc→rc[c]? =some r→nS (fj ob.shape) ob.ba o+c<sig.params.length:=by
  intro o c rc r h1 h2
  have:=(ai.1 (uh h1 h2)).1
  rw[akf];unfold nS;omega
 let S1:ew:=⟨S,tI ob β τ,fun o=>if o<ob.ba.length then some (β o) else none,False,False,P,[]⟩
 let G1:Gh:=⟨S,β,fun g=>τ g.2⟩
 let C1:Cx:=⟨fun i=>ds.getD i .top,sig.params.length,fun i=>i<sig.params.length⟩
 have cB: ∀(o:Nat) rc,ob.ba[o]? =some rc→ ∃cells fW T,oo[o]? =some cells∧w.heap[β o]? =some (.cells (List.toArray fW) T (0,0))∧fW.length=rc.length∧(∀o',¬S (β o) o')∧
   ∀(i:Nat) r u,rc[i]? =some r→fW[i]? =some u→ ∃d,C1.ρ (nS (fj ob.shape) ob.ba o+i)=d∧im w 0 S τ r u d:=by
  intro o rc ho
  have lQ:o<oo.length:=by rw[gY.len];exact(ai.1 ho).1
  obtain⟨fW,T,h1,h2,h3,h4,h5⟩:=gY.ba o rc _ ho (av lQ)
  refine⟨_,fW,T,av lQ,h1,h2,h5,fun i r u hr hu=> ?_⟩
  have eX:i<oo[o].length:=by rw[h3];exact(ai.1 hr).1
  exact⟨_,aqh o i _ _ (av lQ) (av eX),h4 i r u _ hr hu (av eX)⟩
 have AA: ∀g x,(St.mL sig ob).live g=some x→ ∃(o c:Nat) (rc:List aA) (t:Ty) (j:Nat) (T:TypeId),ob.ba[o]? =some rc∧rc[c]? =some (t,some (j,T))∧g=(0,j)∧x=(.var (nS (fj ob.shape) ob.ba o+c),T,t):=by
  intro g x hx
  have iA:cG (fun _=>none) (rH (fj ob.shape) ob.ba.flatten) g=some x:=hx
  unfold cG at iA
  split at iA
  ·rename_i y hy
   subst iA
   obtain⟨i,r,hr,hm⟩:=yf (fF hy)
   obtain⟨o,c,rc,h1,h2,h3⟩:=yp hr
   obtain⟨t,_|⟨j,T⟩⟩:=r
   ·simp[iY]at hm
   ·simp only[iY,List.mem_singleton,Prod.mk.injEq,Option.some.injEq]at hm
    obtain⟨rfl,rfl⟩:=hm
    exact⟨o,c,rc,t,j,T,h1,h2,rfl,by rw[h3];unfold nS;rw[Nat.add_assoc]⟩
  ·cases iA
 have La: ∀(o c:Nat) rc t j T,ob.ba[o]? =some rc→rc[c]? =some (t,some (j,T))→j∈ob.ia:=by
  intro o c rc t j T h1 h2
  unfold Ob.ia
  refine List.mem_flatMap.2 ⟨rc,aS h1,?_⟩
  unfold Gq
  exact List.mem_filterMap.2 ⟨_,aS h2,rfl⟩
 have akg: ∀g e T t,(St.mL sig ob).live g=some (e,T,t)→gh C1 w 0 G1 g e T t:=by
  intro g e T t hx
  obtain⟨o,c,rc,t',j,T',h1,h2,rfl,he⟩:=AA g _ hx
  simp only[Prod.mk.injEq]at he
  obtain⟨rfl,rfl,rfl⟩:=he
  obtain⟨cells,fW,T0,_,_,h3,_,h4⟩:=cB o rc h1
  have gz:c<fW.length:=by rw[h3];exact(ai.1 h2).1
  obtain⟨d,hd,hck⟩:=h4 c _ _ h2 (av gz)
  obtain⟨_,hco⟩:=hck
  exact hco.ok (C:=C1) (G:=G1) (g:=(0,j)) ev (by simpa [E.lt]using ah7 o c rc _ h1 h2) hd rfl rfl
 have acJ:er fn.ntmps w S1 C1 G1 (St.mL sig ob) ⟨vs.toArray++Array.replicate (fn.ntmps-vs.length) undef,[]⟩ w:=by
  refine⟨⟨dU.refl _ _,fun _ _ h=>h,fun _ _ _=>rfl,?_,?_,gY.lt,fun _ _ h=> .inl h,?_,?_,?_,akg,?_,?_,?_,fun h=>h.elim,fun h=>h.elim⟩,?_,?_,rfl⟩
  ·intro i b hi
   simp only[S1]at hi
   split at hi
   ·rename_i aL
    injection hi with hi
    exact⟨by show i<sig.params.length;omega,hi⟩
   ·cases hi
  ·exact fun _ _ _=>trivial
  ·intro o x hx
   simp only[St.mL,br]at hx
   obtain⟨rc,mB,_⟩:=hx
   have:=(ai.1 mB).1
   show o<sig.params.length;omega
  ·intro o ro pW hx
   simp only[St.mL,br,Prod.mk.injEq]at hx
   obtain⟨rc,mB,rfl,rfl⟩:=hx
   have lQ:=(ai.1 mB).1
   obtain⟨cells,fW,T,_,h1,h2,h3,h4⟩:=cB o rc mB
   refine⟨.inr ⟨.inl ⟨o,lQ,rfl⟩,o,by simp only[S1];rw[if_pos lQ]⟩,?_,ij.mk (vs:=fW) (T:=T) h1 ⟨by rw[Ba,vT,h2],?_⟩,by simpa using h3⟩
   ·rw[aV]
    intro y hy
    obtain⟨j,hj⟩:=List.getElem?_of_mem hy
    obtain⟨c0,hj,dR⟩:=rf hj
    rcases dR with rfl|⟨_,_,_,rfl⟩
    rotate_left
    ·rfl
    rw[pL]at hj
    simp only[br]at hj
    obtain⟨r,hr,rfl⟩:=hj
    have:=aV.1 (aV.1 Ab rc (aS mB)) r (aS hr)
    obtain⟨t,_|⟨j0,T0⟩⟩:=r
    ·exact this
    ·cases Mg:Ca j0<;>simp[mO,Mg,SC.scalar]
   ·intro i y u hy hu
    obtain⟨c0,hy,dR⟩:=rf hy
    rcases dR with rfl|⟨N8,m9,hrj,rfl⟩
    rotate_left
    ·have Cn:eZ ob.shape<ob.ba.length:=by
      unfold Aw at m9
      split at m9
      ·assumption
      ·cases m9
     have aq1:N8=ob.ba.length-1:=by
      unfold Aw at m9
      rw[if_pos Cn]at m9
      injection m9 with m9;exact m9.symm
     have hl:=gY.link Cn o i rc mB hrj
     rw[cell_of_row w _ i _ T (0,0) h1,List.getElem?_toArray,hu]at hl
     injection hl with hl
     subst aq1
     exact⟨by show ob.ba.length-1<sig.params.length;omega,hl⟩
    rw[pL]at hy
    simp only[br]at hy
    obtain⟨r,hr,rfl⟩:=hy
    obtain⟨d,hd,hck⟩:=h4 i r u hr hu
    exact sr (C:=C1) (G:=G1) (e:= .var (nS (fj ob.shape) ob.ba o+i)) hck ev (by simpa [E.lt]using ah7 o i rc r mB hr) hd (fun _=>rfl) true
  ·intro i j x y hi hj he
   simp only[St.mL,br]at hi hj
   obtain⟨_,hi,_⟩:=hi
   obtain⟨_,hj,_⟩:=hj
   exact gY.inj i j (ai.1 hi).1 (ai.1 hj).1 he
  ·intro g x b hx fq
   obtain⟨o,c,rc,t,j,T,h1,h2,rfl,_⟩:=AA g x hx
   exact .inr (.inr ⟨j,La o c rc t j T h1 h2,fq⟩)
  ·intro g g' x y b hx hy fq kX
   obtain⟨o,c,rc,t,j,T,h1,h2,rfl,_⟩:=AA g x hx
   obtain⟨o',c',V5,t',j',T',h1',h2',rfl,_⟩:=AA g' y hy
   rw[gY.own j j' b (La _ _ _ _ _ _ h1 h2) (La _ _ _ _ _ _ h1' h2') fq kX]
  ·intro g o x y b hx hy fq
   obtain⟨o',c,rc,t,j,T,h1,h2,rfl,_⟩:=AA g x hx
   simp only[St.mL,br]at hy
   obtain⟨_,hy,_⟩:=hy
   exact gY.cz j o b (La _ _ _ _ _ _ h1 h2) (ai.1 hy).1 fq
  ·intro t cnd s nh
   simp only[St.mL]at nh
   split at nh
   ·rename_i Tt
    simp only[br,Prod.mk.injEq]at nh
    obtain⟨ty,O8,rfl,rfl⟩:=nh
    obtain⟨u,hu,OO⟩:=zH t false Tt
    simp only[Bool.false_eq_true,if_false]at OO
    obtain⟨d,hd,fa⟩:=OO
    have qo:fj (ob.shape.take t)<dd.length:=(ai.1 hd).1
    have wP:ds[fj (ob.shape.take t)]? =some d:=by show(dd++oo.flatten)[_]? =_;rw[List.getElem?_append_left qo];exact hd
    obtain⟨x,hx,hxh⟩:=bX fV _ ty (by rw[Ty.cC];exact O8)
    have hxd:x=d:=by
     have:ds[fj (ob.shape.take t)]? =some x:=hx
     rw[wP]at this;injection this with this;exact this.symm
    subst hxd
    have dC:den C1.ρ (.var (fj (ob.shape.take t)))=x:=dX wP
    have ahL:fj (ob.shape.take t)<sig.params.length:=(ai.1 O8).1
    refine⟨u,?_,by simp,by simpa [SV.lt,SC.lt,E.lt]using ahL,?_⟩
    ·have xO:t<vs.length:=(ai.1 hu).1
     rw[Array.getElem?_append_left (by simpa using xO)];simpa using hu
    ·simp only[aq,List.all_nil,if_true]
     exact⟨by simpa [E.lt]using ahL,by rw[dC];exact fa,by rw[dC];exact hxh⟩
   ·rename_i Tt
    injection nh with nh
    simp only[Prod.mk.injEq]at nh
    obtain⟨rfl,rfl⟩:=nh
    obtain⟨u,hu,OO⟩:=zH t true Tt
    simp only[if_true,Nat.zero_add]at OO
    refine⟨u,?_,by simp,rfl,?_⟩
    ·have xO:t<vs.length:=(ai.1 hu).1
     rw[Array.getElem?_append_left (by simpa using xO)];simpa using hu
    ·simp only[aq,List.all_nil,if_true]
     refine⟨?_,OO⟩
     show eZ (ob.shape.take t)<sig.params.length
     have:=Dz Tt
     omega
   ·cases nh
  ·simp;omega
 refine calls_of_wp hf hb ?_
 have k7:=hc ds fV gE
 rw[←hv]at k7
 refine GO (w0:=w) (S0:=S1) (N:=⟨P,cs,fn.ntmps,nO,[],[],[]⟩) tO fb (fun k sig ob hk dw tF=>(Vo TD hk dw tF).elim) ⟨fun h=>h.elim,fun h=>h.elim,rfl,fun T kt h=>(by rw[show cs.mp=[] from Ze]at h;cases h),fun k sg h hn=>(by obtain⟨_,_,h2,_⟩:=OD k sg h;rw[hn]at h2;cases h2),fun k sg sF t h hn=>(by obtain⟨sF2,t2,h2,h3⟩:=OD k sg h;rw[hn]at h2;injection h2 with h2;simp only[Prod.mk.injEq]at h2;obtain⟨rfl,rfl⟩:=h2;exact h3)⟩ (fun _ _ h=>by cases h) (fun _ _ h=>by cases h) (fun h=>by have:cs.fr=2:=h;omega) rfl c _ _ _ 0 _ [] _ k7 rfl (fun i b h=> ?_) ?_ _ w G1 ?_
 ·simp only[S1]at h
  split at h
  ·omega
  ·cases h
 ·intro ex σ' p' d' dK ka a' w' G' _ _ _ _ hk hs
  have fin:(Ai P sig ob fn σ').holds Φ Pre (fun d=>d=yF ds) dK ka→a'.defers=[] ∧ ∃v,(results fn a'.tmps).run P w'= .ok v w'∧ ∃v0 S' τ' βn,Ending.returned v= .returned v0∧Rz w S sig ob β τ v0 (yF ds) w' S' τ' βn:=by
   intro hk
   refine⟨hs.defers,?_⟩
   unfold Ai at hk
   split at hk
   ·rename_i e l fr cw
    split at hk
    ·rename_i wK ls kY
     split at hk
     ·rename_i bM
      simp only[aw]at bM
      obtain⟨⟨bM,MA⟩,aaL⟩:=bM
      obtain⟨ids,gG⟩: ∃ids,ids=uT σ' ob fr:=⟨_,rfl⟩
      rw[←gG]at kY MA aaL
      have qq:ob.mv=true→ids.Nodup:=fun hm=>by rw[hm]at aaL;simpa using aaL
      have qD:=bM
      unfold nR at bM
      simp only[aw,aN]at bM
      obtain⟨hnt,OE⟩:=bM
      obtain⟨q1,q2,q3,q4,q5,q6⟩:=AV kY
      have hd:den dK (.un .cW (.cons e (.bQ (wK.map fun es=> .un .agg (.bQ es)))))=yF ds:=hk
      have gZ:yF ds= .cW (den dK e::(wK.map fun es=>es.map (den dK)).map .agg):=by
       rw[←hd]
       simp only[den,dG,U.den,D.ak,List.map_map]
       congr 2
       apply List.map_congr_left
       intro es _
       simp only[Function.comp,den,dG,U.den,D.ak]
      have EC: ∀o,o<ob.ba.length→G'.β o=β o:=fun o ho=>(hs.m.pd o (β o) (by simp only[S1];rw[if_pos ho])).2
      have UR: ∃v0,(results fn a'.tmps).run P w'= .ok v0 w'∧(∀j g,(j,some g)∈l→ ∃z,σ'.live g=some z)∧(if ob.new then l=[] ∧ ∃id,fr=[id] ∧ob.ba.length≤id∧v0= .pointer (some ⟨G'.β id,0,none⟩) else fr=[] ∧bk sig.res=l.map (·.1)∧eN w' 0 G'.S (oq G' (l++ls)) sig.res v0 (den dK e)):=by
       unfold agy at cw
       split at cw
       ·rename_i j6
        split at cw
        ·rename_i t hrt
         split at cw
         ·rename_i id ht
          split at cw
          ·rename_i cU
           injection cw with cw;simp only[Prod.mk.injEq]at cw;obtain⟨rfl,rfl,rfl⟩:=cw
           obtain⟨u,h1,_,_,h2⟩:=hs.t t _ _ ht
           simp only[aq,List.all_nil,if_true]at h2
           obtain⟨_,rfl⟩:=h2
           refine⟨_,?_,by simp,by rw[if_pos j6];exact⟨rfl,id,rfl,cU,rfl⟩⟩
           have:=rl (P:=P) (w:=w') (a:=a') (fn:=fn) (vs:=[.pointer (some ⟨G'.β id,0,none⟩)]) (by rw[hrt,List.mapM_cons,Sem.run_bind,show(kN a' (.tmp t)).run P w'= .ok (.pointer (some ⟨G'.β id,0,none⟩)) w' from(by simp[kN,h1]),Result.andThen_ok,List.mapM_nil];rfl)
           exact this
          ·cases cw
         ·cases cw
        ·cases cw
       ·rename_i j6
        split at cw
        ·rename_i es l' nM
         injection cw with cw;simp only[Prod.mk.injEq]at cw;obtain⟨rfl,rfl,rfl⟩:=cw
         obtain⟨us,h1,h2,h3,h4,h5⟩:=pM (L:=l'++ls) hs OE nM (fun x hx=>List.mem_append_left _ hx)
         refine⟨_,rl h1,nW nM,?_⟩
         rw[j6]
         simp only[Bool.false_eq_true,if_false]
         refine⟨trivial,mb nM,?_⟩
         split
         ·rename_i r e0 aj9
          rw[aj9]at h2 h5⊢
          obtain⟨u,rfl⟩: ∃u,us=[u] :=List.length_eq_one_iff.1 h2
          exact .inl ⟨r,rfl,h5 0 r u e0 rfl rfl rfl⟩
         ·rename_i es1 _ es2 dH
          have wN:sig.res.length≠1:=by
           intro h
           obtain⟨r,hr⟩:=List.length_eq_one_iff.1 h
           obtain⟨e,he⟩:=List.length_eq_one_iff.1 (h3.trans h)
           exact dH r e hr he
          have Ih:I7 us= .tuple us.toArray:=by
           match us,h2 with
           | [],_=>rfl
           | [u],h2=>exact absurd h2.symm wN
           |_::_::_,_=>rfl
          rw[Ih]
          refine .inr ⟨wN,us,es1.map (den dK),rfl,by simp only[den,dG,U.den,D.ak],h2,by simp[h3],fun i r u y hr hu hy=> ?_⟩
          simp only[List.getElem?_map,br]at hy
          obtain⟨e,he,rfl⟩:=hy
          exact h5 i r u e hr hu he
        ·cases cw
      obtain⟨v0,cM,om,kj⟩:=UR
      have bf: ∀j g,(j,some g)∈l++ls→ ∃z,σ'.live g=some z:=fun j g hm=>(List.mem_append.1 hm).elim (om j g) (q5 j g)
      have aq4:fr.length=ob.new.toNat:=by
       cases j6:ob.new with
       |true=>rw[j6]at kj;simp only[if_true]at kj;obtain⟨_,id,rfl,_⟩:=kj;rfl
       |false=>rw[j6]at kj;simp only[Bool.false_eq_true,if_false]at kj;rw[kj.1];rfl
      let βn:Nat:=if ob.mv then G'.β (ids.getD (ob.ba.length-1) 0) else G'.β (fr.headD 0)
      have Xz:ob.mv=true→ ∀i,i<ob.ba.length-1→ids[i]? =some i:=by
       intro hm i hi
       rw[gG]
       unfold uT
       rw[if_pos hm,List.getElem?_append_left (by simpa using hi),List.getElem?_range hi]
      have CQ: ∀(i:Nat) id,ids[i]? =some id→iL ob β βn i=G'.β id:=by
       intro i id hi
       cases jD:ob.mv with
       |true=>
        have aqO:=Xu jD
        have K9:=Ob.Ez jD
        have ahS:i<ob.ba.length:=by
         have h1:=(ai.1 hi).1
         rw[q2,K8,K9]at h1
         exact h1
        by_cases tP:i<ob.ba.length-1
        ·have h2:=Xz jD i tP
         rw[hi]at h2
         injection h2 with h2
         subst h2
         unfold iL
         rw[if_pos ⟨ahS,fun h=>by omega⟩,EC id ahS]
        ·have qm:i=ob.ba.length-1:=by omega
         unfold iL
         rw[if_neg (fun h=>h.2 ⟨jD,qm⟩)]
         show(if ob.mv then G'.β (ids.getD (ob.ba.length-1) 0) else G'.β (fr.headD 0))=_
         rw[if_pos jD,List.getD_eq_getElem?_getD,←qm,hi];rfl
       |false=>
       have Gy:ids=List.range ob.ba.length++fr:=by rw[gG];unfold uT;rw[jD];rfl
       rw[Gy]at hi
       have Cj:βn=G'.β (fr.headD 0):=by show(if ob.mv then _ else _)=_;rw[jD];rfl
       rw[Cj]
       unfold iL
       by_cases eX:i<ob.ba.length
       ·rw[List.getElem?_append_left (by simpa using eX)]at hi
        simp[eX]at hi
        subst hi
        rw[if_pos ⟨eX,fun h=>by rw[jD]at h;cases h.1⟩,EC i eX]
       ·rw[List.getElem?_append_right (by simp;omega)]at hi
        rw[if_neg (fun h=>eX h.1)]
        have h0:i-(List.range ob.ba.length).length=0:=by
         have:=(ai.1 hi).1
         rw[aq4]at this
         cases j6:ob.new<;>rw[j6]at this<;>simp at this⊢ <;>omega
        rw[h0]at hi
        show G'.β (fr.headD 0)=_
        cases fr with
        |nil=>simp at hi
        |cons x r=>simp at hi;subst hi;rfl
      have gF:jk sig ob=(l++ls).map (·.1):=by
       cases j6:ob.new with
       |true=>
        rw[j6]at kj XB
        simp only[if_true]at kj
        have hre:sig.res=[] :=by simpa using XB
        rw[kj.1]
        unfold jk
        rw[hre]
        exact q3
       |false=>
        rw[j6]at kj
        simp only[Bool.false_eq_true,if_false]at kj
        unfold jk
        rw[List.map_append,kj.2.1,q3]
      have Pn: ∀i,i<ob.outs.length→ ∃id,ids[i]? =some id:=by
       intro i hi
       exact⟨_,av (by rw[q2];exact hi)⟩
      refine⟨v0,cM,v0,G'.S,oq G' (l++ls),βn,rfl,⟨hs.m.below,hs.m.ic,hs.m.bL,hs.m.eP,hs.m.keep,⟨den dK e,wK.map fun es=>es.map (den dK),gZ,by simp[q1],?_,?_⟩,?_,?_,?_,?_,?_⟩⟩
      ·cases j6:ob.new with
       |true=>
        rw[j6]at kj
        simp only[if_true]at kj⊢
        obtain⟨_,id,rfl,cU,CO⟩:=kj
        have jD:ob.mv=false:=by
         cases hm:ob.mv with
         |false=>rfl
         |true=>rw[Ob.Ez hm]at j6;cases j6
        have Gy:ids=List.range ob.ba.length++[id] :=by rw[gG];unfold uT;rw[jD];rfl
        rw[Gy]at q4
        have Cj:βn=G'.β id:=by show(if ob.mv then _ else _)=_;rw[jD];rfl
        rw[Cj]
        refine⟨CO,?_⟩
        obtain⟨cs1,IQ⟩:=q4 id (by simp)
        rcases (hs.m.box _ _ _ IQ).1 with h|⟨_,i,hi⟩
        ·exact h
        ·simp only[S1]at hi
         split at hi
         ·rename_i MD
          injection hi with hi
          obtain⟨Zo,aa1⟩:=q4 i (by simp[MD])
          have:=hs.m.inj i id _ _ aa1 IQ ((EC i MD).trans hi)
          omega
         ·cases hi
       |false=>
        rw[j6]at kj
        simp only[Bool.false_eq_true,if_false]at kj⊢
        exact kj.2.2
      ·intro i rc cells h1 h2
       simp only[List.getElem?_map,br]at h2
       obtain⟨es,pe,rfl⟩:=h2
       obtain⟨id,cU⟩:=Pn i (ai.1 h1).1
       obtain⟨cs1,lo,r1,r2,r3⟩:=q6 i rc id es h1 cU pe
       obtain⟨_,_,dq,b5⟩:=hs.m.box _ _ _ r1
       obtain⟨us,T,b3,b4⟩:=dq.cells (jf r2)
       obtain⟨k1,k2,k3⟩:=iw (L:=l++ls) hs.m OE r2 b4 (fun x hx=>List.mem_append_right _ (r3 x hx))
       rw[CQ i id cU]
       refine⟨us,T,b3,k2,by simp[k1],fun j r u d hr hu hd=> ?_,by simpa using b5⟩
       simp only[List.getElem?_map,br]at hd
       obtain⟨e1,B9,rfl⟩:=hd
       exact k3 j r u e1 hr hu B9
      ·intro j b hj hb
       rw[gF]at hj
       obtain⟨g,OJ,fq⟩:=vj qD hj hb
       obtain⟨z,hz⟩:=bf _ _ OJ
       exact hs.m.dM g z b hz fq
      ·intro j k b hj KG ON F6
       rw[gF]at hj KG
       exact xu hs.m qD bf hj KG ON F6
      ·intro j i b hj hi hb
       rw[gF]at hj
       obtain⟨g,OJ,fq⟩:=vj qD hj hb
       obtain⟨z,hz⟩:=bf _ _ OJ
       obtain⟨id,cU⟩:=Pn i hi
       obtain⟨cs1,IQ⟩:=q4 id (aS cU)
       rw[CQ i id cU]
       exact hs.m.cz g id z _ b hz IQ fq
      ·intro Cn i c rc h1 hc
       obtain⟨idl,zX⟩:=Pn (ob.ba.length-1) (by rw[K8];omega)
       have H8:Z4 ob ids=some idl:=by
        unfold Z4
        cases jD:ob.mv with
        |true=>exact zX
        |false=>
         have Gy:ids=List.range ob.ba.length++fr:=by rw[gG];unfold uT;rw[jD];rfl
         rw[Gy,List.getElem?_append_left (by simp;omega),List.getElem?_range (by omega)]at zX
         unfold Aw
         rw[if_pos Cn]
         exact zX
       rw[H8]at MA
       obtain⟨id,cU⟩:=Pn i (ai.1 h1).1
       obtain⟨cs1,lo,r1,r2,r3⟩:=q6 i rc id _ h1 cU (av (by rw[q1];exact(ai.1 h1).1))
       obtain⟨_,_,dq,b5⟩:=hs.m.box _ _ _ r1
       obtain⟨us,T,b3,b4⟩:=dq.cells (jf r2)
       obtain⟨k1,k2,k3⟩:=iw (L:=l++ls) hs.m OE r2 b4 (fun x hx=>List.mem_append_right _ (r3 x hx))
       have gz:c<rc.length:=(ai.1 hc).1
       have DT:c<us.length:=by rw[k2];exact gz
       have m8:c<cs1.length:=by rw[←b4.1];exact DT
       have Mw:=xy (AX MA h1 cU r1) hc (av m8)
       have hrs:=b4.2 c _ _ (av m8) (av DT)
       rw[Mw]at hrs
       obtain⟨_,wF⟩:=hrs
       rw[CQ i id cU,cell_of_row w' _ c _ T (0,0) b3,List.getElem?_toArray,av DT,wF,CQ _ idl zX]
      ·intro jD
       have aqO:=Xu jD
       obtain⟨idl,zX⟩:=Pn (ob.ba.length-1) (by rw[K8];omega)
       have Cj:βn=G'.β idl:=by
        show(if ob.mv then _ else _)=_
        rw[if_pos jD,List.getD_eq_getElem?_getD,zX];rfl
       rw[Cj]
       obtain⟨cs1,IQ⟩:=q4 idl (aS zX)
       rcases (hs.m.box _ _ _ IQ).1 with h|⟨_,i,hi⟩
       ·exact .inr h
       ·simp only[S1]at hi
        split at hi
        ·rename_i MD
         injection hi with hi
         by_cases eX:i<ob.ba.length-1
         ·exfalso
          have h2:=Xz jD i eX
          obtain⟨Zo,aa1⟩:=q4 i (aS h2)
          have h3:=hs.m.inj i idl _ _ aa1 IQ ((EC i MD).trans hi)
          subst h3
          obtain⟨h4,h5⟩:=ai.1 h2
          obtain⟨h6,h7⟩:=ai.1 zX
          have:=(List.getElem_inj (qq jD) (h₀:=h4) (h₁:=h6)).1 (h5.trans h7.symm)
          omega
         ·have:i=ob.ba.length-1:=by omega
          subst this
          exact .inl hi.symm
        ·cases hi
     ·exact hk.elim
    ·exact hk.elim
   ·exact hk.elim
  cases ex with
  |normal=>exact fin hk
  |ret=>exact fin hk
  |exit i=>exact hk.elim
 ·exact acJ
end
def fvc(P:Program)(cs:lD)(nO:List (Nat×FQ))(sig:bS)(fn:Func):VC:=
 match fn.body with
 |some c=>vc ⟨P,cs,fn.ntmps,nO,[],[],[]⟩ c (fun ex σ _ _=>match ex with| .exit _=> .stuck 20|_=>KU P sig fn σ) (St.start sig.params) sig.params.length 0
 |none=> .stuck 30
def fnB(fn:Func)(sig:bS):Bool:=sig.ob.isNone&&fn.body.isSome&& !(fn.name== "runtime.NumGoroutine")&&decide (sig.params.length≤fn.ntmps)
def frB(cs:lD)(sig:bS):Bool:=cs.fr==0&&Uf sig.res||cs.fr==1
theorem acR{cs:lD}{sig:bS}(h:frB cs sig=true):cs.fr=0∧Uf sig.res=true∨cs.fr=1:=by
 unfold frB at h
 simpa using h
def gM(P:Program)(Pre:Nat→List D→Prop)(Φ:Nat→List D→D)(cs:List (Nat×bS)):Prop:= ∀k sig,lk cs k=some sig→ax P k sig (Pre k) (Φ k)
theorem vt{P:Program}{Pre:Nat→List D→Prop}{Φ:Nat→List D→D}:gM P Pre Φ [] :=fun k sig h=>by cases h
theorem aj{P:Program}{Pre:Nat→List D→Prop}{Φ:Nat→List D→D}{k:Nat}{s:bS}{cs:List (Nat×bS)}(h:ax P k s (Pre k) (Φ k))(t:gM P Pre Φ cs):gM P Pre Φ ((k,s)::cs):=fun j sig hj=>by
 simp only[lk]at hj
 split at hj
 ·rename_i e;subst e;injection hj with hj;subst hj;exact h
 ·exact t j sig hj
theorem Nl{P:Program}{f:Nat}{fn:Func}{sig:bS}{qH:List D→Prop}{yF:List D→D}{cs:lD}{Φ:Nat→List D→D}{Pre:Nat→List D→Prop}{nO:List (Nat×FQ)}{v:VC}
  (tO:P.follows .mixedOrders=true) (fb:gM P Pre Φ cs.l) (s9:frB cs sig=true) (hf:P.funcs[f]? =some fn) (hB:fnB fn sig=true) (hv:fvc P cs nO sig fn=v)
  (Ze:cs.mp=[] ∧cs.et=[]) (hc: ∀ds,bV (.bQ sig.params) ds→qH ds→v.holds Φ Pre (fun d=>d=yF ds) (fun i=>ds.getD i .top) []):ax P f sig qH yF:=by
 unfold fnB at hB
 simp only[aw,aN]at hB
 obtain⟨⟨⟨h0,h1⟩,h2⟩,h3⟩:=hB
 obtain⟨c,hb⟩:=Option.isSome_iff_exists.1 h1
 refine Fi cs [] [] Φ Pre nO v hf hb (by simpa using h2) tO h3 (by simpa using h0) Ze fb (acR s9) (fun _ _ h=>by cases h) (fun _ _ h=>by cases h) ?_ hc
 unfold fvc at hv
 rw[hb]at hv
 exact hv
theorem bu(l:List D):(D.list l).ak=l:=rfl
theorem cn(l:List D):(D.agg l).ak=l:=rfl
theorem ch(l:List D):(D.cW l).ak=l:=rfl
theorem ck(l:List D):(D.ptr l).ak=l:=rfl
theorem df(f:Nat)(l:List D):(D.fn f l).ak=l:=rfl
theorem aQ(k:IntKind)(n:Int):(D.int k n).ab=n:=rfl
theorem bn(b:Bool):(D.bool b).eh=b:=rfl
theorem wrap64{n:Int}(h1: -9223372036854775808≤n)(h2:n≤9223372036854775807):IntKind.wrap .i64 n=n:=by
 rw[IntKind.wrap_i64];omega
theorem tn{n:Int}:kr .i64 n↔ -9223372036854775808≤n∧n≤9223372036854775807:=by
 unfold kr
 have h1:IntKind.min .i64= -9223372036854775808:=by rfl
 have h2:IntKind.max .i64=9223372036854775807:=by rfl
 rw[h1,h2]
end Go.bZ
namespace Go.bZ
open Go
def opsOf:Code→List Oper
 | .region _ ops _=>ops.toList
 | .seq a b=>opsOf a++opsOf b
 | .cond _ a b=>opsOf a++opsOf b
 | .block _ c| .loop c| .scope c=>opsOf c
 | .rangeFunc _ _ a b=>opsOf a++opsOf b
 |_=> []
def Vr(ops:List Oper)(t:Nat):Nat:=match ops.find? (fun o=>o.dst==some t) with
 |some o=>match o.op with
  | .load _ (.tmp x)| .move (.tmp x)=>x
  |_=>t
 |none=>t
def AF(ops:List Oper):Nat→Nat→Nat
 |0,t=>t
 |f+1,t=>match ops.find? (fun o=>o.dst==some t) with
  |some o=>match o.op with
   | .fieldAddr _ (.tmp x) _=>AF ops f x
   | .nilCheck (.tmp x)| .move (.tmp x)=>AF ops f x
   |_=>t
  |none=>t
def RB(ops:List Oper)(c:Code):List Nat:=
 dedup ((opsOf c).flatMap fun o=>match o.op with
  | .store _ (.tmp x) _=> [AF ops 10 x]
  | .mapUpdate _ (.tmp x) _ _=> [Vr ops x]
  | .call {callee:= .value _,args, .. }=>args.toList.filterMap fun x=>match x with| .tmp t=>some (AF ops 10 t)|_=>none
  |_=> [])
def ny:Code→List (Nat×Code)
 | .seq a b=>ny a++ny b
 | .cond _ a b=>ny a++ny b
 | .block _ c| .scope c=>ny c
 | .loop c=>(match fQ c with|some i=> [(i,c)] |none=> [])++ny c
 | .rangeFunc _ _ a b=>(match fQ a with|some i=> [(i, .seq a b)] |none=> [])++ny b
 |_=> []
def Bo(P:Program):Nat→Nat→TypeId→List (Nat×TypeId)
 |0,_,_=> []
 |n+1,off,t=>match P.underlying t with
  |some (.slice e)=> [(off,e)]
  |some (.struct fs)=>fs.toList.flatMap fun f=>Bo P n (off+f.offset) f.type
  |_=> []
def VW(ops:List Oper)(t:Nat):Option TypeId:=match ops.find? (fun o=>o.dst==some t) with
 |some o=>match o.op with
  | .alloc T=>some T
  | .box T _=>some T
  |_=>none
 |none=>none
def RR(P:Program)(ops:List Oper):List (Nat×TypeId):=ops.filterMap fun o=>match o.dst with
 |some t=>match P.underlying o.type with
  |some (.slice e)=>some (t,e)
  |_=>none
 |none=>none
def ac6(P:Program)(all ops:List Oper)(t:Nat):Option TypeId:=ops.findSome? fun o=>match o.op with
 | .call {callee:= .value _,args,argTypes}=>(args.toList.zip argTypes.toList).findSome? fun x=>match x.1 with
  | .tmp t'=>if AF all 10 t'=t then(match P.underlying x.2 with|some (.pointer e)=>some e|_=>none) else none
  |_=>none
 |_=>none
def vw(P:Program)(given:List (Nat×FQ))(c:Option Code):List (Nat×FQ):=
 match c with
 |some c=>((ny c).map fun x=>let g:=(lk given x.1).getD {}
   (x.1,{own:=((RR P (opsOf x.2)).filter fun y=> !g.own.contains (y.1,0))++g.own.filter (fun y=>y.2 !=0),boxes:=(((RB (opsOf c) x.2).filter fun t=> !g.boxes.any fun y=>y.1==t).map fun t=>(t,match (VW (opsOf c) t).orElse (fun _=>ac6 P (opsOf c) (opsOf x.2) t) with|some T=>Bo P 4 0 T|none=> []))++g.boxes,drop:=g.drop}))++given
 |none=>given
def jS(init:List D)(oc:List Ty)(body:List D→(List D→Prop)→Prop):Prop:=
 ∃(I:List D→Prop) (m:List D→Nat),I init∧ ∀xs,bV (.bQ oc) xs→I xs→body xs (fun ys=>I ys∧m ys<m xs)
theorem jS.intro{init:List D}{oc:List Ty}{body:List D→(List D→Prop)→Prop}(I:List D→Prop)(m:List D→Nat)(h0:I init)
  (h: ∀xs,bV (.bQ oc) xs→I xs→body xs (fun ys=>I ys∧m ys<m xs)):jS init oc body:=⟨I,m,h0,h⟩
section
variable{Φ:Nat→List D→D}{Pre:Nat→List D→Prop}{R:D→Prop}{ρ:Nat→D}{dE:List (List D→Prop)}
theorem cO{pc:bI}{e:E}{k:VC}:(VC.iP pc e k).holds Φ Pre R ρ dE=((aq ρ pc=true→(den ρ e).eh=true)∧k.holds Φ Pre R ρ dE):=rfl
theorem cg{p f:Nat}{args:E}{pc:bI}{k:VC}:(VC.call p f args pc k).holds Φ Pre R ρ dE=((aq ρ pc=true→Pre f (den ρ args).ak)∧k.holds Φ Pre R (dp ρ p (Φ f (den ρ args).ak)) dE):=by
 simp only[VC.holds,forall_eq]
theorem cb{pc:bI}{e:E}{b:Nat}{k:VC}:(VC.room pc e b k).holds Φ Pre R ρ dE=((aq ρ pc=true→(den ρ e).ak.length≤maxLen∧(den ρ e).ak.length*b≤140737488355328)∧k.holds Φ Pre R ρ dE):=rfl
theorem bh{e:E}{t f:VC}:(VC.branch e t f).holds Φ Pre R ρ dE=(((den ρ e).eh=true→t.holds Φ Pre R ρ dE)∧((den ρ e).eh=false→f.holds Φ Pre R ρ dE)):=rfl
theorem cd{v0:Nat}{es:List E}{oc:List Ty}{body:VC}:(VC.loop v0 es oc body).holds Φ Pre R ρ dE=jS (es.map (den ρ)) oc (fun xs J=>body.holds Φ Pre R (dI ρ v0 xs) (J::dE)):=rfl
theorem bG{i:Nat}{es:List E}:(VC.again i es).holds Φ Pre R ρ dE=(match dE[i]? with|some J=>J (es.map (den ρ))|none=>False):=rfl
theorem cN{e:E}:(VC.ret e).holds Φ Pre R ρ dE=R (den ρ e):=rfl
end
def Pu(given:List (Nat×FQ))(c:Option Code):List Nat:=
 let l:=((lk given 1000000).getD {}).drop
 let ops:=match c with|some c=>opsOf c|none=> []
 l++(if l.contains 1000000 then ops.filterMap fun o=>match o.op with| .call {callee:= .builtin .append, .. }=>o.dst|_=>none else [])++
  (if l.contains 1000001 then
   let els:=ops.filterMap fun o=>match o.op with| .call {callee:= .builtin .append,args, .. }=>(match args.toList with| [_, .tmp t] =>some t|_=>none)|_=>none
   ops.filterMap fun o=>match o.op with| .buildSlice .. =>(match o.dst with|some d=>if els.contains d then none else some d|none=>none)|_=>none
  else [])
def oz(P:Program)(cs:List (Nat×bS))(given:List (Nat×FQ))(sig:bS)(fn:Func):VC:=
 match fn.body,sig.ob with
 |some c,some ob=>vc ⟨P,⟨cs,Pu given fn.body,0,[],[]⟩,fn.ntmps,vw P given fn.body,[],[],[]⟩ c (fun ex σ _ _=>match ex with| .exit _=> .stuck 20|_=>Ai P sig ob fn σ) (St.mL sig ob) sig.params.length 0
 |_,_=> .stuck 30
theorem bz{P:Program}{f:Nat}{fn:Func}{sig:bS}{ob:Ob}{qH:List D→Prop}{yF:List D→D}{cs:List (Nat×bS)}{Φ:Nat→List D→D}{Pre:Nat→List D→Prop}{given:List (Nat×FQ)}{v:VC}
  (tO:P.follows .mixedOrders=true) (fb:gM P Pre Φ cs) (hf:P.funcs[f]? =some fn) (dw:sig.ob=some ob) (hB:obB fn sig ob=true) (hv:oz P cs given sig fn=v)
  (hc: ∀ds,bV (.bQ sig.params) ds→qH ds→v.holds Φ Pre (fun d=>d=yF ds) (fun i=>ds.getD i .top) []) (TD:Ue cs=true:=by rfl):ax P f sig qH yF:=by
 have Zm:=hB
 unfold obB at Zm
 simp only[aw]at Zm
 obtain⟨c,hb⟩:=Option.isSome_iff_exists.1 Zm.1.1.1.1.1.1.1.1.1.1.1
 refine yi ⟨cs,Pu given fn.body,0,[],[]⟩ Φ Pre (vw P given fn.body) v hf hb tO dw rfl (fun _ _ h=>by cases h) hB TD rfl fb ?_ hc
 unfold oz at hv
 rw[dw,hb]at hv
 rw[hb]
 exact hv
def aa8(P:Program)(cs:List (Nat×bS))(et:List (Nat×AH))(given:List (Nat×FQ))(sig:bS)(fn:Func):VC:=
 match fn.body,sig.ob with
 |some c,some ob=>vc ⟨P,⟨cs,Pu given fn.body,0,[],et⟩,fn.ntmps,vw P given fn.body,[],[],[]⟩ c (fun ex σ _ _=>match ex with| .exit _=> .stuck 20|_=>Ai P sig ob fn σ) (St.mL sig ob) sig.params.length 0
 |_,_=> .stuck 30
theorem HF{P:Program}{f:Nat}{fn:Func}{sig:bS}{ob:Ob}{qH:List D→Prop}{yF:List D→D}{cs:List (Nat×bS)}{et:List (Nat×AH)}{Φ:Nat→List D→D}{Pre:Nat→List D→Prop}{given:List (Nat×FQ)}{v:VC}
  (tO:P.follows .mixedOrders=true) (fb:gM P Pre Φ cs) (OD: ∀k sg,lk et k=some sg→ ∃sF t,sg.nn=some (sF,t)∧UG P k sF (Pre k) (Φ k)) (hf:P.funcs[f]? =some fn) (dw:sig.ob=some ob) (hB:obB fn sig ob=true) (hv:aa8 P cs et given sig fn=v)
  (hc: ∀ds,bV (.bQ sig.params) ds→qH ds→v.holds Φ Pre (fun d=>d=yF ds) (fun i=>ds.getD i .top) []) (TD:Ue cs=true:=by rfl):ax P f sig qH yF:=by
 have Zm:=hB
 unfold obB at Zm
 simp only[aw]at Zm
 obtain⟨c,hb⟩:=Option.isSome_iff_exists.1 Zm.1.1.1.1.1.1.1.1.1.1.1
 refine yi ⟨cs,Pu given fn.body,0,[],et⟩ Φ Pre (vw P given fn.body) v hf hb tO dw rfl OD hB TD rfl fb ?_ hc
 unfold aa8 at hv
 rw[dw,hb]at hv
 rw[hb]
 exact hv
def Ps(P:Program)(cs:List (Nat×bS))(given:List (Nat×FQ))(sig:bS)(fn:Func):VC:=fvc P ⟨cs,Pu given fn.body,0,[],[]⟩ (vw P given fn.body) sig fn
theorem aH{P:Program}{f:Nat}{fn:Func}{sig:bS}{qH:List D→Prop}{yF:List D→D}{cs:List (Nat×bS)}{Φ:Nat→List D→D}{Pre:Nat→List D→Prop}{given:List (Nat×FQ)}{v:VC}
  (tO:P.follows .mixedOrders=true) (fb:gM P Pre Φ cs) (hf:P.funcs[f]? =some fn) (hB:fnB fn sig=true) (hv:Ps P cs given sig fn=v)
  (hc: ∀ds,bV (.bQ sig.params) ds→qH ds→v.holds Φ Pre (fun d=>d=yF ds) (fun i=>ds.getD i .top) []) (nK:Uf sig.res=true:=by rfl):ax P f sig qH yF:=
 Nl tO fb (by simp[frB,nK]) hf hB hv ⟨rfl,rfl⟩ hc
def vr(a n:Nat):List E:=(List.range n).map fun i=> .var (a+i)
def cr(j n:Nat)(e:E):List E:=(List.range n).map fun i=> .un (.cell (j+i)) e
def rp(n:Nat)(e:E):List E:=List.replicate n e
def fl:List (List E)→List E
 | [] => []
 |l::r=>l++fl r
end Go.bZ
namespace Go.bZ
open Go Go.RowKit
theorem tS.rep{w:World}{S:aO}{T:TypeId}{t:Ty}{v:Value}{d:D}(h:tS false w 0 S T t v d):bj w S v d:=by
 have:=tS.ok (C:=⟨fun _=>d,1,fun _=>True⟩) (G:=⟨S,fun _=>0,fun _=>v⟩) (g:=(0,0)) (e:= .var 0) h trivial rfl rfl rfl rfl
 exact this.rep h.sz
section
variable{Φ:Nat→List D→D}{Pre:Nat→List D→Prop}{R:D→Prop}{ρ:Nat→D}{dE:List (List D→Prop)}
theorem cQ{p:Nat}{t:Ty}{k:VC}:(VC.any p t k).holds Φ Pre R ρ dE= ∀d,Has t d→k.holds Φ Pre R (dp ρ p d) dE:=rfl
theorem cP{p:Nat}{fs:List (E×E)}{k:VC}:(VC.hav p fs k).holds Φ Pre R ρ dE= ∀d,(∀x∈fs,(den (dp ρ p d) x.1).ak.length=(den (dp ρ p d) x.2).ak.length)→k.holds Φ Pre R (dp ρ p d) dE:=rfl
end
def fy(fn:Func):Code:=match fn.body with
 |some c=>c
 |none=> .skip
section
variable{P:Program}{a:Act}{w:World}{dst:Option Nat}{ty:TypeId}{pos:String}{af:Array Edge}{gd:Option (Nat×Bool)}
theorem Lv(a:Act)(d t:Nat)(v:Value):(a.put (some d) v).tmps[t]? =if d=t then(if d<a.tmps.size then some v else none) else a.tmps[t]? :=by
 simp only[Act.put,Array.getElem?_setIfInBounds]
theorem RM{a:Act}{d n:Nat}{v:Value}(h:a.tmps.size=n)(hd:d<n):(a.put (some d) v).tmps[d]? =some v:=by rw[Lv,if_pos rfl,if_pos (by omega)]
theorem Nk{a:Act}{d t:Nat}{v:Value}(h:d≠t):(a.put (some d) v).tmps[t]? =a.tmps[t]? :=by rw[Lv,if_neg h]
theorem Sq{a:Act}{t:Nat}{v:Value}(h:a.tmps[t]? =some v):a.eval (.tmp t)=v:=by simp[Act.eval,h]
theorem BO{t:TypeId}{f off b o:Nat}{x:Operand}(h:(kQ P t f).map (fun y=>(y.1.offset,decide (0<y.2)))=some (off,true))(hx:a.eval x= .pointer (some ⟨b,o,none⟩)):
  (execOp a.eval ⟨dst, .fieldAddr t x f,ty,pos,af,gd⟩).run P w= .ok (.value (.pointer (some ⟨b,o+off,none⟩))) w:=by
 cases hf:kQ P t f with
 |none=>rw[hf]at h;cases h
 |some y=>
  obtain⟨fl,n⟩:=y
  rw[hf]at h
  simp only[Option.map_some,Option.some.injEq,Prod.mk.injEq,aN]at h
  obtain⟨rfl,hn⟩:=h
  obtain⟨n,rfl⟩: ∃m,n=m+1:=⟨n-1,by omega⟩
  unfold execOp;simp only[hx]
  rw[Sem.run_bind,jz hf b o];rfl
theorem Ku{t:TypeId}{x:Operand}{ad:Addr}{v:Value}(ha:fY P t=false)(hu:(P.underlying t).isSome=true)(hx:a.eval x= .pointer (some ad))(hc:w.cell? ad=some v):
  (execOp a.eval ⟨dst, .load t x,ty,pos,af,gd⟩).run P w= .ok (.value v) w:=by
 unfold execOp;simp only[hx]
 rw[Sem.run_bind,l5 ha hu hc];rfl
theorem Kt{t:TypeId}{x:Operand}{b off n:Nat}{vs:List Value}(hs:fG P t=some n)(ha:fY P t=true)(hx:a.eval x= .pointer (some ⟨b,off,none⟩))(hl:vs.length=n)
  (hc: ∀(j:Nat) v,vs[j]? =some v→w.cell? ⟨b,off+j,none⟩=some v):
  (execOp a.eval ⟨dst, .load t x,ty,pos,af,gd⟩).run P w= .ok (.value (.agg vs.toArray)) w:=by
 unfold execOp;simp only[hx]
 rw[Sem.run_bind,iz hs ha hl hc];rfl
theorem NO{x:Operand}:(execOp a.eval ⟨dst, .move x,ty,pos,af,gd⟩).run P w= .ok (.value (a.eval x)) w:=by unfold execOp;rfl
theorem HP{x:Operand}:(execOp a.eval ⟨dst, .assign x,ty,pos,af,gd⟩).run P w= .ok (.value (a.eval x)) w:=by unfold execOp;rfl
theorem Ks{t:TypeId}{x y:Operand}{b off:Nat}{cur:Array Value}{T:TypeId}{vs:List Value}(hs:fG P t=some vs.length)(hx:a.eval x= .pointer (some ⟨b,off,none⟩))(hy:(a.eval y).cells=vs.toArray)
  (iS:w.heap[b]? =some (.cells cur T (0,0))) (hlen:off+vs.length≤cur.size) (fX: ∀v∈vs,v.oneCell'=true):
  (execOp a.eval ⟨dst, .store t x y,ty,pos,af,gd⟩).run P w= .ok .skip (w.setRow b (cur.toList.take off++vs++cur.toList.drop (off+vs.length)).toArray):=by
 have mj:=run_storeCells_at P b off T vs 0 cur w iS (by omega) fX
 simp only[Nat.add_zero]at mj
 have h1:=fc (P:=P) (w:=w) hs
 unfold execOp;simp only[hx,Instr.storeAt,Instr.sureAddr]
 simp[storeVar,h1,hy]
 simp at mj
 rw[mj];rfl
theorem Sp{t t2:TypeId}{x y:Operand}{k:IntKind}{m n:Int}(hx:a.eval x= .int k m)(hy:a.eval y= .int k n):(execOp a.eval ⟨dst, .binOp .add t x y t2,ty,pos,af,gd⟩).run P w= .ok (.value (.int k (k.wrap (m+n)))) w:=by
 unfold execOp;simp[hx,hy,eqGuard,binOp,Op.intArith]
theorem Sn{t el:TypeId}{x:Operand}{A:Option Addr}{n c:Nat}(hu:P.underlying t=some (.slice el))(hx:a.eval x= .slice A n c):(execOp a.eval ⟨dst, .call {callee:= .builtin .len,args:= #[x],argTypes:= #[t]},ty,pos,af,gd⟩).run P w= .ok (.value (.int .i64 n)) w:=by
 unfold execOp;simp only[resolve,invoke,builtin]
 simp[Builtin.len_,hx,run_underlying hu,goInt]
theorem Kv{t:TypeId}{n:Nat}(h:((P.info? t).bind (·.zero)).map (fun z=>z.cells.size)=some n):
  ∃zs:Array Value,zs.size=n∧(execOp a.eval ⟨dst, .alloc t,ty,pos,af,gd⟩).run P w= .ok (.value (.pointer (some ⟨w.heap.size,0,none⟩))) (w.alloc (.cells zs t)):=by
 cases hi:P.info? t with
 |none=>rw[hi]at h;cases h
 |some it=>
  cases hz:it.zero with
  |none=>rw[hi]at h;simp[hz]at h
  |some z=>
   rw[hi]at h
   simp[hz]at h
   refine⟨z.cells,h,?_⟩
   unfold execOp;simp only[Instr.alloc]
   simp[zeroValue,typeInfo,hi,hz,newVar,newRow]
theorem Sm{t:TypeId}{x:Operand}{b:Bool}(hx:a.eval x= .bool b):(execOp a.eval ⟨dst, .unOp .not t x,ty,pos,af,gd⟩).run P w= .ok (.value (.bool (!b))) w:=by
 unfold execOp;simp[hx,Op.unary]
theorem NP{k:Nat}{args:Array Operand}{ts:Array TypeId}{vs:List Value}(he: ∀(args:Array Value) (w:World),(callFunc k args).run P w= .ok (.enter k args) w)(hv:args.map a.eval=vs.toArray):
  (execOp a.eval ⟨dst, .call {callee:= .value (.func k),args,argTypes:=ts},ty,pos,af,gd⟩).run P w= .ok (.enter k vs.toArray) w:=by
 unfold execOp
 have:=he vs.toArray w
 simpa [resolve,Act.eval,Deferred.ofValue,invoke,hv]using this
variable{ops:Array Oper}{Q:Exit→Act→World→Prop}{rest:List Nat}{i:Nat}{o:Oper}
variable{S:World→Prop}{fuel:Nat}{aP:Array Bool}
end
def Aj(id:Nat):Code→Array Oper
 | .region i ops _=>if i=id then ops else #[]
 | .seq a b| .cond _ a b=>if(Aj id a).size=0 then Aj id b else Aj id a
 | .block _ c| .loop c| .scope c=>Aj id c
 |_=> #[]
theorem Bp{l:List Value}{off:Nat}{v:Value}(h:off<l.length):l.take off++[v] ++l.drop (off+1)=l.set off v:=by
 rw[List.set_eq_take_append_cons_drop,if_pos h];simp
section
variable{P:Program}{ops:Array Oper}{Q:Exit→Act→World→Prop}{S:World→Prop}
def po(P:Program)(ops:Array Oper)(Q:Exit→Act→World→Prop)(S:World→Prop)(L:Nat):Nat→Array Bool→Act→World→Prop
 |0,aP,a,w=>Region.ready .any ops aP=[] ∧Q .normal a w
 |fuel+1,aP,a,w=>
  (Region.ready .any ops aP=[] →Q .normal a w)∧
  ∀i∈Region.ready .any ops aP,wpOp P ops Q i (fun a' w'=>(i≠L→S w')∧po P ops Q S L fuel (aP.setIfInBounds i true) a' w') a w
theorem pF{L:Nat}: ∀(fuel:Nat) (aP:Array Bool) (a:Act) (w:World),po P ops Q S L fuel aP a w→wpAny P .any ops Q fuel aP a w
 |0,_,_,_,h=>h
 |fuel+1,_,_,_,h=>⟨h.1,fun i hi=>wpOp_mono (fun a' w' h'=>pF fuel _ a' w' h'.2) (h.2 i hi)⟩
theorem vS{L i:Nat}{oi:Oper}{v:Value}(hi:ops[i]? =some oi)(hiL:i≠L)(hL: ∀oL,ops[L]? =some oL→ ∃e∈oL.after,Region.binds .any e=true∧e.on=i)(Pa: ∀(j:Nat) (o:Oper) cs b,ops[j]? =some o→o.op≠ .select cs b)
  (hQ: ∀c a w,Q (.panic c) (a.put oi.dst v) w→Q (.panic c) a w):
  ∀(fuel:Nat) (aP:Array Bool) (a:Act) (w:World),
   (∀j oj,ops[j]? =some oj→j≠i→aP.getD j true=false→(∀e∈oj.after,Region.binds .any e=true→e.on≠i)→oi.apart ops oj=true)→
   i∈Region.ready .any ops aP→YieldsIf P ops S oi v a→S w→
   po P ops Q S L fuel (aP.setIfInBounds i true) (a.put oi.dst v) w→po P ops Q S L (fuel+1) aP a w:=by
 intro fuel
 induction fuel with
 |zero=>
  intro aP a w _ hr hy hS H
  refine⟨fun h=>(by rw[h]at hr;cases hr),fun j hj=> ?_⟩
  by_cases CP:j=i
  ·subst CP;exact hy.wpOp hi hS ⟨fun _=>hS,H⟩
  ·have:=ready_mono hj CP
   rw[H.1]at this
   cases this
 |succ fuel ih=>
  intro aP a w qL hr hy hS H
  refine⟨fun h=>(by rw[h]at hr;cases hr),fun j hj=> ?_⟩
  by_cases CP:j=i
  ·subst CP;exact hy.wpOp hi hS ⟨fun _=>hS,H⟩
  ·have h1:=H.2 j (ready_mono hj CP)
   obtain⟨Pk,oj,wG,eI⟩:=mem_ready.1 hj
   have kZ: ∀e∈oj.after,Region.binds .any e=true→e.on≠i:=fun e he hb heq=>by
    have h1:=eI e he hb
    have h0:=(mem_ready.1 hr).1
    rw[heq]at h1
    rcases Nat.lt_or_ge i aP.size with h'|h'
    ·simp[h']at h0 h1;rw[h0]at h1;cases h1
    ·simp[Array.getElem?_eq_none h']at h1
   have hjL:j≠L:=by
    rintro rfl
    obtain⟨e,he,hb,TA⟩:=hL oj wG
    exact kZ e he hb TA
   have h2:=wpOp_putIf wG (qL j oj wG CP Pk kZ) (fun cs b=>Pa i oi cs b hi) (fun cs b=>Pa j oj cs b wG) hQ hy h1
   have JB: ∀k ok,ops[k]? =some ok→k≠i→(aP.setIfInBounds j true).getD k true=false→
     (∀e∈ok.after,Region.binds .any e=true→e.on≠i)→oi.apart ops ok=true:=fun k ok hk hki hun qe=>by
    refine qL k ok hk hki ?_ qe
    by_cases KH:j=k
    ·subst KH;exact Pk
    ·rw[getD_set_ne true KH]at hun;exact hun
   refine wpOp_mono (fun a' w' h3=>⟨fun dH=>h3.2.1 dH,ih (aP.setIfInBounds j true) a' w' JB (ready_mono hr (Ne.symm CP)) h3.1 (h3.2.1 hjL) ?_⟩) h2
   rw[Array.setIfInBounds_comm _ _ CP]
   exact h3.2.2
def mG(P:Program)(ops:Array Oper)(Q:Exit→Act→World→Prop)(S:World→Prop)(n0:Nat):Nat→Nat→Act→World→Prop
 |0,_,a,w=>Q .normal a w
 |f+1,i,a,w=>match ops[i]? with
  |none=>False
  |some o=>if i<n0 then S w∧ ∃v,YieldsIf P ops S o v a∧mG P ops Q S n0 f (i+1) (a.put o.dst v) w
   else wpOp P ops Q i (fun a' w'=>(f≠0→S w')∧mG P ops Q S n0 f (i+1) a' w') a w
def eT(n i:Nat):Array Bool:=((List.range n).map fun j=>decide (j<i)).toArray
def tOk(ops:Array Oper)(n0:Nat):Bool:=
 decide (n0≤ops.size)&&Region.noSelect ops&&(List.range ops.size).all fun i=>
  if i<n0 then Region.free .any ops (eT ops.size i) i&&(Region.ready .any ops (eT ops.size i)).contains i&&
   (decide (n0=ops.size)||match ops[ops.size-1]? with|some oL=>oL.after.toList.any fun e=>Region.binds .any e&&e.on==i|none=>false)
  else Region.ready .any ops (eT ops.size i)==[i]
theorem pJ{n i:Nat}(hi:i<n):(eT n i).setIfInBounds i true=eT n (i+1):=by
 apply Array.ext
 ·simp[eT]
 ·intro j h1 h2
  simp only[eT,Array.size_setIfInBounds,List.size_toArray,List.length_map,List.length_range]at h1
  rw[Array.getElem_setIfInBounds (by simpa [eT]using h1)]
  by_cases B8:i=j
  ·subst B8;simp[eT]
  ·rw[if_neg B8]
   simp only[eT,List.getElem_toArray,List.getElem_map,List.getElem_range]
   congr 1
   exact propext ⟨fun h=>by omega,fun h=>by omega⟩
theorem yq(n:Nat):Array.replicate n false=eT n 0:=by
 apply Array.ext
 ·simp[eT]
 ·intro j h1 h2;simp[eT]
theorem AK{n0:Nat}(bM:tOk ops n0=true)(hQ: ∀c a d v w,Q (.panic c) (a.put d v) w→Q (.panic c) a w):
  ∀(f i:Nat) (a:Act) (w:World),i+f=ops.size→mG P ops Q S n0 f i a w→po P ops Q S (if n0=ops.size then ops.size else ops.size-1) f (eT ops.size i) a w
 |0,i,a,w,hif,h=>by
  refine⟨?_,h⟩
  have:i=ops.size:=by omega
  subst this
  rw[List.eq_nil_iff_forall_not_mem]
  intro j hj
  obtain⟨h0,oj,wG,_⟩:=mem_ready.1 hj
  have jh:j<ops.size:=(Array.getElem?_eq_some_iff.1 wG).1
  simp[eT,jh]at h0
 |f+1,i,a,w,hif,h=>by
  have qD:=bM
  unfold tOk at bM
  simp only[aw,aN,aV,List.mem_range]at bM
  obtain⟨⟨Od,DQ⟩,eI⟩:=bM
  have hi:i<ops.size:=by omega
  have hc:=eI i hi
  unfold mG at h
  have ho:ops[i]? =some ops[i] :=Array.getElem?_eq_getElem hi
  rw[ho]at h
  simp only at h
  by_cases aL:i<n0
  ·rw[if_pos aL]at h hc
   obtain⟨hS,v,hy,hr⟩:=h
   simp only[aw]at hc
   obtain⟨⟨qL,qU⟩,kZ⟩:=hc
   refine vS ho (by split<;>omega) ?_ (Region.noSelect_spec DQ) (fun c a w=>hQ c a _ _ w) f (eT ops.size i) a w (Region.free_spec ho qL) (by simpa using qU) hy hS ?_
   ·intro oL TB
    by_cases hz:n0=ops.size
    ·rw[if_pos hz]at TB
     simp at TB
    ·rw[if_neg hz]at TB
     rw[TB]at kZ
     simp only[Bool.or_eq_true,aN,List.any_eq_true,aw,beq_iff_eq]at kZ
     obtain⟨e,he,hb,TA⟩:=kZ.resolve_left hz
     exact⟨e,by simpa using he,hb,TA⟩
   ·rw[pJ hi]
    exact AK qD hQ f (i+1) _ w (by omega) hr
  ·rw[if_neg aL]at h hc
   have hr:Region.ready .any ops (eT ops.size i)=[i] :=by simpa using hc
   refine⟨fun h0=>(by rw[hr]at h0;cases h0),fun j hj=> ?_⟩
   rw[hr,List.mem_singleton]at hj
   subst hj
   refine wpOp_mono (fun a' w' h'=>⟨fun dH=>h'.1 (by split at dH<;>omega),?_⟩) h
   rw[pJ hi]
   exact AK qD hQ f (j+1) a' w' (by omega) h'.2
theorem AI{n0:Nat}: ∀(f i:Nat) (a:Act) (w:World),i+f=ops.size→mG P ops Q S n0 f i a w→wpOps P ops Q (List.range' i f) a w
 |0,i,a,w,_,h=>h
 |f+1,i,a,w,hif,h=>by
  have hi:i<ops.size:=by omega
  have ho:ops[i]? =some ops[i] :=Array.getElem?_eq_getElem hi
  unfold mG at h
  rw[ho]at h
  simp only at h
  rw[List.range'_succ]
  have key:wpOp P ops Q i (fun a' w'=>wpOps P ops Q (List.range' (i+1) f) a' w') a w:=by
   by_cases aL:i<n0
   ·rw[if_pos aL]at h
    obtain⟨hS,v,hy,hr⟩:=h
    exact hy.wpOp ho hS (AI f (i+1) _ w (by omega) hr)
   ·rw[if_neg aL]at h
    exact wpOp_mono (fun a' w' h'=>AI f (i+1) a' w' (by omega) h'.2) h
  rw[wpOps_cons]
  exact key
end
structure DV(w w':World):Prop where
 heap:w'.heap=w.heap
 os:w'.os=w.os
 tape:w'.tape=w.tape
 output:w'.output=w.output
theorem DV.refl(w:World):DV w w:=⟨rfl,rfl,rfl,rfl⟩
theorem DV.drew(w:World):DV w {w with drawn:=w.drawn+1}:=⟨rfl,rfl,rfl,rfl⟩
theorem DV.cell{w w':World}(h:DV w w')(ad:Addr):w'.cell? ad=w.cell? ad:=by simp only[World.cell?,h.heap]
def SX(X:Nat→Prop)(w w':World):Prop:=w.heap.size≤w'.heap.size∧ ∀b,b<w.heap.size→ ¬X b→w'.heap[b]? =w.heap[b]?
theorem SX.refl(X:Nat→Prop)(w:World):SX X w w:=⟨Nat.le_refl _,fun _ _ _=>rfl⟩
def QP(Q:Exit→Act→World→Prop):Prop:= ∀c a d v w,Q (.panic c) (a.put d v) w→Q (.panic c) a w
def ae(_:Nat):Prop:=False
def Kn(n:Nat)(a:Act)(m:List (Nat×Value)):Prop:=a.tmps.size=n∧a.defers=[] ∧ ∀t v,lk m t=some v→a.tmps[t]? =some v
def Pz(m:List (Nat×Value)):List (Nat×Value)→Prop
 | [] =>True
 |p::r=>lk m p.1=some p.2∧Pz m r
theorem Pz.get{m:List (Nat×Value)}: ∀{l:List (Nat×Value)},Pz m l→ ∀p∈l,lk m p.1=some p.2
 | [],_,p,hp=>by cases hp
 |q::r,h,p,hp=>by
  rcases List.mem_cons.1 hp with rfl|hp
  ·exact h.1
  ·exact Pz.get h.2 p hp
theorem Kn.put{n:Nat}{a:Act}{m:List (Nat×Value)}(h:Kn n a m)(d:Nat)(v:Value)(hd:d<n):Kn n (a.put (some d) v) ((d,v)::m):=by
 refine⟨by simp[Act.put,h.1],h.2.1,fun t u ht=> ?_⟩
 simp only[lk]at ht
 split at ht
 ·rename_i he
  injection ht with ht;subst ht
  have:d=t:=(by simpa using he:t=d).symm
  subst this
  exact RM h.1 hd
 ·rename_i he
  rw[Nk (fun e=>he (by simp[e]))]
  exact h.2.2 t u ht
theorem Kn.sub{n:Nat}{a:Act}{m l:List (Nat×Value)}(h:Kn n a m)(hl:Pz m l):Kn n a l:=
 ⟨h.1,h.2.1,fun t v ht=>h.2.2 t v (hl.get (t,v) (fF ht))⟩
def lB(m:List (Nat×Value)):Operand→Option Value
 | .tmp t=>lk m t
 | .const v=>some v
 | .global g=>some (.pointer (some ⟨g,0,none⟩))
 | .func f=>some (.func (.func f) #[] #[])
theorem Kn.op{n:Nat}{a:Act}{m:List (Nat×Value)}(h:Kn n a m){x:Operand}{v:Value}(hx:lB m x=some v):a.eval x=v:=by
 cases x with
 |tmp t=>exact Sq (h.2.2 t v hx)
 |const u=>injection hx with hx
 |global g=>injection hx with hx
 |func f=>injection hx with hx
abbrev OK:=Option Nat×Op×Option (Nat×Bool)
def SI(o:Oper):OK:=(o.dst,o.op,o.guard)
def aZ(ops:Array Oper):List OK:=ops.toList.map SI
def pU(L:List OK)(m:List (Nat×Value)):Option (Nat×Bool)→Option Bool
 |none=>some true
 |some (j,b)=>match (L[j]?).bind (·.1) with
  |some t=>match lk m t with
   |some (.bool c)=>some (c==b)
   |_=>none
  |none=>none
theorem Kn.gd{n:Nat}{a:Act}{m:List (Nat×Value)}{ops:Array Oper}{o:Oper}{b:Bool}(h:Kn n a m)(hg:pU (aZ ops) m o.guard=some b):Region.wanted o (yielded ops a.tmps)=b:=by
 unfold Region.wanted
 cases DS:o.guard with
 |none=>rw[DS]at hg;injection hg
 |some jb=>
  obtain⟨j,bb⟩:=jb
  rw[DS]at hg
  simp only[pU]at hg
  have hj:((aZ ops)[j]?).bind (·.1)=(ops[j]?).bind (·.dst):=by
   unfold aZ
   rw[List.getElem?_map]
   cases ho:ops[j]? with
   |none=>simp[ho]
   |some o=>simp[ho,SI]
  rw[hj]at hg
  cases ho:(ops[j]?).bind (·.dst) with
  |none=>rw[ho]at hg;cases hg
  |some t=>
   rw[ho]at hg
   simp only at hg
   split at hg
   ·rename_i c hc
    injection hg with hg
    have:=h.2.2 t _ hc
    simp only[yielded,ho,Option.bind_some,this]
    rw[←hg]
    cases c<;>cases bb<;>rfl
   ·cases hg
section
variable{P:Program}{ops:Array Oper}{Q:Exit→Act→World→Prop}{S:World→Prop}{n n0 i d:Nat}{a:Act}{w:World}{m:List (Nat×Value)}{gd:Option (Nat×Bool)}{L r:List OK}
def TL(P:Program)(ops:Array Oper)(Q:Exit→Act→World→Prop)(S:World→Prop)(n0:Nat)(L r:List OK)(i:Nat)(a:Act)(w:World):Prop:=aZ ops=L→L.drop i=r→mG P ops Q S n0 r.length i a w
theorem jJ{id:Nat}{draw:Bool}(n0:Nat)(X:Nat→Prop)(hm:P.follows .mixedOrders=true)(hQ:QP Q)(hl:aZ ops=L)(hd:draw=true→tOk ops n0=true)(h: ∀w1,DV w w1→TL P ops Q (SX X w1) n0 L L 0 a w1):(Code.region id ops draw).wp P Q a w:=by
 have hlen:L.length=ops.size:=by rw[←hl];simp[aZ]
 cases draw with
 |true=>
  refine wp_region_any hm ?_
  have h1:=AK (hd rfl) hQ ops.size 0 a _ (by omega) (hlen▸h _ (DV.drew w) hl rfl)
  rw[←yq]at h1
  exact pF _ _ _ _ h1
 |false=>
  refine wp_region ?_
  rw[List.range_eq_range']
  exact AI ops.size 0 a w (by omega) (hlen▸h w (DV.refl w) hl rfl)
theorem rI{x:OK}(hl:aZ ops=L)(hr:L.drop i=x::r):(∃o,ops[i]? =some o∧SI o=x)∧L.drop (i+1)=r:=by
 have h1:L[i]? =some x:=by
  have:=congrArg (fun l=>l[0]?) hr
  simpa using this
 refine⟨?_,?_⟩
 ·rw[←hl]at h1
  unfold aZ at h1
  rw[List.getElem?_map,br]at h1
  obtain⟨o,ho,hx⟩:=h1
  exact⟨o,by simpa using ho,hx⟩
 ·have:=congrArg (List.drop 1) hr
  simpa using this
theorem ar(h:Q .normal a w):TL P ops Q S n0 L [] i a w:=fun _ _=>h
theorem qg{op:Op}{v:Value}(k:Kn n a m)(hS:S w)(hg:pU L m gd=some true)(hd:d<n)
  (he: ∀ty pos af w',S w'→(execOp a.eval ⟨some d,op,ty,pos,af,gd⟩).run P w'= .ok (.value v) w') (h: ∀a',Kn n a' ((d,v)::m)→TL P ops Q S n0 L r (i+1) a' w):TL P ops Q S n0 L ((some d,op,gd)::r) i a w:=by
 intro hl hr
 obtain⟨⟨o,ho,hx⟩,lC⟩:=rI hl hr
 obtain⟨dst,SJ,ty,pos,af,Tg⟩:=o
 simp only[SI,Prod.mk.injEq]at hx
 obtain⟨rfl,rfl,rfl⟩:=hx
 have hw:=k.gd (ops:=ops) (o:=⟨some d,SJ,ty,pos,af,Tg⟩) (by rw[hl];exact hg)
 show mG P ops Q S n0 (r.length+1) i a w
 unfold mG
 rw[ho]
 simp only
 by_cases hi:i<n0
 ·rw[if_pos hi]
  exact⟨hS,v, .inl ⟨hw,he ty pos af⟩,h _ (k.put d v hd) hl lC⟩
 ·rw[if_neg hi]
  exact(YieldsIf.wpOp (S:=S) ho (.inl ⟨hw,he ty pos af⟩) hS ⟨fun _=>hS,h _ (k.put d v hd) hl lC⟩)
theorem apB{op:Op}(k:Kn n a m)(hS:S w)(hg:pU L m gd=some false)(hd:d<n)
  (h: ∀a',Kn n a' ((d,undef)::m)→TL P ops Q S n0 L r (i+1) a' w):TL P ops Q S n0 L ((some d,op,gd)::r) i a w:=by
 intro hl hr
 obtain⟨⟨o,ho,hx⟩,lC⟩:=rI hl hr
 obtain⟨dst,SJ,ty,pos,af,Tg⟩:=o
 simp only[SI,Prod.mk.injEq]at hx
 obtain⟨rfl,rfl,rfl⟩:=hx
 have hw:=k.gd (ops:=ops) (o:=⟨some d,SJ,ty,pos,af,Tg⟩) (by rw[hl];exact hg)
 show mG P ops Q S n0 (r.length+1) i a w
 unfold mG
 rw[ho]
 simp only
 by_cases hi:i<n0
 ·rw[if_pos hi]
  exact⟨hS,undef, .inr ⟨hw,rfl⟩,h _ (k.put d undef hd) hl lC⟩
 ·rw[if_neg hi]
  exact(YieldsIf.wpOp (S:=S) ho (.inr ⟨hw,rfl⟩) hS ⟨fun _=>hS,h _ (k.put d undef hd) hl lC⟩)
theorem uG{op:Op}(k:Kn n a m)(hi:n0≤i)(hg:pU L m gd=some true)(hd:d<n)
  (he: ∀ty pos af,∃v w',(execOp a.eval ⟨some d,op,ty,pos,af,gd⟩).run P w= .ok (.value v) w'∧(r≠ [] →S w')∧ ∀a',Kn n a' ((d,v)::m)→TL P ops Q S n0 L r (i+1) a' w'):TL P ops Q S n0 L ((some d,op,gd)::r) i a w:=by
 intro hl hr
 obtain⟨⟨o,ho,hx⟩,lC⟩:=rI hl hr
 obtain⟨dst,SJ,ty,pos,af,Tg⟩:=o
 simp only[SI,Prod.mk.injEq]at hx
 obtain⟨rfl,rfl,rfl⟩:=hx
 have hw:=k.gd (ops:=ops) (o:=⟨some d,SJ,ty,pos,af,Tg⟩) (by rw[hl];exact hg)
 obtain⟨v,w',h1,h2,h3⟩:=he ty pos af
 show mG P ops Q S n0 (r.length+1) i a w
 unfold mG
 rw[ho]
 simp only
 rw[if_neg (by omega)]
 unfold wpOp
 rw[ho]
 simp only
 rw[if_pos hw]
 refine .inl ?_
 rw[Oper.wp,h1]
 exact⟨fun hf=>h2 (fun e=>hf (by rw[e];rfl)),h3 _ (k.put d v hd) hl lC⟩
theorem apC{op:Op}{w':World}(k:Kn n a m)(hi:n0≤i)(hg:pU L m gd=some true)
  (he: ∀ty pos af,(execOp a.eval ⟨none,op,ty,pos,af,gd⟩).run P w= .ok .skip w') (hS:r≠ [] →S w') (h: ∀a',Kn n a' m→TL P ops Q S n0 L r (i+1) a' w'):TL P ops Q S n0 L ((none,op,gd)::r) i a w:=by
 intro hl hr
 obtain⟨⟨o,ho,hx⟩,lC⟩:=rI hl hr
 obtain⟨dst,SJ,ty,pos,af,Tg⟩:=o
 simp only[SI,Prod.mk.injEq]at hx
 obtain⟨rfl,rfl,rfl⟩:=hx
 have hw:=k.gd (ops:=ops) (o:=⟨none,SJ,ty,pos,af,Tg⟩) (by rw[hl];exact hg)
 show mG P ops Q S n0 (r.length+1) i a w
 unfold mG
 rw[ho]
 simp only
 rw[if_neg (by omega)]
 unfold wpOp
 rw[ho]
 simp only
 rw[if_pos hw]
 refine .inl ?_
 rw[Oper.wp,he ty pos af]
 exact⟨fun hf=>hS (fun e=>hf (by rw[e];rfl)),h _ k hl lC⟩
theorem gU{kf:Nat}{args:Array Operand}{ts:Array TypeId}{vs:List Value}{R:Ending→World→Prop}(k:Kn n a m)(hi:n0≤i)(hg:pU L m gd=some true)(hd:d<n)
  (hen: ∀(args:Array Value) (w:World),(callFunc kf args).run P w= .ok (.enter kf args) w) (hv:args.toList.map (lB m)=vs.map some) (hc:Calls P kf vs.toArray w R)
  (h: ∀e w',R e w'→ ∃v,e= .returned v∧(r≠ [] →S w')∧ ∀a',Kn n a' ((d,v)::m)→TL P ops Q S n0 L r (i+1) a' w'):TL P ops Q S n0 L ((some d, .call {callee:= .value (.func kf),args:=args,argTypes:=ts},gd)::r) i a w:=by
 intro hl hr
 obtain⟨⟨o,ho,hx⟩,lC⟩:=rI hl hr
 obtain⟨dst,SJ,ty,pos,af,Tg⟩:=o
 simp only[SI,Prod.mk.injEq]at hx
 obtain⟨rfl,rfl,rfl⟩:=hx
 have hw:=k.gd (ops:=ops) (o:=⟨some d, .call {callee:= .value (.func kf),args:=args,argTypes:=ts},ty,pos,af,Tg⟩) (by rw[hl];exact hg)
 have yU:args.map a.eval=vs.toArray:=by
  apply Array.ext'
  rw[Array.toList_map]
  have key: ∀(l:List Operand) (us:List Value),l.map (lB m)=us.map some→l.map a.eval=us:=by
   intro l
   induction l with
   |nil=>intro us h;cases us with|nil=>rfl|cons=>cases h
   |cons x l ih=>
    intro us h
    cases us with
    |nil=>cases h
    |cons u us=>
     simp only[List.map_cons,List.cons.injEq]at h
     rw[List.map_cons,k.op h.1,ih us h.2]
  simpa using key args.toList vs hv
 show mG P ops Q S n0 (r.length+1) i a w
 unfold mG
 rw[ho]
 simp only
 rw[if_neg (by omega)]
 unfold wpOp
 rw[ho]
 simp only
 rw[if_pos hw]
 refine .inl ?_
 rw[Oper.wp,NP hen yU]
 refine hc.mono fun e w' he=> ?_
 obtain⟨v,rfl,hs,h2⟩:=h e w' he
 exact⟨fun hf=>hs (fun e=>hf (by rw[e];rfl)),h2 _ (k.put d v hd) hl lC⟩
variable{x y z:Operand}{t t2:TypeId}{v u:Value}
theorem UN(k:Kn n a m)(hS:S w)(hg:pU L m gd=some true)(hd:d<n)(hx:lB m x=some v)
  (h: ∀a',Kn n a' ((d,v)::m)→TL P ops Q S n0 L r (i+1) a' w):TL P ops Q S n0 L ((some d, .move x,gd)::r) i a w:=
 qg k hS hg hd (fun _ _ _ w' _=>by rw[NO,k.op hx]) h
theorem MW(k:Kn n a m)(hS:S w)(hg:pU L m gd=some true)(hd:d<n)(hx:lB m x=some v)
  (h: ∀a',Kn n a' ((d,v)::m)→TL P ops Q S n0 L r (i+1) a' w):TL P ops Q S n0 L ((some d, .assign x,gd)::r) i a w:=
 qg k hS hg hd (fun _ _ _ w' _=>by rw[HP,k.op hx]) h
theorem abe{ad:Addr}(k:Kn n a m)(hS:S w)(hg:pU L m gd=some true)(hd:d<n)(hx:lB m x=some (.pointer (some ad)))
  (h: ∀a',Kn n a' ((d, .pointer (some ad))::m)→TL P ops Q S n0 L r (i+1) a' w):TL P ops Q S n0 L ((some d, .nilCheck x,gd)::r) i a w:=
 qg k hS hg hd (fun _ _ _ w' _=>by have:=k.op hx;unfold execOp;simp only[this];rfl) h
theorem ail{b o off fl:Nat}(k:Kn n a m)(hS:S w)(hg:pU L m gd=some true)(hd:d<n)(hx:lB m x=some (.pointer (some ⟨b,o,none⟩)))
  (hf:(kQ P t fl).map (fun y=>(y.1.offset,decide (0<y.2)))=some (off,true)) (h: ∀a',Kn n a' ((d, .pointer (some ⟨b,o+off,none⟩))::m)→TL P ops Q S n0 L r (i+1) a' w):TL P ops Q S n0 L ((some d, .fieldAddr t x fl,gd)::r) i a w:=
 qg k hS hg hd (fun _ _ _ w' _=>BO hf (k.op hx)) h
theorem ti{ad:Addr}(k:Kn n a m)(hS:S w)(hg:pU L m gd=some true)(hd:d<n)(hx:lB m x=some (.pointer (some ad)))
  (ha:fY P t=false) (hu:(P.underlying t).isSome=true) (hc: ∀w',S w'→w'.cell? ad=some v) (h: ∀a',Kn n a' ((d,v)::m)→TL P ops Q S n0 L r (i+1) a' w):TL P ops Q S n0 L ((some d, .load t x,gd)::r) i a w:=
 qg k hS hg hd (fun _ _ _ w' hs=>Ku ha hu (k.op hx) (hc w' hs)) h
theorem abf{b off nn:Nat}{vs:List Value}(k:Kn n a m)(hS:S w)(hg:pU L m gd=some true)(hd:d<n)(hx:lB m x=some (.pointer (some ⟨b,off,none⟩)))
  (hs:fG P t=some nn) (ha:fY P t=true) (hl:vs.length=nn) (hc: ∀w',S w'→ ∀(j:Nat) v,vs[j]? =some v→w'.cell? ⟨b,off+j,none⟩=some v)
  (h: ∀a',Kn n a' ((d, .agg vs.toArray)::m)→TL P ops Q S n0 L r (i+1) a' w):TL P ops Q S n0 L ((some d, .load t x,gd)::r) i a w:=
 qg k hS hg hd (fun _ _ _ w' hw=>Kt hs ha (k.op hx) hl (hc w' hw)) h
theorem oG{el:TypeId}{b off nn cap sz:Nat}{kk:IntKind}{mm:Int}(k:Kn n a m)(hS:S w)(hg:pU L m gd=some true)(hd:d<n)
  (hx:lB m x=some (.slice (some ⟨b,off,none⟩) nn cap)) (hy:lB m y=some (.int kk mm)) (hu:P.underlying t=some (.slice el)) (fo:fG P el=some sz) (h0:0≤mm) (h1:mm<nn)
  (h: ∀a',Kn n a' ((d, .pointer (some ⟨b,off+mm.toNat*sz,none⟩))::m)→TL P ops Q S n0 L r (i+1) a' w):TL P ops Q S n0 L ((some d, .indexAddr t x y,gd)::r) i a w:=by
 refine qg k hS hg hd (fun _ _ _ w' _=> ?_) h
 have B3:=k.op hx
 have wM:=k.op hy
 have h2:=fc (P:=P) (w:=w') fo
 unfold execOp;simp only[B3,wM,Instr.indexAt,asIntOf]
 simp[run_underlying hu,h0,h1,h2,dD]
def slB(P:Program)(t:TypeId):Bool:=match P.underlying t with
 |some (.slice _)=>true
 |_=>false
theorem QR{A:Option Addr}{nn c:Nat}(k:Kn n a m)(hS:S w)(hg:pU L m gd=some true)(hd:d<n)
  (hx:lB m x=some (.slice A nn c)) (hu:slB P t=true) (h: ∀a',Kn n a' ((d, .int .i64 nn)::m)→TL P ops Q S n0 L r (i+1) a' w):TL P ops Q S n0 L ((some d, .call {callee:= .builtin .len,args:= #[x],argTypes:= #[t]},gd)::r) i a w:=by
 unfold slB at hu
 split at hu
 ·rename_i el he
  exact qg k hS hg hd (fun _ _ _ w' _=>Sn he (k.op hx)) h
 ·cases hu
theorem UM{c:Bool}(k:Kn n a m)(hS:S w)(hg:pU L m gd=some true)(hd:d<n)(hx:lB m x=some (.bool c))(hy:lB m (if c then y else z)=some v)
  (h: ∀a',Kn n a' ((d,v)::m)→TL P ops Q S n0 L r (i+1) a' w):TL P ops Q S n0 L ((some d, .pick x y z,gd)::r) i a w:=by
 refine qg k hS hg hd (fun _ _ _ w' _=> ?_) h
 have h1:=k.op hx
 have h2:=k.op hy
 unfold execOp
 cases c
 ·simp only[Bool.false_eq_true,if_false]at h2;simp[h1,h2,asBool]
 ·simp only[if_true]at h2;simp[h1,h2,asBool]
theorem tT{c:Bool}(k:Kn n a m)(hS:S w)(hg:pU L m gd=some true)(hd:d<n)(hx:lB m x=some (.bool c))
  (h: ∀a',Kn n a' ((d, .bool (!c))::m)→TL P ops Q S n0 L r (i+1) a' w):TL P ops Q S n0 L ((some d, .unOp .not t x,gd)::r) i a w:=
 qg k hS hg hd (fun _ _ _ w' _=>Sm (k.op hx)) h
def IV:BinOp→Int→Int→Option Bool
 | .lss,m,n=>some (decide (m<n))
 | .leq,m,n=>some (decide (m≤n))
 | .gtr,m,n=>some (decide (m>n))
 | .geq,m,n=>some (decide (m≥n))
 | .eql,m,n=>some (m==n)
 | .neq,m,n=>some (m !=n)
 |_,_,_=>none
theorem abg{bo:BinOp}{kk:IntKind}{p q:Int}{c:Bool}(k:Kn n a m)(hS:S w)(hg:pU L m gd=some true)(hd:d<n)(hx:lB m x=some (.int kk p))(hy:lB m y=some (.int kk q))
  (hc:IV bo p q=some c) (h: ∀a',Kn n a' ((d, .bool c)::m)→TL P ops Q S n0 L r (i+1) a' w):TL P ops Q S n0 L ((some d, .binOp bo t x y t2,gd)::r) i a w:=by
 refine qg k hS hg hd (fun _ _ _ w' _=> ?_) h
 have h1:=k.op hx
 have h2:=k.op hy
 unfold execOp
 cases bo<;>simp only[IV,Option.some.injEq,reduceCtorEq]at hc<;>subst hc<;>simp[h1,h2,eqGuard,binOp,Op.intCmp]
theorem lH{kk:IntKind}{p q s:Int}(k:Kn n a m)(hS:S w)(hg:pU L m gd=some true)(hd:d<n)(hx:lB m x=some (.int kk p))(hy:lB m y=some (.int kk q))
  (hc:kk.wrap (p+q)=s) (h: ∀a',Kn n a' ((d, .int kk s)::m)→TL P ops Q S n0 L r (i+1) a' w):TL P ops Q S n0 L ((some d, .binOp .add t x y t2,gd)::r) i a w:=by
 subst hc
 exact qg k hS hg hd (fun _ _ _ w' _=>Sp (k.op hx) (k.op hy)) h
end
abbrev Ow:=Nat→Option Nat
structure Wf(w:World)(S:aO)(ow:Ow):Prop where
 s: ∀b o,S b o→b<w.heap.size
 o: ∀b l,ow b=some l→b<w.heap.size
 d: ∀b o l,S b o→ow b=some l→1000≤l
structure aC(L X:Nat→Prop)(w:World)(S:aO)(ow:Ow)(w':World)(S':aO)(aT:Ow):Prop where
 size:w.heap.size≤w'.heap.size
 os:w'.os=w.os
 tape:w'.tape=w.tape
 output:w'.output=w.output
 B0: ∀b l,b<w.heap.size→ow b=some l→ ¬L l→w'.heap[b]? =w.heap[b]?
 free: ∀b,b<w.heap.size→ow b=none→ ¬X b→w'.heap[b]? =w.heap[b]?
 gV: ∀b o,S b o→S' b o
 cell: ∀b o,S b o→w'.cell? ⟨b,o,none⟩=w.cell? ⟨b,o,none⟩
 keep: ∀b l,ow b=some l→ ¬L l→aT b=some l
 new: ∀b o,S' b o→S b o∨w.heap.size≤b∨ ∃l,ow b=some l∧L l
 tu: ∀b,b<w.heap.size→ow b=none→aT b=none
 fU: ∀b l,aT b=some l→ow b=some l∨L l
def bJ(l:Nat)(x:Nat):Prop:=x=l
section
variable{L L' X X':Nat→Prop}{w w' yG:World}{S S' Mj:aO}{ow aT wU:Ow}
theorem aC.refl(L X:Nat→Prop)(w:World)(S:aO)(ow:Ow):aC L X w S ow w S ow:=
 ⟨Nat.le_refl _,rfl,rfl,rfl,fun _ _ _ _ _=>rfl,fun _ _ _ _=>rfl,fun _ _ h=>h,fun _ _ _=>rfl,fun _ _ h _=>h,fun _ _ h=> .inl h,fun _ _ h=>h,fun _ _ h=> .inl h⟩
theorem aC.aG{w w1:World}(h:DV w w1)(L X:Nat→Prop)(S:aO)(ow:Ow):aC L X w S ow w1 S ow:=
 ⟨by rw[h.heap];exact Nat.le_refl _,h.os,h.tape,h.output,fun _ _ _ _ _=>by rw[h.heap],fun _ _ _ _=>by rw[h.heap],fun _ _ h=>h,fun _ _ _=>h.cell _,fun _ _ h _=>h,fun _ _ h=> .inl h,fun _ _ h=>h,fun _ _ h=> .inl h⟩
theorem aC.trans(hw:Wf w S ow)(gX:Wf w' S' aT)(h:aC L X w S ow w' S' aT)(k:aC L' X' w' S' aT yG Mj wU)(hX: ∀b,X' b→X b∨w.heap.size≤b)(hk: ∀b l,b<w.heap.size→aT b=some l→L l∨L' l→ ∃l0,ow b=some l0∧(L l0∨L' l0)):
  aC (fun l=>L l∨L' l) X w S ow yG Mj wU:=by
 refine⟨Nat.le_trans h.size k.size,k.os.trans h.os,k.tape.trans h.tape,k.output.trans h.output,?_,?_,fun b o hs=>k.gV b o (h.gV b o hs),fun b o hs=>(k.cell b o (h.gV b o hs)).trans (h.cell b o hs),?_,?_,?_,fun b l hl=>(k.fU b l hl).elim (fun h1=>(h.fU b l h1).imp id .inl) (fun h1=> .inr (.inr h1))⟩
 ·intro b l hb ho hl
  exact(k.B0 b l (Nat.lt_of_lt_of_le hb h.size) (h.keep b l ho (fun hh=>hl (.inl hh))) (fun hh=>hl (.inr hh))).trans (h.B0 b l hb ho (fun hh=>hl (.inl hh)))
 ·intro b hb ho hx
  refine(k.free b (Nat.lt_of_lt_of_le hb h.size) (h.tu b hb ho) (fun hh=> ?_)).trans (h.free b hb ho hx)
  rcases hX b hh with h1|h1
  ·exact hx h1
  ·omega
 ·intro b l ho hl
  exact k.keep b l (h.keep b l ho (fun hh=>hl (.inl hh))) (fun hh=>hl (.inr hh))
 ·intro b o hs
  rcases k.new b o hs with h1|h1|⟨l,h1,h2⟩
  ·rcases h.new b o h1 with h2|h2|⟨l,h2,h3⟩
   ·exact .inl h2
   ·exact .inr (.inl h2)
   ·exact .inr (.inr ⟨l,h2, .inl h3⟩)
  ·exact .inr (.inl (Nat.le_trans h.size h1))
  ·by_cases hb:b<w.heap.size
   ·obtain⟨l0,h3,h4⟩:=hk b l hb h1 (.inr h2)
    exact .inr (.inr ⟨l0,h3,h4⟩)
   ·exact .inr (.inl (by omega))
 ·intro b hb ho
  exact k.tu b (Nat.lt_of_lt_of_le hb h.size) (h.tu b hb ho)
theorem aC.mono(h:aC L X w S ow w' S' aT)(hL: ∀l,L l→L' l)(hX: ∀b,X b→X' b):aC L' X' w S ow w' S' aT:=
 ⟨h.size,h.os,h.tape,h.output,fun b l hb ho hl=>h.B0 b l hb ho (fun hh=>hl (hL l hh)),fun b hb ho hx=>h.free b hb ho (fun hh=>hx (hX b hh)),h.gV,h.cell,fun b l ho hl=>h.keep b l ho (fun hh=>hl (hL l hh)),fun b o hs=>(h.new b o hs).imp id (fun h1=>h1.imp id fun⟨l,h2,h3⟩=>⟨l,h2,hL l h3⟩),h.tu,fun b l hl=>(h.fU b l hl).imp id (hL l)⟩
theorem bj.aB{v:Value}{d:D}(h:bj w S v d)(st:aC L X w S ow w' S' aT):bj w' S' v d:=h.keep st.gV st.cell
structure bU(w:World)(S:aO)(ow:Ow)(l:Nat)(T:TypeId)(t:Ty)(v:Value)(xs:List D):Prop where
 has:Has (.list t) (.list xs)
 sz:0<t.cells.length
 fU: ∀b,v.ownBlock=some b→ow b=some l
 ll:l<1000
 own: ∃vs,w.ownsRow 0 T t.cells.length v xs.length vs∧ ∀(i:Nat) d (j:Nat) u c,xs[i]? =some d→d.cells[j]? =some c→vs[i*t.cells.length+j]? =some u→bj w S u c
theorem pO{T:TypeId}{sz n:Nat}{v:Value}{vs:List Value}(h:w.ownsRow 0 T sz v n vs)(hb: ∀b,v.ownBlock=some b→w'.heap[b]? =w.heap[b]?):w'.ownsRow 0 T sz v n vs:=by
 refine⟨h.1,?_⟩
 rcases h.2 with hn|⟨g,cap,cur,rfl,h0,hg,h1,h2,h3,h4⟩
 ·exact .inl hn
 ·exact .inr ⟨g,cap,cur,rfl,h0,(hb g rfl).trans hg,h1,h2,h3,h4⟩
theorem bU.aB{l:Nat}{T:TypeId}{t:Ty}{v:Value}{xs:List D}(h:bU w S ow l T t v xs)(hw:Wf w S ow)(st:aC L X w S ow w' S' aT)(hl: ¬L l):bU w' S' aT l T t v xs:=by
 obtain⟨vs,h1,h2⟩:=h.own
 exact⟨h.has,h.sz,fun b hb=>st.keep b l (h.fU b hb) hl,h.ll,vs,pO h1 (fun b hb=>st.B0 b l (hw.o b l (h.fU b hb)) (h.fU b hb) hl),fun i d j u c a1 a2 a3=>(h2 i d j u c a1 a2 a3).aB st⟩
theorem bU.nil{l:Nat}{T:TypeId}{t:Ty}(hs:0<t.cells.length)(hl:l<1000):bU w S ow l T t (.slice none 0 0) [] :=
 ⟨⟨[],rfl,db t,fun _ h=>(by cases h)⟩,hs,fun b hb=>(by cases hb),hl,[],World.ownsRow_nil _ _ _ _,fun i d j u c h=>(by simp at h)⟩
theorem bU.slice{l:Nat}{T:TypeId}{t:Ty}{v:Value}{xs:List D}(h:bU w S ow l T t v xs): ∃A cap,v= .slice A xs.length cap:=by
 obtain⟨vs,h1,_⟩:=h.own
 rcases h1.2 with⟨rfl,hn⟩|⟨g,cap,cur,rfl,_⟩
 ·exact⟨none,0,by rw[hn]⟩
 ·exact⟨_,cap,rfl⟩
theorem bU.len{l:Nat}{T:TypeId}{t:Ty}{v:Value}{xs:List D}(h:bU w S ow l T t v xs):lP t xs.length:=by
 obtain⟨ys,h1,h2,_⟩:=aD.1 h.has
 injection h1 with h1;subst h1;exact h2
theorem bU.all{l:Nat}{T:TypeId}{t:Ty}{v:Value}{xs:List D}(h:bU w S ow l T t v xs): ∀x∈xs,Has t x:=by
 obtain⟨ys,h1,_,h2⟩:=aD.1 h.has
 injection h1 with h1;subst h1;exact h2
theorem bU.elem{l:Nat}{T:TypeId}{t:Ty}{v:Value}{xs:List D}(h:bU w S ow l T t v xs){i:Nat}{d:D}(hi:xs[i]? =some d):
  ∃(b cap:Nat) (us:List Value),v= .slice (some ⟨b,0,none⟩) xs.length cap∧b<w.heap.size∧ow b=some l∧us.length=t.cells.length∧(∀(j:Nat) u,us[j]? =some u→w.cell? ⟨b,i*t.cells.length+j,none⟩=some u)∧
   ∀(j:Nat) u c,us[j]? =some u→d.cells[j]? =some c→bj w S u c:=by
 obtain⟨vs,h1,h2⟩:=h.own
 have eX:i<xs.length:=(ai.1 hi).1
 rcases h1.2 with⟨rfl,hn⟩|⟨g,cap,cur,rfl,_,hg,gN,H6,gS,FZ⟩
 ·omega
 ·have hmul:(i+1)*t.cells.length≤xs.length*t.cells.length:=Nat.mul_le_mul_right _ eX
  rw[Nat.add_mul,Nat.one_mul]at hmul
  have tE:vs.length=xs.length*t.cells.length:=h1.1
  refine⟨g,cap,(vs.drop (i*t.cells.length)).take t.cells.length,rfl,(Array.getElem?_eq_some_iff.1 hg).1,h.fU g rfl,by rw[List.length_take,List.length_drop];omega,?_,?_⟩
  ·intro j u hu
   rw[List.getElem?_take]at hu
   split at hu
   ·rw[List.getElem?_drop]at hu
    have:=h1.cells (g:=g) rfl _ _ hu
    rw[dD,Nat.zero_add]at this
    exact this
   ·cases hu
  ·intro j u c hu hc
   rw[List.getElem?_take]at hu
   split at hu
   ·rw[List.getElem?_drop]at hu
    exact h2 i d j u c hi hc hu
   ·cases hu
theorem bU.freeze{l:Nat}{T:TypeId}{t:Ty}{v:Value}{xs:List D}(h:bU w S ow l T t v xs)(hw:Wf w S ow):
  ∃S' aT,aC (bJ l) ae w S ow w S' aT∧Wf w S' aT∧bj w S' v (.list xs)∧(∀b,aT b≠some l):=by
 obtain⟨vs,h1,h2⟩:=h.own
 refine⟨fun b o=>S b o∨(v.ownBlock=some b∧o<vs.length),fun b=>if ow b=some l then none else ow b,?_,?_,?_,?_⟩
 ·refine⟨Nat.le_refl _,rfl,rfl,rfl,fun _ _ _ _ _=>rfl,fun _ _ _ _=>rfl,fun _ _ h=> .inl h,fun _ _ _=>rfl,?_,?_,?_,fun b l' hl=>(by
   split at hl
   ·cases hl
   ·exact .inl hl)⟩
  ·intro b l' ho hl
   rw[if_neg (by rw[ho];intro e;injection e with e;exact hl e)];exact ho
  ·intro b o hs
   rcases hs with hs|⟨hs,_⟩
   ·exact .inl hs
   ·exact .inr (.inr ⟨l,h.fU b hs,rfl⟩)
  ·intro b _ ho
   simp[ho]
 ·refine⟨?_,?_,?_⟩
  ·intro b o hs
   rcases hs with hs|⟨hs,_⟩
   ·exact hw.s b o hs
   ·exact hw.o b l (h.fU b hs)
  ·intro b l' ho
   split at ho
   ·cases ho
   ·exact hw.o b l' ho
  ·intro b o l' hs ho
   split at ho
   ·cases ho
   ·rcases hs with hs|⟨hs,_⟩
    ·exact hw.d b o l' hs ho
    ·exact absurd (h.fU b hs) (by assumption)
 ·have hk: ∀u c,bj w S u c→bj w (fun b o=>S b o∨(v.ownBlock=some b∧o<vs.length)) u c:=fun u c hr=>hr.keep (fun _ _ h=> .inl h) (fun _ _ _=>rfl)
  rcases h1.2 with⟨rfl,hn⟩|⟨g,cap,cur,rfl,_,hg,gN,H6,gS,FZ⟩
  ·have:xs=[] :=List.eq_nil_of_length_eq_zero hn
   subst this
   exact .nil _ _
  ·by_cases dH:xs=[]
   ·subst dH;exact .nil _ _
   ·refine .list g 0 cap t.cells.length vs xs h.sz dH gN h1.1 (fun i hi=> .inr ⟨rfl,by omega⟩) ?_ ?_ ?_
    ·intro i u hu
     have:=h1.cells (g:=g) rfl i u hu
     rw[dD,Nat.zero_add]at this
     rw[Nat.zero_add];exact this
    ·intro i d hd
     exact(bp (h.all d (aS hd))).1
    ·intro i d j u c hd hc hu
     exact hk u c (h2 i d j u c hd hc hu)
 ·intro b hb
  simp only at hb
  split at hb
  ·cases hb
  ·exact absurd hb (by assumption)
theorem bU.grow{l:Nat}{T:TypeId}{t:Ty}{v v':Value}{xs ys:List D}{news:List Value}(h:bU w S ow l T t v xs)(hw:Wf w S ow)(Ov: ∀y∈ys,Has t y)(hlen:lP t (xs++ys).length)
  (yK:news.length=ys.length*t.cells.length) (B5: ∀(i:Nat) d (j:Nat) u c,ys[i]? =some d→d.cells[j]? =some c→news[i*t.cells.length+j]? =some u→bj w S u c)
  (cM: ∀vs,w.ownsRow 0 T t.cells.length v xs.length vs→w'.ownsRow 0 T t.cells.length v' (xs.length+ys.length) (vs++news)∧((v'.ownBlock=v.ownBlock∧w.grownBy w' v.ownBlock)∨(v'.ownBlock=some w.heap.size∧w.grownBy w' none))):
  ∃aT,aC (bJ l) ae w S ow w' S aT∧Wf w' S aT∧bU w' S aT l T t v' (xs++ys)∧ ∀b,aT b=some l→(v'.ownBlock=some b∨ow b=some l):=by
 obtain⟨vs,h1,h2⟩:=h.own
 obtain⟨bw,dR⟩:=cM vs h1
 have zj:w'.os=w.os∧w'.tape=w.tape∧w'.output=w.output∧w.heap.size≤w'.heap.size:=by
  rcases dR with⟨_,hg⟩|⟨_,hg⟩<;>exact⟨hg.os,hg.tape,hg.output,hg.size⟩
 have dq: ∀b,b<w.heap.size→v.ownBlock≠some b→w'.heap[b]? =w.heap[b]? :=by
  intro b hb dH
  rcases dR with⟨_,hg⟩|⟨_,hg⟩
  ·exact hg.block b hb (fun e=>dH e.symm)
  ·exact hg.block b hb (by simp)
 have Ie: ∀b,v.ownBlock=some b→ ∀o,¬S b o:=fun b hb o hs=>by have:=hw.d b o l hs (h.fU b hb);have:=h.ll;omega
 have cB: ∀b o,S b o→w'.cell? ⟨b,o,none⟩=w.cell? ⟨b,o,none⟩:=fun b o hs=>World.cell?_of_block (dq b (hw.s b o hs) (fun hb=>Ie b hb o hs))
 have mj:aC (bJ l) ae w S ow w' S (fun b=>if v'.ownBlock=some b then some l else ow b):=by
  refine⟨zj.2.2.2,zj.1,zj.2.1,zj.2.2.1,?_,?_,fun _ _ h=>h,cB,?_,fun _ _ h=> .inl h,?_,fun b l' hl=>(by
   split at hl
   ·injection hl with hl;exact .inr hl.symm
   ·exact .inl hl)⟩
  ·intro b l' hb ho hl
   exact dq b hb (fun hv=>hl (by have:=(h.fU b hv).symm.trans ho;injection this with this;exact this.symm))
  ·intro b hb ho _
   exact dq b hb (fun hv=>by rw[h.fU b hv]at ho;cases ho)
  ·intro b l' ho hl
   rw[if_neg ?_]
   ·exact ho
   ·intro hv
    rcases dR with⟨he,_⟩|⟨he,_⟩
    ·have:=(h.fU b (he▸hv)).symm.trans ho
     injection this with this;exact hl this.symm
    ·rw[he]at hv;injection hv with hv
     have:=hw.o b l' ho
     omega
  ·intro b hb ho
   rw[if_neg ?_]
   ·exact ho
   ·intro hv
    rcases dR with⟨he,_⟩|⟨he,_⟩
    ·rw[h.fU b (he▸hv)]at ho;cases ho
    ·rw[he]at hv;injection hv with hv;omega
 refine⟨_,mj,⟨fun b o hs=>Nat.lt_of_lt_of_le (hw.s b o hs) zj.2.2.2,?_,?_⟩,⟨?_,h.sz,fun b hb=>by simp[hb],h.ll,vs++news,by rw[List.length_append];exact bw,?_⟩,?_⟩
 ·intro b l' ho
  split at ho
  ·rename_i hv;exact(bw.lt b hv).2
  ·exact Nat.lt_of_lt_of_le (hw.o b l' ho) zj.2.2.2
 ·intro b o l' hs ho
  split at ho
  ·rename_i hv
   rcases dR with⟨he,_⟩|⟨he,_⟩
   ·exact absurd hs (Ie b (he▸hv) o)
   ·rw[he]at hv;injection hv with hv
    have:=hw.s b o hs
    omega
  ·exact hw.d b o l' hs ho
 ·refine⟨xs++ys,rfl,hlen,fun x hx=> ?_⟩
  rcases List.mem_append.1 hx with hx|hx
  ·exact h.all x hx
  ·exact Ov x hx
 ·intro i d j u c hd hc hu
  have tE:vs.length=xs.length*t.cells.length:=h1.1
  by_cases hi:i<xs.length
  ·have gz:d.cells.length=t.cells.length:=by
    rw[List.getElem?_append_left hi]at hd
    exact(bp (h.all d (aS hd))).1
   have hj:j<t.cells.length:=by rw[←gz];exact(ai.1 hc).1
   have hmul:(i+1)*t.cells.length≤xs.length*t.cells.length:=Nat.mul_le_mul_right _ hi
   rw[Nat.add_mul,Nat.one_mul]at hmul
   rw[List.getElem?_append_left hi]at hd
   rw[List.getElem?_append_left (by omega)]at hu
   exact(h2 i d j u c hd hc hu).aB mj
  ·rw[List.getElem?_append_right (by omega)]at hd
   have hmul:xs.length*t.cells.length≤i*t.cells.length:=Nat.mul_le_mul_right _ (by omega)
   rw[List.getElem?_append_right (by omega)]at hu
   refine(B5 (i-xs.length) d j u c hd hc ?_).aB mj
   rw[←hu];congr 1
   rw[Nat.sub_mul];omega
 ·intro b hb
  split at hb
  ·rename_i hv;exact .inl hv
  ·exact .inr hb
end
def QG(P:Program)(tt T:TypeId)(t:Ty):Bool:=match P.underlying tt with
 |some (.slice e)=>e==T&&(match P.info? T with
  |some ie=>ie.size==t.cells.length&&ie.bytes==t.bytes&&(match ie.zero with
   |some z=>z.cells.size==t.cells.length
   |none=>false)
  |none=>false)
 |_=>false
section
variable{L L' X X':Nat→Prop}{w w' yG:World}{S S' Mj:aO}{ow aT wU:Ow}{P:Program}
theorem bU.rJ{l:Nat}{tt T:TypeId}{t:Ty}{v:Value}{xs ys:List D}(h:bU w S ow l T t v xs)(bM:QG P tt T t=true)(jC:t.cells.all Ty.scalar=true)(hw:Wf w S ow)(ty:TypeId)(A:Option Addr)(c:Nat)(news:List Value)
  (hA:A=none→ys.length=0) (yK:news.length=ys.length*t.cells.length) (qJ: ∀ad,A=some ad→ ∀(j:Nat) u,news[j]? =some u→w.cell? (ad.add j)=some u) (Ov: ∀y∈ys,Has t y)
  (B5: ∀(i:Nat) d (j:Nat) u c,ys[i]? =some d→d.cells[j]? =some c→news[i*t.cells.length+j]? =some u→bj w S u c) (hlen:lP t (xs.length+ys.length)):
  ∃v' w',(Builtin.append_ #[tt,tt] ty #[v, .slice A ys.length c]).run P w= .ok v' w'∧ ∃aT,aC (bJ l) ae w S ow w' S aT∧Wf w' S aT∧bU w' S aT l T t v' (xs++ys):=by
 unfold QG at bM
 split at bM
 ·rename_i e hu
  rw[aw,beq_iff_eq]at bM
  obtain⟨rfl,bM⟩:=bM
  split at bM
  ·rename_i ie qm
   simp only[aw,beq_iff_eq]at bM
   obtain⟨⟨h1,h2⟩,h3⟩:=bM
   split at h3
   ·rename_i z hz
    rw[beq_iff_eq]at h3
    have fo:=h.sz
    have fX: ∀u∈news,u.oneCell'=true:=by
     intro uu Y2
     obtain⟨q,hq⟩:=List.getElem?_of_mem Y2
     have DO:q<news.length:=(ai.1 hq).1
     have hi:q/t.cells.length<ys.length:=by rw[Nat.div_lt_iff_lt_mul fo,←yK];exact DO
     have hj:q % t.cells.length<t.cells.length:=Nat.mod_lt _ fo
     have hd:ys[q/t.cells.length]? =some (ys[q/t.cells.length]'hi):=av hi
     have fV:t.cells[q % t.cells.length]? =some (t.cells[q % t.cells.length]'hj):=av hj
     obtain⟨cc,m8,Ea⟩:=(bp (Ov _ (aS hd))).2 _ _ fV
     have Tx:q/t.cells.length*t.cells.length+q % t.cells.length=q:=by rw[Nat.mul_comm];exact Nat.div_add_mod _ _
     exact(B5 _ _ _ uu cc hd m8 (by rw[Tx];exact hq)).gq Ea (aV.1 jC _ (List.getElem_mem hj))
    obtain⟨vs,bw,_⟩:=h.own
    obtain⟨v',w',cM,ho,dR⟩:=fT (P:=P) w 0 tt ty e ie z t.cells.length hu qm hz h1 h3 v xs.length vs bw A ys.length c news hA yK qJ fX hlen.1 (by rw[h2];exact hlen.2) (Nat.zero_le _)
    obtain⟨aT,a1,a2,a3,_⟩:=h.grow hw Ov (by rw[List.length_append];exact hlen) yK B5 (w':=w') (v':=v') (fun vs2 Oa=>by
     have:vs2=vs:=by
      rcases bw.2 with⟨rfl,hn⟩|⟨g,cap,cur,rfl,_,hg,_,_,_,ht⟩
      ·have e1:=bw.1;have e2:=Oa.1
       rw[hn,Nat.zero_mul]at e1 e2
       rw[List.eq_nil_of_length_eq_zero e1,List.eq_nil_of_length_eq_zero e2]
      ·rcases Oa.2 with⟨hh,_⟩|⟨g2,arE,arA,hh,_,BX,_,_,_,SR⟩
       ·cases hh
       ·injection hh with hh1 _ _
        injection hh1 with hh1
        injection hh1 with hh1 _
        subst hh1
        rw[hg]at BX
        injection BX with BX
        injection BX with BX
        subst BX
        exact SR.symm.trans ht
     subst this
     exact⟨ho,dR⟩)
    exact⟨v',w',cM,aT,a1,a2,a3⟩
   ·cases h3
  ·cases bM
 ·cases bM
theorem iX{dst:Option Nat}{tt ty:TypeId}{pos:String}{af:Array Edge}{gd:Option (Nat×Bool)}{a:Act}{x y:Operand}{v u v':Value}(hx:a.eval x=v)(hy:a.eval y=u)(h:(Builtin.append_ #[tt,tt] ty #[v,u]).run P w= .ok v' w'):
  (execOp a.eval ⟨dst, .call {callee:= .builtin .append,args:= #[x,y],argTypes:= #[tt,tt]},ty,pos,af,gd⟩).run P w= .ok (.value v') w':=by
 unfold execOp;simp only[resolve,invoke,builtin]
 simp[hx,hy,h]
theorem aC.alloc(hw:Wf w S ow)(o:Obj):aC ae ae w S ow (w.alloc o) S ow∧Wf (w.alloc o) S ow:=
 ⟨⟨by simp,rfl,rfl,rfl,fun b _ hb _ _=>Below.heap_alloc w o _ hb,fun b hb _ _=>Below.heap_alloc w o _ hb,fun _ _ h=>h,fun b o' hs=>World.cell?_of_block (Below.heap_alloc w o _ (hw.s b o' hs)),fun _ _ h _=>h,fun _ _ h=> .inl h,fun _ _ h=>h,fun _ _ h=> .inl h⟩,
  ⟨fun b o' hs=>Nat.lt_of_lt_of_le (hw.s b o' hs) (by simp),fun b l hl=>Nat.lt_of_lt_of_le (hw.o b l hl) (by simp),hw.d⟩⟩
structure dP(w:World)(S:aO)(ow:Ow)(b:Nat)(T:TypeId)(vs:List Value):Prop where
 heap:w.heap[b]? =some (.cells vs.toArray T (0,0))
 ow:ow b=none
 s: ∀o,¬S b o
theorem dP.new(hw:Wf w S ow)(T:TypeId)(vs:List Value):dP (w.alloc (.cells vs.toArray T)) S ow w.heap.size T vs:=
 ⟨heap_alloc_new w _,by cases h:ow w.heap.size with|none=>rfl|some l=>have:=hw.o _ _ h;omega,fun o hs=>by have:=hw.s _ _ hs;omega⟩
theorem dP.lt{b:Nat}{T:TypeId}{vs:List Value}(h:dP w S ow b T vs):b<w.heap.size:=(Array.getElem?_eq_some_iff.1 h.heap).1
theorem dP.aB{b:Nat}{T:TypeId}{vs:List Value}(h:dP w S ow b T vs)(st:aC L X w S ow w' S' aT)(hx: ¬X b):dP w' S' aT b T vs:=by
 refine⟨(st.free b h.lt h.ow hx).trans h.heap,st.tu b h.lt h.ow,fun o hs=> ?_⟩
 rcases st.new b o hs with h1|h1|⟨l,h1,_⟩
 ·exact h.s o h1
 ·have:=h.lt;omega
 ·rw[h.ow]at h1;cases h1
theorem dP.set{b:Nat}{T:TypeId}{vs us:List Value}(h:dP w S ow b T vs)(hw:Wf w S ow):aC ae (bJ b) w S ow (w.setRow b us.toArray) S ow∧Wf (w.setRow b us.toArray) S ow∧dP (w.setRow b us.toArray) S ow b T us:=by
 have ho: ∀k,k≠b→(w.setRow b us.toArray).heap[k]? =w.heap[k]? :=fun k hk=>setRow_other w _ k _ hk
 refine⟨⟨by simp,rfl,rfl,rfl,fun k l hk hl _=>ho k (fun e=>by rw[e,h.ow]at hl;cases hl),fun k hk _ hx=>ho k hx,fun _ _ h=>h,fun k o hs=>World.cell?_of_block (ho k (fun e=>h.s o (e▸hs))),fun _ _ h _=>h,fun _ _ h=> .inl h,fun _ _ h=>h,fun _ _ h=> .inl h⟩,⟨fun k o hs=>by simpa using hw.s k o hs,fun k l hl=>by simpa using hw.o k l hl,hw.d⟩,⟨?_,h.ow,h.s⟩⟩
 exact setRow_heap w b _ _ T (0,0) h.heap
structure wZ(w:World)(ow:Ow)(l b:Nat)(T:TypeId)(vs:List Value):Prop where
 heap:w.heap[b]? =some (.cells vs.toArray T (0,0))
 ow:ow b=some l
 ll:l<1000
theorem wZ.lt{l b:Nat}{T:TypeId}{vs:List Value}(h:wZ w ow l b T vs):b<w.heap.size:=(Array.getElem?_eq_some_iff.1 h.heap).1
theorem wZ.aB{l b:Nat}{T:TypeId}{vs:List Value}(h:wZ w ow l b T vs)(st:aC L X w S ow w' S' aT)(hl: ¬L l):wZ w' aT l b T vs:=⟨(st.B0 b l h.lt h.ow hl).trans h.heap,st.keep b l h.ow hl,h.ll⟩
theorem wZ.set{l b:Nat}{T:TypeId}{vs us:List Value}(h:wZ w ow l b T vs)(hw:Wf w S ow):aC (bJ l) ae w S ow (w.setRow b us.toArray) S ow∧Wf (w.setRow b us.toArray) S ow∧wZ (w.setRow b us.toArray) ow l b T us:=by
 have ho: ∀k,k≠b→(w.setRow b us.toArray).heap[k]? =w.heap[k]? :=fun k hk=>setRow_other w _ k _ hk
 refine⟨⟨by simp,rfl,rfl,rfl,fun k l' hk ks hn=>ho k (fun e=>hn (by rw[e,h.ow]at ks;injection ks with ks;exact ks.symm)),fun k hk hn _=>ho k (fun e=>by rw[e,h.ow]at hn;cases hn),fun _ _ h=>h,fun k o hs=>World.cell?_of_block (ho k (fun e=>by subst e;have:=hw.d _ _ _ hs h.ow;have:=h.ll;omega)),fun _ _ h _=>h,fun _ _ h=> .inl h,fun _ _ h=>h,fun _ _ h=> .inl h⟩,⟨fun k o hs=>by simpa using hw.s k o hs,fun k l hl=>by simpa using hw.o k l hl,hw.d⟩,⟨?_,h.ow,h.ll⟩⟩
 exact setRow_heap w b _ _ T (0,0) h.heap
theorem gK{b j:Nat}{T:TypeId}{vs:List Value}{v:Value}(h:w.heap[b]? =some (.cells vs.toArray T (0,0)))(hj:vs[j]? =some v):w.cell? ⟨b,j,none⟩=some v:=by
 rw[cell_of_row w b j _ T (0,0) h];simpa using hj
theorem bU.set{l i:Nat}{T:TypeId}{t:Ty}{v:Value}{xs:List D}{d:D}{us:List Value}(h:bU w S ow l T t v xs)(hw:Wf w S ow)(hi:i<xs.length)(hd:Has t d)(zi:us.length=t.cells.length)
  (KF: ∀(j:Nat) u c,us[j]? =some u→d.cells[j]? =some c→bj w S u c):
  ∃(b cap:Nat) (cur:Array Value),v= .slice (some ⟨b,0,none⟩) xs.length cap∧w.heap[b]? =some (.cells cur T (0,0))∧i*t.cells.length+us.length≤cur.size∧b<w.heap.size∧ow b=some l∧
   aC (bJ l) ae w S ow (w.setRow b (cur.toList.take (i*t.cells.length)++us++cur.toList.drop (i*t.cells.length+us.length)).toArray) S ow∧Wf (w.setRow b (cur.toList.take (i*t.cells.length)++us++cur.toList.drop (i*t.cells.length+us.length)).toArray) S ow∧
   bU (w.setRow b (cur.toList.take (i*t.cells.length)++us++cur.toList.drop (i*t.cells.length+us.length)).toArray) S ow l T t v (xs.set i d):=by
 obtain⟨vs,h1,h2⟩:=h.own
 rcases h1.2 with⟨rfl,hn⟩|⟨b,cap,cur,rfl,h0,hg,gN,H6,gS,FZ⟩
 ·omega
 ·have hmul:(i+1)*t.cells.length≤xs.length*t.cells.length:=Nat.mul_le_mul_right _ hi
  have atE:xs.length*t.cells.length≤cap*t.cells.length:=Nat.mul_le_mul_right _ gN
  rw[Nat.add_mul,Nat.one_mul]at hmul
  have dw:=h.fU b rfl
  have iC:i*t.cells.length+us.length≤cur.size:=by omega
  have ho: ∀(r:Array Value) k,k≠b→(w.setRow b r).heap[k]? =w.heap[k]? :=fun r k hk=>setRow_other w _ k _ hk
  have Wd: ∀o,¬S b o:=fun o hs=>by have:=hw.d b o l hs dw;have:=h.ll;omega
  have mj: ∀r,aC (bJ l) ae w S ow (w.setRow b r) S ow:=fun r=>
   ⟨by simp,rfl,rfl,rfl,fun k l' hk ks hn=>ho r k (fun e=>hn (by rw[e,dw]at ks;injection ks with ks;exact ks.symm)),fun k hk hn _=>ho r k (fun e=>by rw[e,dw]at hn;cases hn),fun _ _ h=>h,fun k o hs=>World.cell?_of_block (ho r k (fun e=>Wd o (e▸hs))),fun _ _ h _=>h,fun _ _ h=> .inl h,fun _ _ h=>h,fun _ _ h=> .inl h⟩
  refine⟨b,cap,cur,rfl,hg,iC,(Array.getElem?_eq_some_iff.1 hg).1,dw,mj _,⟨fun k o hs=>by simpa using hw.s k o hs,fun k l hl=>by simpa using hw.o k l hl,hw.d⟩,⟨?_,h.sz,h.fU,h.ll,vs.take (i*t.cells.length)++us++vs.drop (i*t.cells.length+us.length),?_,?_⟩⟩
  ·refine⟨_,rfl,by rw[List.length_set];exact h.len,fun x hx=> ?_⟩
   rcases List.mem_or_eq_of_mem_set hx with hx|rfl
   ·exact h.all x hx
   ·exact hd
  ·have tE:vs.length=xs.length*t.cells.length:=h1.1
   refine⟨by simp only[List.length_append,List.length_take,List.length_drop,List.length_set];omega, .inr ⟨b,cap,_,by rw[List.length_set],h0,setRow_heap w b _ _ T (0,0) hg,by rw[List.length_set];exact gN,H6,?_,?_⟩⟩
   ·simp only[List.size_toArray,List.length_append,List.length_take,List.length_drop,Array.length_toList];omega
   ·rw[←FZ,List.length_set]
    apply List.ext_getElem?
    intro j
    simp only[List.getElem?_append,List.getElem?_take,List.getElem?_drop,List.length_take,List.length_append,Array.length_toList,List.length_drop]
    by_cases c1:j<i*t.cells.length
    ·have e1:j<xs.length*t.cells.length:=by omega
     have e2:j<i*t.cells.length+us.length:=by omega
     have e3:j<min (i*t.cells.length) cur.size:=by omega
     have e4:j<min (i*t.cells.length) cur.size+us.length:=by omega
     have e5:j<min (i*t.cells.length) (min (xs.length*t.cells.length) cur.size):=by omega
     have e6:j<min (i*t.cells.length) (min (xs.length*t.cells.length) cur.size)+us.length:=by omega
     simp only[e1,e3,e4,e5,e6,c1,if_true]
    ·by_cases c2:j<i*t.cells.length+us.length
     ·rw[if_pos (by omega),if_pos (by omega),if_neg (by omega),if_pos (by omega),if_neg (by omega)]
      congr 1;omega
     ·by_cases c3:j<xs.length*t.cells.length
      ·rw[if_pos c3,if_neg (by omega),if_neg (by omega),if_pos (by omega)]
       congr 1;omega
      ·rw[if_neg c3,if_neg (by omega),if_neg (by omega)]
  ·intro k dk j u c hk hc hu
   have tE:vs.length=xs.length*t.cells.length:=h1.1
   have gz:dk.cells.length=t.cells.length:=by
    rcases List.mem_or_eq_of_mem_set (aS hk) with hx|rfl
    ·exact(bp (h.all _ hx)).1
    ·exact(bp hd).1
   have hj:j<t.cells.length:=by rw[←gz];exact(ai.1 hc).1
   have Zf:k<xs.length:=by have:=(ai.1 hk).1;rwa [List.length_set]at this
   have hmk:(k+1)*t.cells.length≤xs.length*t.cells.length:=Nat.mul_le_mul_right _ Zf
   rw[Nat.add_mul,Nat.one_mul]at hmk
   simp only[List.getElem?_append,List.getElem?_take,List.getElem?_drop,List.length_take,List.length_append]at hu
   rw[List.getElem?_set]at hk
   by_cases Md:i=k
   ·subst Md
    rw[if_pos rfl,if_pos hi]at hk
    injection hk with hk
    subst hk
    rw[if_pos (by omega),if_neg (by omega)]at hu
    refine(KF j u c ?_ hc).aB (mj _)
    rw[←hu];congr 1;omega
   ·rw[if_neg Md]at hk
    have dH:k*t.cells.length+j<i*t.cells.length∨i*t.cells.length+us.length≤k*t.cells.length+j:=by
     rcases Nat.lt_or_ge k i with h3|h3
     ·have:(k+1)*t.cells.length≤i*t.cells.length:=Nat.mul_le_mul_right _ h3
      rw[Nat.add_mul,Nat.one_mul]at this;omega
     ·have:(i+1)*t.cells.length≤k*t.cells.length:=Nat.mul_le_mul_right _ (by omega)
      rw[Nat.add_mul,Nat.one_mul]at this;omega
    refine(h2 k dk j u c hk hc ?_).aB (mj _)
    rw[←hu]
    rcases dH with h3|h3
    ·rw[if_pos (by omega),if_pos (by omega),if_pos (by omega)]
    ·rw[if_neg (by omega)]
     congr 1;omega
end
section
variable{L L' X X':Nat→Prop}{w w' yG:World}{S S' Mj:aO}{ow aT wU:Ow}{P:Program}
structure iJ(w:World)(ow:Ow)(l:Nat)(T:TypeId)(v:Value)(vs:List Value):Prop where
 own:w.ownsRow 0 T 1 v vs.length vs
 fU: ∀b,v.ownBlock=some b→ow b=some l
 ll:l<1000
theorem iJ.aB{l:Nat}{T:TypeId}{v:Value}{vs:List Value}(h:iJ w ow l T v vs)(hw:Wf w S ow)(st:aC L X w S ow w' S' aT)(hl: ¬L l):iJ w' aT l T v vs:=
 ⟨pO h.own (fun b hb=>st.B0 b l (hw.o b l (h.fU b hb)) (h.fU b hb) hl),fun b hb=>st.keep b l (h.fU b hb) hl,h.ll⟩
theorem iJ.nil{l:Nat}{T:TypeId}(hl:l<1000):iJ w ow l T (.slice none 0 0) [] :=⟨World.ownsRow_nil _ _ _ _,fun b hb=>(by cases hb),hl⟩
theorem iJ.elem{l:Nat}{T:TypeId}{v:Value}{vs:List Value}(h:iJ w ow l T v vs){i:Nat}{u:Value}(hi:vs[i]? =some u):
  ∃b cap,v= .slice (some ⟨b,0,none⟩) vs.length cap∧b<w.heap.size∧ow b=some l∧w.cell? ⟨b,i,none⟩=some u:=by
 have eX:i<vs.length:=(ai.1 hi).1
 rcases h.own.2 with⟨rfl,hn⟩|⟨g,cap,cur,rfl,_,hg,gN,H6,gS,FZ⟩
 ·omega
 ·refine⟨g,cap,rfl,(Array.getElem?_eq_some_iff.1 hg).1,h.fU g rfl,?_⟩
  have:=h.own.cells (g:=g) rfl i u hi
  rw[dD,Nat.zero_add]at this
  exact this
theorem iJ.slice{l:Nat}{T:TypeId}{v:Value}{vs:List Value}(h:iJ w ow l T v vs): ∃A cap,v= .slice A vs.length cap:=by
 rcases h.own.2 with⟨rfl,hn⟩|⟨g,cap,cur,rfl,_⟩
 ·exact⟨none,0,by rw[hn]⟩
 ·exact⟨_,cap,rfl⟩
def WJ(P:Program)(tt T:TypeId):Bool:=match P.underlying tt with
 |some (.slice e)=>e==T&&(match P.info? T with
  |some ie=>ie.size==1&&decide (ie.bytes≤24)&&(match ie.zero with
   |some z=>z.cells.size==1
   |none=>false)
  |none=>false)
 |_=>false
theorem iJ.rJ{l:Nat}{tt T:TypeId}{v u:Value}{vs:List Value}(h:iJ w ow l T v vs)(bM:WJ P tt T=true)(hw:Wf w S ow)(ty:TypeId)(A:Addr)(c:Nat)(hu:w.cell? A=some u)(fX:u.oneCell'=true)(hlen:vs.length+1≤1000000):
  ∃v' w',(Builtin.append_ #[tt,tt] ty #[v, .slice (some A) 1 c]).run P w= .ok v' w'∧ ∃aT,aC (bJ l) ae w S ow w' S aT∧Wf w' S aT∧iJ w' aT l T v' (vs++[u]):=by
 unfold WJ at bM
 split at bM
 ·rename_i e hue
  rw[aw,beq_iff_eq]at bM
  obtain⟨rfl,bM⟩:=bM
  split at bM
  ·rename_i ie qm
   simp only[aw,beq_iff_eq,aN]at bM
   obtain⟨⟨h1,h2⟩,h3⟩:=bM
   split at h3
   ·rename_i z hz
    rw[beq_iff_eq]at h3
    obtain⟨v',w',cM,ho,dR⟩:=fT (P:=P) w 0 tt ty e ie z 1 hue qm hz h1 h3 v vs.length vs h.own (some A) 1 c [u] (by intro h;cases h) rfl
     (by
      intro ad BY j x hx
      injection BY with BY;subst BY
      match j,hx with
      |0,hx=>simp at hx;subst hx;simpa [Addr.add]using hu) (by simpa using fX) (by simp only[maxLen];omega) (by
      have:(vs.length+1)*ie.bytes≤1000000*24:=Nat.mul_le_mul hlen h2
      omega) (Nat.zero_le _)
    have zj:w'.os=w.os∧w'.tape=w.tape∧w'.output=w.output∧w.heap.size≤w'.heap.size:=by
     rcases dR with⟨_,hg⟩|⟨_,hg⟩<;>exact⟨hg.os,hg.tape,hg.output,hg.size⟩
    have dq: ∀b,b<w.heap.size→v.ownBlock≠some b→w'.heap[b]? =w.heap[b]? :=by
     intro b hb dH
     rcases dR with⟨_,hg⟩|⟨_,hg⟩
     ·exact hg.block b hb (fun e=>dH e.symm)
     ·exact hg.block b hb (by simp)
    have Ie: ∀b,v.ownBlock=some b→ ∀o,¬S b o:=fun b hb o hs=>by have:=hw.d b o l hs (h.fU b hb);have:=h.ll;omega
    refine⟨v',w',cM,fun b=>if v'.ownBlock=some b then some l else ow b,⟨zj.2.2.2,zj.1,zj.2.1,zj.2.2.1,?_,?_,fun _ _ h=>h,?_,?_,fun _ _ h=> .inl h,?_,fun b l' hl=>(by
     replace hl:(if v'.ownBlock=some b then some l else ow b)=some l':=hl
     split at hl
     ·injection hl with hl;exact .inr hl.symm
     ·exact .inl hl)⟩,⟨fun b o hs=>Nat.lt_of_lt_of_le (hw.s b o hs) zj.2.2.2,?_,?_⟩,?_,?_,h.ll⟩
    ·intro b l' hb ho hl
     exact dq b hb (fun hv=>hl (by have:=(h.fU b hv).symm.trans ho;injection this with this;exact this.symm))
    ·intro b hb ho _
     exact dq b hb (fun hv=>by rw[h.fU b hv]at ho;cases ho)
    ·intro b o hs
     exact World.cell?_of_block (dq b (hw.s b o hs) (fun hb=>Ie b hb o hs))
    ·intro b l' ho hl
     show(if v'.ownBlock=some b then some l else ow b)=some l'
     rw[if_neg ?_]
     ·exact ho
     ·intro hv
      rcases dR with⟨he,_⟩|⟨he,_⟩
      ·have:=(h.fU b (he▸hv)).symm.trans ho
       injection this with this;exact hl this.symm
      ·rw[he]at hv;injection hv with hv
       have:=hw.o b l' ho
       omega
    ·intro b hb ho
     show(if v'.ownBlock=some b then some l else ow b)=none
     rw[if_neg ?_]
     ·exact ho
     ·intro hv
      rcases dR with⟨he,_⟩|⟨he,_⟩
      ·rw[h.fU b (he▸hv)]at ho;cases ho
      ·rw[he]at hv;injection hv with hv;omega
    ·intro b l' xQ
     replace xQ:(if v'.ownBlock=some b then some l else ow b)=some l':=xQ
     split at xQ
     ·rename_i hv;exact(ho.lt b hv).2
     ·exact Nat.lt_of_lt_of_le (hw.o b l' xQ) zj.2.2.2
    ·intro b o l' hs xQ
     replace xQ:(if v'.ownBlock=some b then some l else ow b)=some l':=xQ
     split at xQ
     ·rename_i hv
      rcases dR with⟨he,_⟩|⟨he,_⟩
      ·exact absurd hs (Ie b (he▸hv) o)
      ·rw[he]at hv;injection hv with hv
       have:=hw.s b o hs
       omega
     ·exact hw.d b o l' hs xQ
    ·rw[List.length_append];exact ho
    ·intro b hb
     show(if v'.ownBlock=some b then some l else ow b)=some l
     rw[if_pos hb]
   ·cases h3
  ·cases bM
 ·cases bM
theorem iJ.set{l i:Nat}{T:TypeId}{v u:Value}{vs:List Value}(h:iJ w ow l T v vs)(hw:Wf w S ow)(hi:i<vs.length):
  ∃(b cap:Nat) (cur:Array Value),v= .slice (some ⟨b,0,none⟩) vs.length cap∧w.heap[b]? =some (.cells cur T (0,0))∧i+1≤cur.size∧b<w.heap.size∧ow b=some l∧
   aC (bJ l) ae w S ow (w.setRow b (cur.toList.take i++[u] ++cur.toList.drop (i+1)).toArray) S ow∧Wf (w.setRow b (cur.toList.take i++[u] ++cur.toList.drop (i+1)).toArray) S ow∧
   iJ (w.setRow b (cur.toList.take i++[u] ++cur.toList.drop (i+1)).toArray) ow l T v (vs.set i u):=by
 rcases h.own.2 with⟨rfl,hn⟩|⟨b,cap,cur,rfl,h0,hg,gN,H6,gS,FZ⟩
 ·omega
 ·rw[Nat.mul_one]at gS FZ
  have dw:=h.fU b rfl
  have ho: ∀(r:Array Value) k,k≠b→(w.setRow b r).heap[k]? =w.heap[k]? :=fun r k hk=>setRow_other w _ k _ hk
  have Wd: ∀o,¬S b o:=fun o hs=>by have:=hw.d b o l hs dw;have:=h.ll;omega
  refine⟨b,cap,cur,rfl,hg,by omega,(Array.getElem?_eq_some_iff.1 hg).1,dw,
   ⟨by simp,rfl,rfl,rfl,fun k l' hk ks hn=>ho _ k (fun e=>hn (by rw[e,dw]at ks;injection ks with ks;exact ks.symm)),fun k hk hn _=>ho _ k (fun e=>by rw[e,dw]at hn;cases hn),fun _ _ h=>h,fun k o hs=>World.cell?_of_block (ho _ k (fun e=>Wd o (e▸hs))),fun _ _ h _=>h,fun _ _ h=> .inl h,fun _ _ h=>h,fun _ _ h=> .inl h⟩,
   ⟨fun k o hs=>by simpa using hw.s k o hs,fun k l hl=>by simpa using hw.o k l hl,hw.d⟩,⟨⟨by simp, .inr ⟨b,cap,_,by rw[List.length_set],h0,setRow_heap w b _ _ T (0,0) hg,by rw[List.length_set];exact gN,H6,?_,?_⟩⟩,h.fU,h.ll⟩⟩
  ·simp only[List.size_toArray,List.length_append,List.length_take,List.length_drop,Array.length_toList,List.length_singleton];omega
  ·have eX:i<cur.toList.length:=by rw[Array.length_toList];omega
   rw[List.length_set,Nat.mul_one,Bp eX]
   show List.take _ (cur.toList.set i u)=_
   rw[List.take_set,FZ]
def hZ(w:World)(S:aO)(ow:Ow)(l:Nat)(ob:Ob)(b:Nat)(cells:List (List D)):Prop:=
 ∃(β:Nat→Nat) (τ:Nat→Value),β 0=b∧C5 w S ob β τ [.pointer (some ⟨b,0,none⟩)] [] cells∧(∀B0,tI ob β τ B0→ow B0=some l)
theorem hZ.aB{l:Nat}{ob:Ob}{b:Nat}{cells:List (List D)}(h:hZ w S ow l ob b cells)(hw:Wf w S ow)(gX:Wf w' S' aT)(st:aC L X w S ow w' S' aT)(hl: ¬L l)(Tt:ob.shape=[true]):hZ w' S' aT l ob b cells:=by
 obtain⟨β,τ,hb,gY,uw⟩:=h
 have dq: ∀k,tI ob β τ k→w'.heap[k]? =w.heap[k]? :=fun k hk=>st.B0 k l (hw.o k l (uw k hk)) (uw k hk) hl
 have hSk: ∀k o,tI ob β τ k→S' k o→S k o:=by
  intro k o hk hs
  rcases st.new k o hs with h1|h1|⟨l',h1,h2⟩
  ·exact h1
  ·have:=hw.o k l (uw k hk);omega
  ·rw[uw k hk]at h1;injection h1 with h1;subst h1;exact absurd h2 hl
 refine⟨β,τ,hb,⟨gX.s,?_,gY.len,?_,gY.inj,gY.own,gY.cz,?_⟩,fun k hk=>st.keep k l (uw k hk) hl⟩
 ·have:=gY.args
  rw[Tt]at this⊢
  exact this
 ·intro o rc cs ho hc
  obtain⟨fW,T,h1,h2,h3,h4,h5⟩:=gY.ba o rc cs ho hc
  have lQ:o<ob.ba.length:=(ai.1 ho).1
  have hmo:tI ob β τ (β o):= .inl ⟨o,lQ,rfl⟩
  refine⟨fW,T,(dq _ hmo).trans h1,h2,h3,?_,fun o' hs=>h5 o' (hSk _ _ hmo hs)⟩
  intro i r v d hr hv hd
  have hc:=h4 i r v d hr hv hd
  obtain⟨t,ro⟩:=r
  cases ro with
  |none=>exact⟨hc.1.aB st,hc.2⟩
  |some jT=>
   obtain⟨j,TT⟩:=jT
   obtain⟨rfl,hO⟩:=hc
   have hj:j∈ob.ia:=List.mem_flatMap.2 ⟨rc,aS ho,List.mem_filterMap.2 ⟨_,aS hr,rfl⟩⟩
   refine⟨rfl,hO.has,hO.sz,?_⟩
   obtain⟨xs,l',a1,a2,a3,a4⟩:=hO.own
   refine⟨xs,l',a1,pO a2 (fun k hk=>dq k (.inr ⟨j,hj,hk⟩)),fun k hk o=> ?_,fun i d j u c b1 b2 b3=>(a4 i d j u c b1 b2 b3).aB st⟩
   rw[←a3 k hk o]
   exact⟨hSk k o (.inr ⟨j,hj,hk⟩),st.gV k o⟩
 ·intro aL o c rc ho hc
  have lQ:o<ob.ba.length:=(ai.1 ho).1
  rw[World.cell?_of_block (dq _ (.inl ⟨o,lQ,rfl⟩))]
  exact gY.link aL o c rc ho hc
end
section
variable{w w':World}{S S':aO}{ow aT:Ow}{P:Program}
theorem BE{β:Nat→Nat}: ∀{n:Nat} {vs:List Value} {ds:List D} {o:Nat},vs.length=n→ds.length=n→(∀(i:Nat) v d,vs[i]? =some v→ds[i]? =some d→bj w S v d)→qQ w S β (List.replicate n false) o vs ds
 |0,[],[],_,_,_,_=>trivial
 |n+1,v::vs,d::ds,o,hv,hd,h=>by
  refine⟨h 0 v d rfl rfl,BE (by simpa using hv) (by simpa using hd) fun i u e hu he=>h (i+1) u e (by simpa using hu) (by simpa using he)⟩
theorem hZ.call{f:Nat}{sig:bS}{ob ob0:Ob}{Pre:List D→Prop}{Φ:List D→D}{l b n:Nat}{cells:List (List D)}{vs:List Value}{dd:List D}(hf:ax P f sig Pre Φ)(dw:sig.ob=some ob)(tF:ob.wV=false)(Tt:ob.shape=true::List.replicate n false)(ku:ob.ba=ob0.ba)
  (gF:ob.outs=ob0.ba) (ahs:ob0.shape=[true]) (h2:1≤ob0.ba.length) (h2m:2≤ob0.ba.length∨ob.mv=false) (bw:bk sig.res=[]) (om:1000≤l) (h:hZ w S ow l ob0 b cells) (hw:Wf w S ow) (tE:vs.length=n) (qo:dd.length=n) (fa: ∀(i:Nat) v d,vs[i]? =some v→dd[i]? =some d→bj w S v d)
  (fV:bV (.bQ sig.params) (dd++cells.flatten)) (gE:Pre (dd++cells.flatten)):
  Calls P f (.pointer (some ⟨b,0,none⟩)::vs).toArray w fun e w'=> ∃v S' aT τ d0 outs,e= .returned v∧Φ (dd++cells.flatten)= .cW (d0::outs.map .agg)∧outs.length=ob0.ba.length∧aC (bJ l) ae w S ow w' S' aT∧Wf w' S' aT∧hZ w' S' aT l ob0 b outs∧eN w' 0 S' τ sig.res v d0:=by
 obtain⟨β,τ,hb,gY,uw⟩:=h
 have fM:ob.new=false:=by unfold Ob.new;rw[gF,ku];simp
 have qf:eZ ob.shape=1:=by
  have hz:(List.filter (fun b=>b) (List.replicate n false)).length=0:=by
   rw[List.length_eq_zero_iff,List.filter_eq_nil_iff]
   intro x hx
   rw[(List.mem_replicate.1 hx).2]
   decide
  rw[Tt]
  simp only[eZ,List.filter_cons,if_true,List.length_cons]
  omega
 have Oj:eZ ob0.shape=1:=by rw[ahs];rfl
 have hix:ob.ia=ob0.ia:=by unfold Ob.ia;rw[ku]
 have Pe: ∀k,tI ob β τ k↔tI ob0 β τ k:=fun k=>by unfold tI;rw[ku,hix]
 have MD:C5 w S ob β τ (.pointer (some ⟨b,0,none⟩)::vs) dd cells:=by
  refine⟨gY.lt,?_,by rw[ku];exact gY.len,by rw[ku];exact gY.ba,by rw[ku];exact gY.inj,by rw[hix];exact gY.own,by rw[hix,ku];exact gY.cz,fun hc=>by rw[ku];exact gY.link (by rw[Oj];rw[qf,ku]at hc;exact hc)⟩
  rw[Tt]
  exact⟨by rw[hb],BE tE qo fa⟩
 refine(hf.Ao ob dw tF w S β τ _ dd cells MD fV gE).mono ?_
 rintro e w1 ⟨v,S',τ',βn,rfl,ho⟩
 obtain⟨d0,outs,hd,lQ,cw,kY⟩:=ho.res
 rw[fM]at cw
 simp only[Bool.false_eq_true,if_false]at cw
 have Ad:outs.length=ob0.ba.length:=by rw[lQ,gF]
 have CQ: ∀o,o<ob0.ba.length→iL ob β βn o=β o∨(o=ob0.ba.length-1∧ob.mv=true∧iL ob β βn o=βn):=by
  intro o lQ
  unfold iL
  rw[ku]
  by_cases hc:ob.mv=true∧o=ob0.ba.length-1
  ·exact .inr ⟨hc.2,hc.1,if_neg (fun h=>h.2 hc)⟩
  ·exact .inl (if_pos ⟨lQ,hc⟩)
 have arh: ∀o,o<ob0.ba.length→tI ob0 β τ (iL ob β βn o)∨w.heap.size≤iL ob β βn o:=by
  intro o lQ
  rcases CQ o lQ with h1|⟨_,h1,h2⟩
  ·rw[h1];exact .inl (.inl ⟨o,lQ,rfl⟩)
  ·rw[h2]
   rcases ho.mvd h1 with h3|h3
   ·rw[h3,ku];exact .inl (.inl ⟨_,by omega,rfl⟩)
   ·exact .inr h3
 have qE: ∀j,j∈ob0.ia→j∈jk sig ob:=by
  intro j hj
  unfold jk
  rw[bw,gF]
  exact hj
 have Pf: ∀k,tI ob0 (iL ob β βn) τ' k→tI ob0 β τ k∨w.heap.size≤k:=by
  rintro k (⟨o,lQ,rfl⟩|⟨j,hj,hk⟩)
  ·exact arh o lQ
  ·rcases ho.dM j k (qE j hj) hk with h1|h1
   ·exact .inr h1
   ·exact .inl ((Pe k).1 h1)
 have H8: ∀k,tI ob0 β τ k→k<w.heap.size:=fun k hk=>hw.o k l (uw k hk)
 have fo:=ho.below.size
 classical
 refine⟨v,S',fun k=>if tI ob0 (iL ob β βn) τ' k then some l else if ow k=some l then none else ow k,τ',d0,outs,rfl,hd,Ad,⟨fo,ho.below.os,ho.below.tape,ho.below.output,?_,?_,ho.gV,ho.keep,?_,?_,?_,fun k l' hk=>(by
   replace hk:(if tI ob0 (iL ob β βn) τ' k then some l else if ow k=some l then none else ow k)=some l':=hk
   split at hk
   ·injection hk with hk;exact .inr hk.symm
   ·split at hk
    ·cases hk
    ·exact .inl hk)⟩,⟨ho.lt,?_,?_⟩,⟨iL ob β βn,τ',?_,⟨ho.lt,?_,by rw[Ad],?_,?_,?_,?_,?_⟩,fun k hk=>if_pos hk⟩,cw⟩
 ·intro k l' hk lQ hn
  exact ho.below.block k hk (fun hm=>hn (by have:=(uw k ((Pe k).1 hm)).symm.trans lQ;injection this with this;exact this.symm))
 ·intro k hk hn _
  exact ho.below.block k hk (fun hm=>by rw[uw k ((Pe k).1 hm)]at hn;cases hn)
 ·intro k l' hk hn
  show(if tI ob0 (iL ob β βn) τ' k then some l else if ow k=some l then none else ow k)=some l'
  rw[if_neg,if_neg,hk]
  ·rw[hk];intro e;injection e with e;exact hn e
  ·intro hm
   rcases Pf k hm with h1|h1
   ·have:=(uw k h1).symm.trans hk
    injection this with this;exact hn this.symm
   ·have:=hw.o k l' hk;omega
 ·intro k o hs
  rcases ho.new k o hs with h1|h1|h1
  ·exact .inl h1
  ·exact .inr (.inl h1)
  ·exact .inr (.inr ⟨l,uw k ((Pe k).1 h1),rfl⟩)
 ·intro k hk hn
  show(if tI ob0 (iL ob β βn) τ' k then some l else if ow k=some l then none else ow k)=none
  rw[if_neg,if_neg (by rw[hn];intro e;cases e)]
  ·exact hn
  ·intro hm
   rcases Pf k hm with h1|h1
   ·rw[uw k h1]at hn;cases hn
   ·omega
 ·intro k l' hk
  replace hk:(if tI ob0 (iL ob β βn) τ' k then some l else if ow k=some l then none else ow k)=some l':=hk
  split at hk
  ·rename_i hm
   rcases Pf k hm with h1|h1
   ·exact Nat.lt_of_lt_of_le (H8 k h1) fo
   ·rcases hm with⟨o,lQ,rfl⟩|⟨j,hj,B7⟩
    ·obtain⟨rc,mB⟩: ∃rc,ob0.ba[o]? =some rc:=⟨_,av lQ⟩
     obtain⟨cs,gS⟩: ∃cs,outs[o]? =some cs:=⟨_,av (by omega)⟩
     obtain⟨fW,T,hh,_⟩:=kY o rc cs (by rw[gF];exact mB) gS
     exact(Array.getElem?_eq_some_iff.1 hh).1
    ·obtain⟨rc,mB,hjr⟩:=List.mem_flatMap.1 hj
     obtain⟨x,hx,hxj⟩:=List.mem_filterMap.1 hjr
     obtain⟨o,lQ,hoe⟩:=List.getElem_of_mem mB
     obtain⟨i,eX,qm⟩:=List.getElem_of_mem hx
     obtain⟨cs,gS⟩: ∃cs,outs[o]? =some cs:=⟨_,av (by omega)⟩
     obtain⟨fW,T,hh,h3,h4,h5,_⟩:=kY o rc cs (by rw[gF,av lQ,hoe]) gS
     have hc:=h5 i x (fW[i]'(by omega)) (cs[i]'(by omega)) (by rw[av eX,qm]) (av _) (av _)
     obtain⟨t,ro⟩:=x
     cases ro with
     |none=>cases hxj
     |some jT=>
      simp only[Option.map_some,Option.some.injEq]at hxj
      subst hxj
      obtain⟨_,hO⟩:=hc
      obtain⟨xs,l2,_,a2,_⟩:=hO.own
      exact(a2.lt k B7).2
  ·split at hk
   ·cases hk
   ·exact Nat.lt_of_lt_of_le (hw.o k l' hk) fo
 ·intro k o l' hs hk
  replace hk:(if tI ob0 (iL ob β βn) τ' k then some l else if ow k=some l then none else ow k)=some l':=hk
  split at hk
  ·injection hk with hk;omega
  ·split at hk
   ·cases hk
   ·rename_i dH
    rcases ho.new k o hs with h1|h1|h1
    ·exact hw.d k o l' h1 hk
    ·have:=hw.o k l' hk;omega
    ·exact absurd (uw k ((Pe k).1 h1)) dH
 ·rcases CQ 0 (by omega) with h1|⟨h1,h3,_⟩
  ·rw[h1,hb]
  ·rcases h2m with h4|h4
   ·omega
   ·rw[h3]at h4;cases h4
 ·rw[ahs]
  refine⟨?_,trivial⟩
  rcases CQ 0 (by omega) with h1|⟨h1,h3,_⟩
  ·rw[h1,hb]
  ·rcases h2m with h4|h4
   ·omega
   ·rw[h3]at h4;cases h4
 ·intro o rc cs h1 h3
  exact kY o rc cs (by rw[gF];exact h1) h3
 ·intro i j hi hj he
  rcases CQ i hi with h1|⟨h1,hm1,h3⟩
  ·rcases CQ j hj with h4|⟨h4,hm4,h5⟩
   ·rw[h1,h4]at he
    exact gY.inj i j hi hj he
   ·rw[h1,h5]at he
    rcases ho.mvd hm4 with h6|h6
    ·rw[h6,ku]at he
     have:=gY.inj i (ob0.ba.length-1) hi (by omega) he
     omega
    ·have:=H8 (β i) (.inl ⟨i,hi,rfl⟩);omega
  ·rcases CQ j hj with h4|⟨h4,_⟩
   ·rw[h3,h4]at he
    rcases ho.mvd hm1 with h6|h6
    ·rw[h6,ku]at he
     have:=gY.inj (ob0.ba.length-1) j (by omega) hj he
     omega
    ·have:=H8 (β j) (.inl ⟨j,hj,rfl⟩);omega
   ·omega
 ·intro j k b' hj hk h1 h3
  exact ho.own j k b' (qE j hj) (qE k hk) h1 h3
 ·intro j o b' hj lQ h1
  exact ho.cz j o b' (qE j hj) (by rw[gF];exact lQ) h1
 ·intro aL o c rc h1 h3
  have:=ho.link (by rw[qf,ku];rw[Oj]at aL;exact aL) o c rc (by rw[gF];exact h1) h3
  rw[ku]at this
  exact this
theorem De{f:Nat}{sig:bS}{Pre:List D→Prop}{Φ:List D→D}{vs:List Value}{dd:List D}(hf:ax P f sig Pre Φ)(dw:sig.ob=none)(hw:Wf w S ow)(hl:vs.length=dd.length)(fa: ∀(i:Nat) v d,vs[i]? =some v→dd[i]? =some d→bj w S v d)
  (fV:bV (.bQ sig.params) dd) (gE:Pre dd):
  Calls P f vs.toArray w fun e w'=> ∃v S' τ,e= .returned v∧aC ae ae w S ow w' S' ow∧Wf w' S' ow∧eN w' 0 S' τ sig.res v (Φ dd):=by
 refine(hf.calls dw w S vs dd hw.s hl fa fV gE).mono ?_
 rintro e w1 ⟨v,S',τ,rfl,hb,h1,h2,h3,h4,_⟩
 refine⟨v,S',τ,rfl,⟨hb.size,hb.os,hb.tape,hb.output,fun b _ fu _ _=>hb.block b fu,fun b fu _ _=>hb.block b fu,h1,fun b o hs=>World.cell?_of_block (hb.block b (hw.s b o hs)),fun _ _ h _=>h,fun b o hs=>(h3 b o hs).imp id .inl,fun _ _ h=>h,fun _ _ h=> .inl h⟩,⟨h2,fun b l hl=>Nat.lt_of_lt_of_le (hw.o b l hl) hb.size,?_⟩,h4⟩
 intro b o l hs hl
 rcases h3 b o hs with h5|h5
 ·exact hw.d b o l h5 hl
 ·have:=hw.o b l hl;omega
end
theorem RJ{P:Program}(w:World)(tt T:TypeId)(u:Value)(ie:TypeInfo)(z:Value)(hu:P.underlying tt=some (.slice T))(qm:P.info? T=some ie)(hz:ie.zero=some z)(fo:u.cells.size=ie.size)(ev:0<ie.size)(Ax:ie.size≤2 ^ 24):
  (Instr.buildSlice tt 1 #[(0,u)]).run P w= .ok (.slice (some ⟨w.heap.size,0,none⟩) 1 1) (w.alloc (.cells u.cells T)):=by
 refine run_buildSlice w tt T 1 _ u.cells ie z hu qm hz (by omega) (by omega) ?_
 obtain⟨us,L9⟩: ∃us:List Value,u.cells=us.toArray:=⟨u.cells.toList,by simp⟩
 simp only[Instr.fill,Nat.zero_mul,Nat.one_mul,Nat.zero_add]
 rw[L9]at fo⊢
 have Cl:us.length=ie.size:=by simpa using fo
 obtain⟨vs,Ox,tE⟩: ∃vs:List Value,(Array.range ie.size).map (fun x=>z.cells[x % z.cells.size]!)=vs.toArray∧vs.length=ie.size:=⟨((Array.range ie.size).map (fun x=>z.cells[x % z.cells.size]!)).toList,by rw[Array.toArray_toList],by simp⟩
 rw[Ox]
 have hf:=foldl_set 0 us 0 vs (by omega)
 simp only[Nat.zero_add,List.take_zero,List.nil_append]at hf
 have akw:vs.drop us.length=[] :=List.drop_of_length_le (by omega)
 rw[akw,List.append_nil]at hf
 have k7: ¬((us.toArray.size≠ie.size||decide (us.toArray.size>vs.toArray.size))=true):=by
  simp[Cl,tE]
 rw[if_neg k7]
 have h3:us.toArray.zipIdx.foldl (fun cs (x:Value×Nat)=>cs.setIfInBounds x.2 x.1) vs.toArray=us.toArray:=by
  rw[show us.toArray.zipIdx=(us.zipIdx).toArray by simp]
  exact(List.foldl_toArray' _ _ _ (by simp)).trans hf
 exact congrArg some h3
def Gt(P:Program)(tt T:TypeId)(k:Nat):Bool:=match P.underlying tt with
 |some (.slice e)=>e==T&&(match P.info? T with
  |some ie=>ie.size==k&&ie.zero.isSome&&decide (0<k)&&decide (k≤100)
  |none=>false)
 |_=>false
theorem NB{P:Program}{tt T:TypeId}{k:Nat}(h:Gt P tt T k=true)(w:World)(u:Value)(hu:u.cells.size=k):(Instr.buildSlice tt 1 #[(0,u)]).run P w= .ok (.slice (some ⟨w.heap.size,0,none⟩) 1 1) (w.alloc (.cells u.cells T)):=by
 unfold Gt at h
 split at h
 ·rename_i e he
  rw[aw,beq_iff_eq]at h
  obtain⟨rfl,h⟩:=h
  split at h
  ·rename_i ie qm
   simp only[aw,beq_iff_eq,aN]at h
   obtain⟨⟨⟨h1,h2⟩,h3⟩,h4⟩:=h
   obtain⟨z,hz⟩:=Option.isSome_iff_exists.1 h2
   exact RJ w tt e u ie z he qm hz (by omega) (by omega) (by omega)
  ·cases h
 ·cases h
section
variable{P:Program}{ops:Array Oper}{Q:Exit→Act→World→Prop}{SS:World→Prop}{n n0 i d:Nat}{a:Act}{w:World}{m:List (Nat×Value)}{gd:Option (Nat×Bool)}{LL r:List OK}
variable{x y z:Operand}{t t2 tt T:TypeId}{v u:Value}{S:aO}{ow:Ow}
theorem qR{us:List Value}(k:Kn n a m)(hi:n0≤i)(hg:pU LL m gd=some true)(hd:d<n)(hx:lB m x=some v)(hc:v.cells=us.toArray)(hS:r≠ [] →SS (w.alloc (.cells us.toArray t)))
  (h: ∀a',Kn n a' ((d, .pointer (some ⟨w.heap.size,0,none⟩))::m)→TL P ops Q SS n0 LL r (i+1) a' (w.alloc (.cells us.toArray t))):TL P ops Q SS n0 LL ((some d, .box t x,gd)::r) i a w:=by
 refine uG k hi hg hd (fun ty pos af=>⟨_,_,?_,hS,h⟩)
 have:=k.op hx
 unfold execOp;simp only[Instr.box]
 simp[newVar,newRow,this,hc]
theorem lj{nn:Nat}(k:Kn n a m)(hi:n0≤i)(hg:pU LL m gd=some true)(hd:d<n)(hz:((P.info? t).bind (·.zero)).map (fun z=>z.cells.size)=some nn)(hS: ∀zs:List Value,r≠ [] →SS (w.alloc (.cells zs.toArray t)))
  (h: ∀zs:List Value,zs.length=nn→ ∀a',Kn n a' ((d, .pointer (some ⟨w.heap.size,0,none⟩))::m)→TL P ops Q SS n0 LL r (i+1) a' (w.alloc (.cells zs.toArray t))):TL P ops Q SS n0 LL ((some d, .alloc t,gd)::r) i a w:=by
 refine uG k hi hg hd (fun ty pos af=> ?_)
 obtain⟨zs,h1,h2⟩:=Kv (P:=P) (a:=a) (w:=w) (dst:=some d) (ty:=ty) (pos:=pos) (af:=af) (gd:=gd) hz
 refine⟨_,_,?_,hS zs.toList,h zs.toList (by simpa using h1)⟩
 simpa using h2
theorem nt{kk:Nat}(k:Kn n a m)(hi:n0≤i)(hg:pU LL m gd=some true)(hd:d<n)(hx:lB m x=some v)(hl:Gt P tt T kk=true)(hc:v.cells.size=kk)(hS:r≠ [] →SS (w.alloc (.cells v.cells T)))
  (h: ∀a',Kn n a' ((d, .slice (some ⟨w.heap.size,0,none⟩) 1 1)::m)→TL P ops Q SS n0 LL r (i+1) a' (w.alloc (.cells v.cells T))):TL P ops Q SS n0 LL ((some d, .buildSlice tt 1 #[(0,x)],gd)::r) i a w:=by
 refine uG k hi hg hd (fun ty pos af=>⟨_,_,?_,hS,h⟩)
 have:=k.op hx
 have h1:=NB hl w v hc
 unfold execOp
 simp[this,h1]
theorem lh{parts:Array (Nat×Operand)}{ps:List (Nat×Value)}{vs:List Value}(k:Kn n a m)(hS:SS w)(hg:pU LL m gd=some true)(hd:d<n)(hp:parts.toList.map (fun y=>(lB m y.2).map fun v=>(y.1,v))=ps.map some)(hb:P.built t ps=some vs.toArray)
  (h: ∀a',Kn n a' ((d, .agg vs.toArray)::m)→TL P ops Q SS n0 LL r (i+1) a' w):TL P ops Q SS n0 LL ((some d, .build t parts,gd)::r) i a w:=by
 refine qg k hS hg hd (fun ty pos af w' _=> ?_) h
 have hq:(parts.map fun(i,x)=>(i,a.eval x)).toList=ps:=by
  rw[Array.toList_map]
  have key: ∀(l:List (Nat×Operand)) (qs:List (Nat×Value)),l.map (fun y=>(lB m y.2).map fun v=>(y.1,v))=qs.map some→l.map (fun y=>(y.1,a.eval y.2))=qs:=by
   intro l
   induction l with
   |nil=>intro qs h;cases qs with|nil=>rfl|cons=>cases h
   |cons y l ih=>
    intro qs h
    cases qs with
    |nil=>cases h
    |cons q qs=>
     simp only[List.map_cons,List.cons.injEq,br]at h
     obtain⟨⟨v,h1,h2⟩,h3⟩:=h
     rw[List.map_cons,ih qs h3,k.op h1,h2]
  exact key parts.toList ps hp
 unfold execOp;simp only[Sem.run_bind,run_build w' t _ _ (hq▸hb),Result.andThen_ok]
 rfl
theorem lM{b off:Nat}{cur:Array Value}{TT:TypeId}{vs:List Value}(k:Kn n a m)(hi:n0≤i)(hg:pU LL m gd=some true)(hs:fG P t=some vs.length)(hx:lB m x=some (.pointer (some ⟨b,off,none⟩)))(hy:lB m y=some v)(hc:v.cells=vs.toArray)
  (iS:w.heap[b]? =some (.cells cur TT (0,0))) (hlen:off+vs.length≤cur.size) (fX: ∀v∈vs,v.oneCell'=true) (hS:r≠ [] →SS (w.setRow b (cur.toList.take off++vs++cur.toList.drop (off+vs.length)).toArray))
  (h: ∀a',Kn n a' m→TL P ops Q SS n0 LL r (i+1) a' (w.setRow b (cur.toList.take off++vs++cur.toList.drop (off+vs.length)).toArray)):TL P ops Q SS n0 LL ((none, .store t x y,gd)::r) i a w:=
 apC k hi hg (fun ty pos af=>Ks hs (k.op hx) (by rw[k.op hy];exact hc) iS hlen fX) hS h
theorem iN{b off:Nat}{cur:List Value}{TT:TypeId}(k:Kn n a m)(hi:n0≤i)(hg:pU LL m gd=some true)(hs:fG P t=some 1)(hx:lB m x=some (.pointer (some ⟨b,off,none⟩)))(hy:lB m y=some v)(hc:v.cells= #[v])
  (iS:w.heap[b]? =some (.cells cur.toArray TT (0,0))) (hlen:off<cur.length) (fX:v.oneCell'=true) (hS:r≠ [] →SS (w.setRow b (cur.set off v).toArray))
  (h: ∀a',Kn n a' m→TL P ops Q SS n0 LL r (i+1) a' (w.setRow b (cur.set off v).toArray)):TL P ops Q SS n0 LL ((none, .store t x y,gd)::r) i a w:=by
 have e:(cur.toArray.toList.take off++[v] ++cur.toArray.toList.drop (off+[v].length))=cur.set off v:=Bp hlen
 refine lM (vs:=[v]) (cur:=cur.toArray) k hi hg hs hx hy (by rw[hc]) iS (by simp;omega) (by simpa using fX) ?_ ?_
 ·rw[e];exact hS
 ·rw[e];exact h
end
theorem results_tmp{fn:Func}{t:Nat}(h:fn.results= #[.tmp t])(tmps:Array Value)(P:Program)(w:World):(results fn tmps).run P w= .ok (tmps.getD t undef) w:=by
 simp[results,h]
theorem mn{P:Program}{fn:Func}{R:Ending→World→Prop}{a:Act}{w:World}{n:Nat}{m:List (Nat×Value)}(hr:fn.results= #[])(k:Kn n a m)(h:R (.returned (.tuple #[])) w):bodyPost P fn R .ret a w∧bodyPost P fn R .normal a w:=
 ⟨⟨k.2.1,_,results_none hr _ _ _,h⟩,⟨k.2.1,_,results_none hr _ _ _,h⟩⟩
theorem oQ{P:Program}{fn:Func}{R:Ending→World→Prop}{a:Act}{w:World}{n t:Nat}{m:List (Nat×Value)}{v:Value}(hr:fn.results= #[.tmp t])(k:Kn n a m)(ht:lk m t=some v)(h:R (.returned v) w):bodyPost P fn R .ret a w∧bodyPost P fn R .normal a w:=by
 have h1:=k.2.2 t v ht
 have h2:a.tmps.getD t undef=v:=by simp[h1]
 exact⟨⟨k.2.1,_,results_tmp hr _ _ _,by rw[h2];exact h⟩,⟨k.2.1,_,results_tmp hr _ _ _,by rw[h2];exact h⟩⟩
theorem gp{P:Program}{fn:Func}{R:Ending→World→Prop}:QP (bodyPost P fn R):=fun c a d v w h=>(by cases d<;>exact h)
def GL:List Value→Nat→List (Nat×Value)
 | [],_=> []
 |v::r,i=>(i,v)::GL r (i+1)
theorem DF: ∀(l:List Value) (i t:Nat) (v:Value),lk (GL l i) t=some v→i≤t∧l[t-i]? =some v
 | [],_,_,_,h=>by cases h
 |x::r,i,t,v,h=>by
  simp only[GL,lk]at h
  split at h
  ·rename_i he
   have F4:t=i:=by simpa using he
   subst F4
   injection h with h;subst h
   exact⟨Nat.le_refl _,by simp⟩
  ·obtain⟨h1,h2⟩:=DF r (i+1) t v h
   refine⟨by omega,?_⟩
   rw[show t-i=(t-(i+1))+1 by omega]
   simpa using h2
theorem RC{n:Nat}{vs:List Value}(h:vs.length≤n):Kn n {tmps:=vs.toArray++Array.replicate (n-vs.toArray.size) undef,defers:=[]} (GL vs 0):=by
 refine⟨by simp;omega,rfl,fun t v ht=> ?_⟩
 obtain⟨_,h2⟩:=DF vs 0 t v ht
 rw[Nat.sub_zero]at h2
 have hl:=(ai.1 h2).1
 rw[Array.getElem?_append_left (by simpa using hl)]
 simpa using h2
theorem jZ{P:Program}{f:FuncId}{fn:Func}{n:Nat}{c:Code}{vs:List Value}{w:World}{R:Ending→World→Prop}(hf:P.funcs[f]? =some fn)(hb:fn.body=some (fy fn))(hc:fy fn=c)(hn:fn.ntmps=n)(hl:vs.length≤n)
  (h: ∀a,Kn n a (GL vs 0)→c.wp P (bodyPost P fn R) a w):Calls P f vs.toArray w R:=by
 refine calls_of_wp hf hb ?_
 rw[hc,hn]
 exact h _ (RC hl)
theorem aR{P:Program}{Q:Exit→Act→World→Prop}{n:Nat}{a:Act}{w:World}{m:List (Nat×Value)}{c:Operand}{x y:Code}{b:Bool}(k:Kn n a m)(hc:lB m c=some (.bool b))(h:(if b then x else y).wp P Q a w):(Code.cond c x y).wp P Q a w:=wp_cond (k.op hc) h
section
variable{L L' X X':Nat→Prop}{w w' yG:World}{S S' Mj:aO}{ow aT wU:Ow}
theorem aC.tr(hw:Wf w S ow)(gX:Wf w' S' aT)(h:aC L X w S ow w' S' aT)(k:aC L' X' w' S' aT yG Mj wU)(hX: ∀b,X' b→X b∨w.heap.size≤b):aC (fun l=>L l∨L' l) X w S ow yG Mj wU:=by
 refine aC.trans hw gX h k hX ?_
 intro b l hb ho hl
 cases h0:ow b with
 |none=>rw[h.tu b hb h0]at ho;cases ho
 |some l0=>
  refine⟨l0,rfl,?_⟩
  by_cases hL:L l0
  ·exact .inl hL
  ·rw[h.keep b l0 h0 hL]at ho
   injection ho with ho
   subst ho;exact hl
theorem aC.N3{l:Nat}(hw:Wf w S ow)(gX:Wf w' S' aT)(h:aC (bJ l) X w S ow w' S' aT)(k:aC (bJ l) X' w' S' aT yG Mj wU)(hX: ∀b,X' b→X b∨w.heap.size≤b):aC (bJ l) X w S ow yG Mj wU:=
 (h.tr hw gX k hX).mono (fun _ h=>h.elim id id) (fun _ h=>h)
theorem aC.trN{l:Nat}(hw:Wf w S ow)(gX:Wf w' S' aT)(h:aC ae X w S ow w' S' aT)(k:aC (bJ l) X' w' S' aT yG Mj wU)(hX: ∀b,X' b→X b∨w.heap.size≤b):aC (bJ l) X w S ow yG Mj wU:=
 (h.tr hw gX k hX).mono (fun _ h=>h.elim (fun h=>h.elim) id) (fun _ h=>h)
theorem aC.sx{l:Nat}(h:aC (bJ l) ae w S ow w' S' aT):SX (fun b=>ow b=some l) w w':=by
 refine⟨h.size,fun b hb hx=> ?_⟩
 cases ho:ow b with
 |none=>exact h.free b hb ho (fun h=>h)
 |some l'=>exact h.B0 b l' hb ho (fun e=>hx (ho.trans (congrArg some e)))
theorem aC.BS(h:aC ae ae w S ow w' S' aT)(X:Nat→Prop):SX X w w':=by
 refine⟨h.size,fun b hb _=> ?_⟩
 cases ho:ow b with
 |none=>exact h.free b hb ho (fun h=>h)
 |some l'=>exact h.B0 b l' hb ho (fun h=>h)
theorem SX.alloc(X:Nat→Prop)(w:World)(o:Obj):SX X w (w.alloc o):=⟨by simp,fun b hb _=>Below.heap_alloc w o b hb⟩
theorem SX.trans{X:Nat→Prop}(h:SX X w w')(k:SX X w' yG):SX X w yG:=⟨Nat.le_trans h.1 k.1,fun b hb hx=>(k.2 b (Nat.lt_of_lt_of_le hb h.1) hx).trans (h.2 b hb hx)⟩
theorem SX.fU{X:Nat→Prop}{l:Nat}(hX: ∀b,ow b=some l→X b)(h:aC (bJ l) ae w S ow w' S' aT):SX X w w':=⟨h.size,fun b hb hx=>h.sx.2 b hb (fun e=>hx (hX b e))⟩
theorem bU.MP{P:Program}{l:Nat}{tt T:TypeId}{t:Ty}{v:Value}{xs:List D}{d:D}(h:bU w S ow l T t v xs)(bM:QG P tt T t=true)(jC:t.cells.all Ty.scalar=true)(hw:Wf w S ow)(ty:TypeId)(B:Nat)(hd:Has t d){us:List Value}(zi:us.length=t.cells.length)
  (hB:w.heap[B]? =some (.cells us.toArray T (0,0))) (hr: ∀(j:Nat) u c,us[j]? =some u→d.cells[j]? =some c→bj w S u c) (hlen:lP t (xs.length+1)):
  ∃v' w',(Builtin.append_ #[tt,tt] ty #[v, .slice (some ⟨B,0,none⟩) 1 1]).run P w= .ok v' w'∧ ∃aT,aC (bJ l) ae w S ow w' S aT∧Wf w' S aT∧bU w' S aT l T t v' (xs++[d]):=by
 refine h.rJ (ys:=[d]) bM jC hw ty (some ⟨B,0,none⟩) 1 us (by intro h;cases h) (by rw[zi];simp) ?_ (by simpa using hd) ?_ hlen
 ·intro ad BY j u hu
  injection BY with BY;subst BY
  rw[dD,Nat.zero_add]
  exact gK hB hu
 ·intro i dd j u c h1 h2 h3
  match i,h1 with
  |0,h1=>
   simp at h1;subst h1
   rw[Nat.zero_mul,Nat.zero_add]at h3
   exact hr j u c h3 h2
end
section
variable{w w':World}{S:aO}{ow:Ow}{P:Program}{ops:Array Oper}{Q:Exit→Act→World→Prop}{SS:World→Prop}{n n0 i d:Nat}{a:Act}{m:List (Nat×Value)}{gd:Option (Nat×Bool)}{LL r:List OK}{x y z:Operand}{t:TypeId}{v:Value}
theorem I2{el:TypeId}{b nn cap sz s:Nat}{kk:IntKind}(k:Kn n a m)(hS:SS w)(hg:pU LL m gd=some true)(hd:d<n)(hx:lB m x=some (.slice (some ⟨b,0,none⟩) nn cap))(hy:lB m y=some (.int kk (s:Int)))(hu:P.underlying t=some (.slice el))(fo:fG P el=some sz)(h1:s<nn)
  (h: ∀a',Kn n a' ((d, .pointer (some ⟨b,s*sz,none⟩))::m)→TL P ops Q SS n0 LL r (i+1) a' w):TL P ops Q SS n0 LL ((some d, .indexAddr t x y,gd)::r) i a w:=by
 refine oG (off:=0) k hS hg hd hx hy hu fo (by omega) (by omega) ?_
 rw[Nat.zero_add,Int.toNat_natCast]
 exact h
theorem ez{X:Nat→Prop}{b o:Nat}{v:Value}(hb:b<w.heap.size)(hX: ¬X b)(h:w.cell? ⟨b,o,none⟩=some v): ∀w',SX X w w'→w'.cell? ⟨b,o,none⟩=some v:=fun w' hw=>(World.cell?_of_block (hw.2 b hb hX)).trans h
theorem dP.cell{b j:Nat}{T:TypeId}{vs:List Value}{v:Value}(h:dP w S ow b T vs){X:Nat→Prop}(hX: ¬X b)(hj:vs[j]? =some v): ∀w',SX X w w'→w'.cell? ⟨b,j,none⟩=some v:=ez h.lt hX (gK h.heap hj)
end
theorem bU.vO{w:World}{S:aO}{ow:Ow}{fU i T:Nat}{v:Value}{l:List D}{n:Int}(h:bU w S ow fU T (.int .i64) v l)(hi:l[i]? =some (.int .i64 n)):
  ∃b cap,v= .slice (some ⟨b,0,none⟩) l.length cap∧b<w.heap.size∧ow b=some fU∧w.cell? ⟨b,i*1,none⟩=some (.int .i64 n):=by
 obtain⟨b,cap,us,h1,h2,h3,h4,h5,h6⟩:=h.elem hi
 have Tf:us.length=1:=h4
 match us,Tf with
 | [u],_=>
  have hu:=(h6 0 u (.int .i64 n) rfl rfl).bD
  subst hu
  exact⟨b,cap,h1,h2,h3,h5 0 _ rfl⟩
theorem dP.aG{w w1:World}{S:aO}{ow:Ow}{b:Nat}{T:TypeId}{vs:List Value}(h:dP w S ow b T vs)(e:DV w w1):dP w1 S ow b T vs:=h.aB (aC.aG e ae ae S ow) (fun h=>h)
theorem acU{p q:Int}(h:p<q):IV .lss p q=some true:=congrArg some (decide_eq_true h)
theorem acW{p q:Int}(h: ¬p<q):IV .lss p q=some false:=congrArg some (decide_eq_false h)
theorem acV{p q:Int}(h:p>q):IV .gtr p q=some true:=congrArg some (decide_eq_true h)
theorem Rw{p q:Int}(h: ¬p>q):IV .gtr p q=some false:=congrArg some (decide_eq_false h)
theorem aC.dJ{L:Nat→Prop}{w0 w w1:World}{S0 S S1:aO}{kK ow dA:Ow}{l:Nat}(gi:Wf w0 S0 kK)(hw:Wf w S ow)(h:aC L ae w0 S0 kK w S ow)(k:aC (bJ l) ae w S ow w1 S1 dA)(hl:L l):aC L ae w0 S0 kK w1 S1 dA:=
 (h.tr gi hw k (fun _ h=>h.elim)).mono (fun _ h=>h.elim id (fun e=>by rw[show _=l from e];exact hl)) (fun _ h=>h)
theorem aC.aF{L X:Nat→Prop}{w0 w w1:World}{S0 S S1:aO}{kK ow dA:Ow}(gi:Wf w0 S0 kK)(hw:Wf w S ow)(h:aC L ae w0 S0 kK w S ow)(k:aC ae X w S ow w1 S1 dA)(hX: ∀b,X b→w0.heap.size≤b):aC L ae w0 S0 kK w1 S1 dA:=
 (h.tr gi hw k (fun b h=> .inr (hX b h))).mono (fun _ h=>h.elim id (fun e=>e.elim)) (fun _ h=>h)
section
variable{P:Program}{ops:Array Oper}{Q:Exit→Act→World→Prop}{SS:World→Prop}{n n0 i d:Nat}{a:Act}{w:World}{m:List (Nat×Value)}{gd:Option (Nat×Bool)}{LL r:List OK}{x y z:Operand}{t t2:TypeId}{v:Value}
def ptB(P:Program)(t:TypeId):Bool:=match P.underlying t with
 |some (.pointer _)=>true
 |_=>false
theorem abd{p:Option Addr}(hu:ptB P t=true)(k:Kn n a m)(hS:SS w)(hg:pU LL m gd=some true)(hd:d<n)(hx:lB m x=some (.pointer p))(hy:lB m y=some (.pointer none))
  (h: ∀a',Kn n a' ((d, .bool p.isSome)::m)→TL P ops Q SS n0 LL r (i+1) a' w):TL P ops Q SS n0 LL ((some d, .binOp .neq t x y t2,gd)::r) i a w:=by
 refine qg k hS hg hd (fun ty pos af w' _=> ?_) h
 have h1:=k.op hx
 have h2:=k.op hy
 unfold execOp
 unfold ptB at hu
 split at hu
 ·rename_i el he
  have h3:=nU (w:=w') he p x y
  have h4:(do eqGuard .neq t x y (.pointer p) (.pointer none);binOp .neq t (.pointer p) (.pointer none):Sem Value).run P w'= .ok (.bool p.isSome) w':=by rw[h3];cases p<;>rfl
  simp only[h1,h2]
  rw[Sem.run_bind,h4];rfl
 ·cases hu
theorem bj.QC{w:World}{S:aO}{v:Value}{l:List D}{t:Ty}{j:Nat}{d:D}(h:bj w S v (.list l))(hj:l[j]? =some d)(hd:Has t d)(fo:0<t.cells.length):
  ∃(b off cap:Nat) (us:List Value),v= .slice (some ⟨b,off,none⟩) l.length cap∧S b (off+j*t.cells.length)∧us.length=t.cells.length∧(∀(q:Nat) u,us[q]? =some u→w.cell? ⟨b,off+j*t.cells.length+q,none⟩=some u)∧ ∀(q:Nat) u c,us[q]? =some u→d.cells[q]? =some c→bj w S u c:=by
 obtain⟨b,off,cap,u,hv,hu⟩:=h.Hf hj
 have hl:=(bp hd).1
 refine⟨b,off,cap,(List.range t.cells.length).map u,hv,?_,by simp,?_,?_⟩
 ·obtain⟨h1,_⟩:=hu 0 _ (av (by omega))
  rw[hl]at h1
  exact h1
 ·intro q y hq
  rw[List.getElem?_map,br]at hq
  obtain⟨q',DP,rfl⟩:=hq
  have DO:q<t.cells.length:=by have:=(ai.1 DP).1;simpa using this
  have:q'=q:=by
   rw[List.getElem?_range DO]at DP
   injection DP with DP;exact DP.symm
  subst this
  obtain⟨_,h2,_⟩:=hu q' _ (av (by omega))
  rw[hl]at h2
  exact h2
 ·intro q y c hq hc
  rw[List.getElem?_map,br]at hq
  obtain⟨q',DP,rfl⟩:=hq
  have DO:q<t.cells.length:=by have:=(ai.1 DP).1;simpa using this
  have:q'=q:=by
   rw[List.getElem?_range DO]at DP
   injection DP with DP;exact DP.symm
  subst this
  exact(hu q' c hc).2.2
theorem Wf.nx{w:World}{S:aO}{ow:Ow}(h:Wf w S ow){b o l:Nat}(hs:S b o)(hl:l<1000): ¬ow b=some l:=fun e=>by have:=h.d b o l hs e;omega
end
def I(d:D)(j:Nat):Int:=(d.ak.getD j .top).ab
theorem VX{α:Type}{t:Ty}{enc:α→D}{ok:α→Prop}(h: ∀d,Has t d→ ∃a,d=enc a∧ok a): ∀l:List D,(∀x∈l,Has t x)→ ∃k:List α,l=k.map enc∧ ∀a∈k,ok a
 | [],_=>⟨[],rfl,by simp⟩
 |d::l,hl=>by
  obtain⟨a,rfl,ha⟩:=h d (hl d (by simp))
  obtain⟨k,rfl,hk⟩:=VX h l (fun x hx=>hl x (by simp[hx]))
  exact⟨a::k,rfl,by simp only[List.mem_cons,forall_eq_or_imp];exact⟨ha,hk⟩⟩
def arx:Ty:= .agg (.cons (.int .i64) (.cons (.int .i64) (.cons (.int .i64) (.nil))))
def Rx:Ty:= .agg (.cons (.int .i64) (.cons (.int .i64) (.cons (.int .i64) (.cons (.int .i64) (.cons (.int .i64) (.cons (.int .i64) (.cons (.int .i64) (.cons (.int .i64) (.cons (.int .i64) (.cons (.bool) (.cons (.int .i64) (.nil))))))))))))
theorem Dw{α:Type}{l:List α}{i:Nat}{x:α}(h:l[i]? =some x):l.drop i=x::l.drop (i+1):=by
 obtain⟨hi,rfl⟩:=ai.1 h
 exact List.drop_eq_getElem_cons hi
theorem rN{α:Type}{l:List α}{i:Nat}{x:α}(h:l[i]? =some x):i<l.length:=(ai.1 h).1
theorem rQ{α:Type}{l:List α}{i:Nat}(h:l[i]? =none):l.length≤i:=List.getElem?_eq_none_iff.1 h
def findF{α:Type}(p:α→Bool):List α→Int→Int
 | [],_=> -1
 |x::r,i=>if p x then i else findF p r (i+1)
theorem yu{α:Type}(p:α→Bool): ∀(l:List α) (i:Int),(findF p l i= -1∧ ∀x∈l,p x=false)∨ ∃(n:Nat) (x:α),findF p l i=i+n∧l[n]? =some x∧p x=true∧ ∀y∈l.take n,p y=false
 | [],i=> .inl ⟨rfl,by simp⟩
 |x::r,i=>by
  unfold findF
  cases hp:p x with
  |true=>exact .inr ⟨0,x,by simp,rfl,hp,by simp⟩
  |false=>
   rcases yu p r (i+1) with⟨h1,h2⟩|⟨n,y,h1,h2,h3,h4⟩
   ·exact .inl ⟨by simpa using h1,by simp only[List.mem_cons,forall_eq_or_imp];exact⟨hp,h2⟩⟩
   ·exact .inr ⟨n+1,y,by simp[h1];omega,by simpa using h2,h3,by simp only[List.take_succ_cons,List.mem_cons,forall_eq_or_imp];exact⟨hp,h4⟩⟩
end Go.bZ
namespace Go.bZ
open Go Go.RowKit Go.Shelf Go.Sort Go.Proofs
def fP(d:D):List Int:=d.ak.map D.ab
theorem cK(l:List Int):fP (.list (l.map (D.int .i64)))=l:=by simp[fP,D.ak,List.map_map,Function.comp_def,D.ab]
def iI(l:List Int):List Int:=l.mergeSort fun x y=>decide (x≤y)
def Ln:bS:=⟨[.list (.int .i64)],[],some ⟨[],[],[[],[]],false⟩⟩
def LW:bS:=⟨[.list (.int .i64)],[(false,[(.list (.int .i64),none)])],some ⟨[],[],[[],[]],false⟩⟩
def lv(T:TypeId):bS:=⟨[.list (.int .i64)],[(false,[(.int .i64,some (1,T))])],none⟩
def zp(ds:List D):D:= .list ((iI (fP (ds.getD 0 .top))).map (D.int .i64))
def zA(ds:List D):D:= .list ((Lib.compact (fP (ds.getD 0 .top))).map (D.int .i64))
def vQ(ds:List D):D:= .list (ds.getD 0 .top).ak
theorem oW{l:List Int}:Has (.list (.int .i64)) (.list (l.map (D.int .i64)))↔l.length*8≤140737488355328∧ ∀x∈l,kr .i64 x:=by
 constructor
 ·intro h
  obtain⟨_,h1,⟨_,h2⟩,h3⟩:=aD.1 h
  injection h1 with h1;subst h1
  refine⟨by rw[List.length_map]at h2;exact h2,fun x hx=> ?_⟩
  obtain⟨n,hn,hk⟩:=bF.1 (h3 (.int .i64 x) (List.mem_map.2 ⟨x,hx,rfl⟩))
  injection hn with _ hn;subst hn;exact hk
 ·rintro⟨h1,h2⟩
  refine aD.2 ⟨_,rfl,⟨by rw[List.length_map];exact Nat.le_trans (show _≤140737488355328 by omega) (by decide),by rw[List.length_map];exact h1⟩,fun x hx=> ?_⟩
  obtain⟨n,hn,rfl⟩:=List.mem_map.1 hx
  exact bF.2 ⟨n,rfl,h2 n hn⟩
theorem oZ(l:List Int):(iI l).length=l.length:=List.length_mergeSort l
theorem xx{l:List Int}{x:Int}:x∈iI l↔x∈l:=List.mem_mergeSort
theorem yl{l:List Int}{x:Int}(h:x∈Lib.compact l):x∈l:=by
 unfold Lib.compact Lib.compactUpTo at h
 obtain⟨i,hi,rfl⟩:=List.mem_map.1 h
 have FP:=(List.mem_filter.1 hi).1
 rw[List.mem_range]at FP
 rw[getElem!_pos _ i (by simpa using FP)]
 simp
section
variable{P:Program}{ρ:Ren}{fn:Func}
theorem Bc{f:Nat}(hf:P.funcs[f]? =some fn)(hb:(fn.body.isSome&& !(fn.name== "runtime.NumGoroutine"))=true)(args:Array Value)(w:World):(callFunc f args).run P w= .ok (.enter f args) w:=by
 simp only[aw,Bool.not_eq_true']at hb
 obtain⟨h1,h2⟩:=hb
 unfold callFunc
 obtain⟨c,hc⟩:=Option.isSome_iff_exists.1 h1
 have Az:fn.name≠ "runtime.NumGoroutine" :=by simpa using h2
 simp[hf,hc,Az]
theorem rD{w w':World}{g:Nat}(h:w.grownBy w' (some g)):dU (fun b=>(Value.slice (some ⟨g,0,none⟩) 0 0).ownBlock=some b) w w':=
 ⟨h.os,h.tape,h.output,h.size,fun k hk dH=>h.block k hk (fun e=>dH (by simp only[Option.some.injEq]at e;subst e;rfl))⟩
theorem M8(L:Lays.n189 P ρ)(hf:P.funcs[ρ.f 189]? =some fn)(hb:(fn.body.isSome&& !(fn.name== "runtime.NumGoroutine"))=true):ax P (ρ.f 189) Ln (fun _=>True) zp:=by
 refine⟨Bc hf hb,fun h=>(by cases h),fun ob h1 h2=>(by simp only[Ln,Option.some.injEq]at h1;subst h1;cases h2),fun ob _ _ w T v zs Mx eS _=> ?_⟩
 obtain⟨h8,hk⟩:=oW.1 eS
 have V7:zp [.list (zs.map (D.int .i64))] = .list ((iI zs).map (D.int .i64)):=by
  show D.list _=_
  rw[show fP ([D.list (zs.map (D.int .i64))].getD 0 .top)=zs from cK zs]
 have hhs:Has (.list (.int .i64)) (.list ((iI zs).map (D.int .i64))):=oW.2 ⟨by rw[oZ];exact h8,fun x hx=>hk x (xx.1 hx)⟩
 rcases Mx.2 with⟨rfl,h0⟩|⟨g,cap,cur,rfl,Le,F6,h1,h2,h3,h4⟩
 ·have hz:zs=[] :=List.eq_nil_of_length_eq_zero h0
  subst hz
  have e0:iI [] =[] :=by simp[iI]
  rw[e0]at V7 hhs
  refine(Any.slices_Sort_int_none L none 0 w).mono ?_
  rintro e w' ⟨rfl,rfl⟩
  exact⟨_, .slice none 0 0,[],rfl,V7,hhs,⟨rfl,⟨rfl, .inl ⟨rfl,rfl⟩⟩,rfl,dU.refl _ _⟩⟩
 ·have Tf:cur.toList.take zs.length=zs.map (Value.int .i64):=by simpa using h4
  refine(Any.slices_Sort_int L g 0 cap zs w (holds_of_blockI F6 Tf) (Array.getElem?_eq_some_iff.1 F6).1 (by omega)).mono ?_
  rintro e w' ⟨rfl,n,os,rfl⟩
  have bw:=ownsRow_sortedI (n:=n) (os:=os) (ts:=iI zs) (oZ zs) Le F6 h1 h2 h3
  refine⟨_, .slice (some ⟨g,0,none⟩) zs.length cap,iI zs,rfl,V7,hhs,⟨rfl,?_,rfl,rD (grownBy_sortedI _)⟩⟩
  rw[oZ];exact bw
theorem FA(L:Lays2.n20 P ρ)(hf:P.funcs[ρ.f 20]? =some fn)(hb:(fn.body.isSome&& !(fn.name== "runtime.NumGoroutine"))=true):ax P (ρ.f 20) LW (fun _=>True) zA:=by
 refine⟨Bc hf hb,fun h=>(by cases h),fun ob h1 h2=>(by simp only[LW,Option.some.injEq]at h1;subst h1;cases h2),fun ob _ _ w T v zs Mx eS _=> ?_⟩
 obtain⟨h8,hk⟩:=oW.1 eS
 have hle:=Lib.compact_length_le zs
 have V7:zA [.list (zs.map (D.int .i64))] = .list ((Lib.compact zs).map (D.int .i64)):=by
  show D.list _=_
  rw[show fP ([D.list (zs.map (D.int .i64))].getD 0 .top)=zs from cK zs]
 have hhs:Has (.list (.int .i64)) (.list ((Lib.compact zs).map (D.int .i64))):=oW.2 ⟨by omega,fun x hx=>hk x (yl hx)⟩
 rcases Mx.2 with⟨rfl,h0⟩|⟨g,cap,cur,rfl,Le,F6,h1,h2,h3,h4⟩
 ·have hz:zs=[] :=List.eq_nil_of_length_eq_zero h0
  subst hz
  refine(Any.slices_Compact_int_empty L none 0 w).mono ?_
  rintro e w' ⟨rfl,rfl⟩
  exact⟨_, .slice none 0 0,Lib.compact [],rfl,V7,hhs,⟨rfl,⟨rfl, .inl ⟨rfl,rfl⟩⟩,rfl,dU.refl _ _⟩⟩
 ·have Tf:cur.toList.take zs.length=zs.map (Value.int .i64):=by simpa using h4
  refine(Any.slices_Compact_int L g 0 cap zs w (holds_of_blockI F6 Tf) (by omega) h1).mono ?_
  rintro e w' ⟨rfl,q,rfl⟩
  have bw:=Lib.ownsRow_putRow (q:=q) (k:=(Lib.compact zs).length) (ys:=Lib.compact zs++List.replicate (zs.length-(Lib.compact zs).length) 0) Mx (by simp;omega) (by omega)
  rw[List.take_left]at bw
  have hg:=grownBy_sortedI (w:=w) (g:=g) (n:=q) (os:= #[]) (Lib.compact zs++List.replicate (zs.length-(Lib.compact zs).length) 0).toArray
  rw[grow_empty]at hg
  exact⟨_, .slice (some ⟨g,0,none⟩) (Lib.compact zs).length cap,Lib.compact zs,rfl,V7,hhs,⟨rfl,bw,rfl,rD hg⟩⟩
theorem Ky(L:Lays2.n15 P ρ)(hf:P.funcs[ρ.f 15]? =some fn)(hb:(fn.body.isSome&& !(fn.name== "runtime.NumGoroutine"))=true):ax P (ρ.f 15) (lv (ρ.t 3)) (fun _=>True) vQ:=by
 refine⟨Bc hf hb,fun _ w S vs ds hS hlen fa fV _=> ?_,fun ob h1=>(by cases h1),fun ob h1=>(by cases h1)⟩
 obtain⟨d,r,rfl,hd,hr⟩:=aa.1 fV
 obtain rfl:=bE.1 hr
 obtain⟨v,rfl⟩: ∃v,vs=[v] :=List.length_eq_one_iff.1 hlen
 have hv:=fa 0 v d rfl rfl
 obtain⟨l,rfl,hl,nL⟩:=aD.1 hd
 obtain⟨zs,rfl⟩:=rq nL
 obtain⟨h8,hk⟩:=oW.1 hd
 have fin: ∀(v':Value) (w':World),w'.ownsRow w.heap.size (ρ.t 3) 1 v' zs.length (zs.map (Value.int .i64))→Below w.heap.size w w'→
   ∃u S' τ,Ending.returned v'= .returned u∧Below w.heap.size w w'∧(∀b o,S b o→S' b o)∧(∀b o,S' b o→b<w'.heap.size)∧(∀b o,S' b o→S b o∨w.heap.size≤b)∧
    eN w' 0 S' τ (lv (ρ.t 3)).res u (vQ [.list (zs.map (D.int .i64))])∧(∀j b,j∈bk (lv (ρ.t 3)).res→(τ j).ownBlock=some b→w.heap.size≤b)∧(∀j k b,j∈bk (lv (ρ.t 3)).res→k∈bk (lv (ρ.t 3)).res→(τ j).ownBlock=some b→(τ k).ownBlock=some b→j=k)∧
    ∀j,j∈bk (lv (ρ.t 3)).res→Wp j=true→zm (fun b=>w.heap.size≤b) w' S' (τ j):=by
  intro v' w' bw iM
  have lR: ∀b,v'.ownBlock=some b→w.heap.size≤b:=by
   intro b fu
   rcases bw.2 with⟨rfl,_⟩|⟨g,cap,cur,rfl,hg,_⟩
   ·cases fu
   ·simp only[Value.ownBlock,Option.some.injEq]at fu;subst fu;exact hg
  have K7:w'.ownsRow 0 (ρ.t 3) 1 v' zs.length (zs.map (Value.int .i64)):=by
   refine⟨bw.1,?_⟩
   rcases bw.2 with h|⟨g,cap,cur,h1,_,h3⟩
   ·exact .inl h
   ·exact .inr ⟨g,cap,cur,h1,Nat.zero_le _,h3⟩
  refine⟨v',fun b o=>S b o∨(v'.ownBlock=some b∧o<zs.length),fun _=>v',rfl,iM,fun b o h=> .inl h,?_,?_,?_,fun j b _ h=>lR b h,?_,fun j hj Wk=>(by
   have e:bk (lv (ρ.t 3)).res=[1] :=rfl
   rw[e,List.mem_singleton]at hj
   subst hj;cases Wk)⟩
  ·rintro b o (h|⟨h,_⟩)
   ·exact Nat.lt_of_lt_of_le (hS b o h) iM.size
   ·exact Q9 bw h
  ·rintro b o (h|⟨h,_⟩)
   ·exact .inl h
   ·exact .inr (lR b h)
  ·refine .inl ⟨_,rfl,?_⟩
   refine⟨_,rfl,rfl,?_⟩
   refine⟨hd,by decide,zs.map (Value.int .i64),zs.map (D.int .i64),rfl,by rw[List.length_map];exact K7,?_,?_⟩
   ·intro b fu o
    rw[List.length_map]
    exact⟨fun h=>h.elim (fun h=>absurd (hS b o h) (Nat.not_lt.2 (lR b fu))) (fun h=>⟨rfl,h.2⟩),fun h=> .inr ⟨fu,h.2⟩⟩
   ·intro i d j u c gZ hc hx
    simp only[List.getElem?_map,br]at gZ
    obtain⟨z,hz,rfl⟩:=gZ
    cases j with
    |succ j=>simp[D.cells]at hc
    |zero=>
     simp only[D.cells,List.getElem?_cons_zero,Option.some.injEq]at hc;subst hc
     have e1:(Ty.int .i64).cells.length=1:=rfl
     rw[e1,Nat.mul_one,Nat.add_zero,List.getElem?_map,hz]at hx
     simp only[Option.map_some,Option.some.injEq]at hx;subst hx
     exact .int _ _
  ·intro j k b hj KG _ _
   have e:bk (lv (ρ.t 3)).res=[1] :=rfl
   rw[e,List.mem_singleton]at hj KG
   rw[hj,KG]
 show Calls P (ρ.f 15) #[v] w _
 generalize qo:(zs.map (D.int .i64))=l at hv
 cases hv with
 |nil a cap=>
  have hz:zs=[] :=by cases zs with|nil=>rfl|cons z r=>simp at qo
  subst hz
  cases a with
  |none=>
   refine(Any.slices_Clone_int_nil L 0 cap w).mono ?_
   rintro e w' ⟨rfl,rfl⟩
   exact fin _ _ ⟨rfl, .inl ⟨rfl,rfl⟩⟩ ⟨rfl,rfl,rfl,Nat.le_refl _,fun _ _=>rfl⟩
  |some a=>
   refine(Any.slices_Clone_int_zero L a cap w).mono ?_
   rintro e w' ⟨v',rfl,bw,_,iM⟩
   exact fin v' w' bw iM
 |list b off cap sz xs _ fo dH gN akl hSx hc hw h=>
  subst qo
  have aqs:sz=1:=by
   cases zs with
   |nil=>simp at dH
   |cons z r=>rw[←hw 0 (.int .i64 z) rfl];rfl
  subst aqs
  rw[List.length_map,Nat.mul_one]at akl
  rw[List.length_map]
  refine(Any.slices_Clone_int L b off zs.length cap zs w (Nat.le_refl _) h8 (fun j hj=> ?_)).mono ?_
  ·have hx:xs[j]? =some xs[j] :=av (by omega)
   rw[hc j _ hx]
   have:=h j (.int .i64 zs[j]) 0 xs[j] (.int .i64 zs[j]) (by simp[hj]) rfl (by rw[Nat.mul_one,Nat.add_zero];exact hx)
   rw[this.bD]
   simp[List.getD,hj]
  ·rintro e w' ⟨v',rfl,bw,_,iM⟩
   rw[List.take_length]at bw
   exact fin v' w' bw iM
end
end Go.bZ
