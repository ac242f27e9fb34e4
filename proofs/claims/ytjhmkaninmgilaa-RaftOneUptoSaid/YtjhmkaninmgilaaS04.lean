/- Part 4 of the proof of RaftOne; no condition. -/
import Derived.Test.YtjhmkaninmgilaaS03
import Derived.Shelf.Sort.Plain
import Derived.Shelf.Slices.In.SortNone
import Derived.Shelf.Slices.CompactI
import Derived.Shelf.Slices.Clone
import Derived.Sort.OwnSortedInts
import Derived.Lib.OwnBridge
import Derived.ProofKit
import Derived.OpenShut
import Derived.Test.YtjhmkaninmgilaaProg
set_option linter.unusedVariables false
set_option linter.unusedSimpArgs false
set_option maxHeartbeats 4000000
namespace Go.dV
open Go Go.RowKit
def oK:Nat→List bD→List SC
 |_,[] => []
 |k,c::r=>p8 true 0 (.var k) c::oK (k+1) r
def vM:Nat→List bD→List (Tag×Option (E×TypeId×Ty))
 |_,[] => []
 |k,c::r=>lV 0 (.var k) c++vM (k+1) r
def jj(l:List Bool):Nat:=(l.filter fun b=> !b).length
def rl(nd:Nat)(cC:List (List bD))(o:Nat):Nat:=nd+(cC.take o).flatten.length
def DD(ob:Ob):Option Nat:=if ja ob.shape<ob.cC.length then some (ob.cC.length-1) else none
def St.p7(sig:dQ)(ob:Ob):St:=
 ⟨fun i=>match ob.shape[i]? with
   |some false=>(sig.params[jj (ob.shape.take i)]?).map fun ty=>([],.one (.iW (.var (jj (ob.shape.take i))) ty))
   |some true=>some ([],.one (.r9 (ja (ob.shape.take i)) 0))
   |none=>none,
  fun o=>(ob.cC[o]?).map fun rc=>(false,xH (DD ob) rc (oK (rl (jj ob.shape) ob.cC o) rc)),
  fg (fun _=>none) (vM (jj ob.shape) ob.cC.flatten)⟩
def akI(P:Program)(σ:St)(sig:dQ)(ob:Ob)(fn:Func):Option (E×mO×List Nat):=
 match ob.new with
 |true=>match fn.results.toList with
  | [.tmp t] =>match σ.tm t with
   |some ([],.one (.r9 id 0))=>if ob.cC.length≤id then some (.un .fx .nil,[],[id]) else none
   |_=>none
  |_=>none
 |false=>match kC P σ sig.res fn.results.toList with
  |some (es,l)=>some ((match sig.res,es with| [_],[e] =>e|_,es=>.un .fx (.dJ es)),l,[])
  |none=>none
def yE(σ:St)(ob:Ob)(fr:List Nat):List Nat:=if ob.mv then List.range (ob.cC.length-1)++(match σ.hp 0,ob.outs with
  |some (_,cs),rc::_=>(MS rc cs).toList
  |_,_=> []) else List.range ob.cC.length++fr
def aet(ob:Ob)(ids:List Nat):Option Nat:=if ob.mv then ids[ob.cC.length-1]? else DD ob
def Dt(P:Program)(sig:dQ)(ob:Ob)(fn:Func)(σ:St):VC:=
 match akI P σ sig ob fn with
 |some (e,l,fr)=>match xa σ ob.outs (yE σ ob fr) with
  |some (zT,ls)=>if rk (l++ls)&&BV σ ob.outs (yE σ ob fr) (aet ob (yE σ ob fr))&&(!ob.mv||decide ((yE σ ob fr).Nodup)) then .ret (.un .fx (.cons e (.dJ (zT.map fun es=>.un .agg (.dJ es))))) else .stuck 10
  |none=>.stuck 12
 |none=>.stuck 11
def obB(fn:Func)(sig:dQ)(ob:Ob):Bool:=
 fn.body.isSome&& !(fn.name== "runtime.NumGoroutine")&&decide (ob.shape.length≤fn.ntmps)&&decide (0<sig.params.length)&&decide (ob.cC.length≤sig.params.length)&&(ob.cC.all fun rc=>rc.all akJ)&&
 decide (sig.params.length=jj ob.shape+ob.cC.flatten.length)&&decide (ja ob.shape≤ob.cC.length)&&decide (ob.kU.Nodup)&&decide (ob.outs.length=ob.cC.length+ob.new.toNat)&&(!ob.new||sig.res.isEmpty)&&(!ob.mv||decide (ja ob.shape<ob.cC.length))
theorem tn: ∀(l:List bD) (k i:Nat),(oK k l)[i]? =(l[i]?).map fun c=>p8 true 0 (.var (k+i)) c
 | [],k,i=>by simp[oK]
 |c::l,k,0=>by simp[oK]
 |c::l,k,i+1=>by simp only[oK,du,tn l (k+1) i];congr 2;funext c;congr 2;omega
theorem zq: ∀(l:List bD) (k:Nat),(oK k l).length=l.length
 | [],_=>rfl
 |_::l,k=>by simp[oK,zq l]
theorem Bf: ∀{l:List bD} {k:Nat} {x},x∈vM k l→ ∃(i:Nat) (c:bD),l[i]? =some c∧x∈lV 0 (.var (k+i)) c
 | [],k,x,h=>by simp[vM]at h
 |c::l,k,x,h=>by
  simp only[vM,aS]at h
  rcases h with h|h
  ·exact⟨0,c,rfl,h⟩
  ·obtain⟨i,c',h1,h2⟩:=Bf h
   exact⟨i+1,c',by simpa using h1,by rw[show k+(i+1)=k+1+i by omega];exact h2⟩
theorem Bq{α:Type}: ∀{ls:List (List α)} {i:Nat} {x:α},ls.flatten[i]? =some x→ ∃(o c:Nat) (l:List α),ls[o]? =some l∧l[c]? =some x∧i=(ls.take o).flatten.length+c
 | [],i,x,h=>by simp at h
 |l::ls,i,x,h=>by
  rw[eS]at h
  by_cases hi:i<l.length
  ·rw[aB hi]at h
   exact⟨0,i,l,rfl,h,by simp⟩
  ·rw[aF (by omega)]at h
   obtain⟨o,c,l',h1,h2,h3⟩:=Bq h
   exact⟨o+1,c,l',by simpa using h1,h2,by simp only[gv,eS,an];omega⟩
theorem xW{α:Type}: ∀{ls:List (List α)} {o c:Nat} {l:List α} {x:α},ls[o]? =some l→l[c]? =some x→ls.flatten[(ls.take o).flatten.length+c]? =some x
 | [],o,c,l,x,h,_=>by simp at h
 |l'::ls,0,c,l,x,h,h'=>by
  simp at h;subst h
  have hc:c<l'.length:=(aH.1 h').1
  simp only[List.take_zero,List.flatten_nil,gq,ay,eS]
  rw[aB hc];exact h'
 |l'::ls,o+1,c,l,x,h,h'=>by
  have:=xW (ls:=ls) (o:=o) (c:=c) (by simpa using h) h'
  simp only[gv,eS,an]
  rw[aF (by omega),show l'.length+(ls.take o).flatten.length+c-l'.length=(ls.take o).flatten.length+c by omega]
  exact this
theorem zB{α β:Type}: ∀{xs:List (List α)} {ys:List (List β)},xs.length=ys.length→(∀(i:Nat) x y,xs[i]? =some x→ys[i]? =some y→x.length=y.length)→ ∀o,(xs.take o).flatten.length=(ys.take o).flatten.length
 | [],[],_,_,o=>by simp
 | [],_::_,h,_,_=>by simp at h
 |_::_,[],h,_,_=>by simp at h
 |x::xs,y::ys,h,h',0=>by simp
 |x::xs,y::ys,h,h',o+1=>by
  have:=zB (xs:=xs) (ys:=ys) (by simpa using h) (fun i x y hx hy=>h' (i+1) x y (by simpa using hx) (by simpa using hy)) o
  simp only[gv,eS,an,this,h' 0 x y rfl rfl]
theorem AO{w:World}{S:bU}{β:Nat→Nat}: ∀{sh:List Bool} {k:Nat} {vs:List Value} {dd:List D},uN w S β sh k vs dd→vs.length=sh.length∧dd.length=jj sh∧
  ∀(i:Nat) b,sh[i]? =some b→ ∃v,vs[i]? =some v∧(if b then v= .pointer (some ⟨β (k+ja (sh.take i)),0,none⟩) else∃d,dd[jj (sh.take i)]? =some d∧cH w S v d)
 | [],k,[],[],_=>⟨rfl,rfl,by intro i b h;simp at h⟩
 |true::sh,k,v::vs,dd,⟨h1,h2⟩=>by
  obtain⟨q1,q2,q3⟩:=AO h2
  refine⟨by simp[q1],by simp[jj,q2],fun i b hi=> ?_⟩
  cases i with
  |zero=>simp at hi;subst hi;exact⟨v,rfl,by simpa [ja]using h1⟩
  |succ i=>
   obtain⟨u,hu,hb⟩:=q3 i b (by simpa using hi)
   refine⟨u,by simpa using hu,?_⟩
   cases b with
   |true=>simp only[if_true]at hb⊢;rw[hb];simp only[gv,ja,List.filter_cons,if_true,bM];rw[show k+1+(List.filter (fun b=>b) (List.take i sh)).length=k+((List.filter (fun b=>b) (List.take i sh)).length+1) by omega]
   |false=>simpa [jj]using hb
 |false::sh,k,v::vs,d::dd,⟨h1,h2⟩=>by
  obtain⟨q1,q2,q3⟩:=AO h2
  refine⟨by simp[q1],by simp only[jj,List.filter_cons,Bool.not_false,if_true,bM]at q2⊢;omega,fun i b hi=> ?_⟩
  cases i with
  |zero=>simp at hi;subst hi;exact⟨v,rfl,by simpa [jj]using h1⟩
  |succ i=>
   obtain⟨u,hu,hb⟩:=q3 i b (by simpa using hi)
   refine⟨u,by simpa using hu,?_⟩
   cases b with
   |true=>simpa [ja]using hb
   |false=>simpa [jj]using hb
 | [],_,_::_,_,h=>by simp[uN]at h
 | [],_,[],_::_,h=>by simp[uN]at h
 |true::_,_,[],_,h=>by simp[uN]at h
 |false::_,_,[],_,h=>by simp[uN]at h
 |false::_,_,_::_,[],h=>by simp[uN]at h
theorem GP: ∀{l:List Bool} {i:Nat},l[i]? =some true→ja (l.take i)<ja l
 | [],i,h=>by simp at h
 |b::l,0,h=>by simp at h;subst h;simp[ja]
 |b::l,i+1,h=>by
  have:=GP (l:=l) (i:=i) (by simpa using h)
  unfold ja at this⊢
  cases b<;>simp at this⊢ <;>omega
section
variable{P:Program}{C:Cx}{w w0:World}{S0:iu}{G:Gh}{σ:St}{a:Act}{n:Nat}
def SF(cs:List (Nat×dQ)):Bool:=cs.all fun x=>match x.2.ob with|some ob=> !ob.Ae|none=>true
theorem Zk{cs:List (Nat×dQ)}(h:SF cs=true){k:Nat}{sig:dQ}{ob:Ob}(hk:lk cs k=some sig)(fX:sig.ob=some ob)(hp:ob.Ae=true):False:=by
 have:=cn.1 h _ (jK hk)
 simp only[fX,hp]at this
 cases this
theorem Bk{f:Nat}{fn:Func}{c:Code}{sig:dQ}{ob:Ob}{pW:List D→Prop}{xm:List D→D}(cs:o3)(Φ:Nat→List D→D)(Pre:Nat→List D→Prop)(rb:List (Nat×Jh))(v:VC)
  (hf:P.funcs[f]? =some fn) (hb:fn.body=some c) (xF:P.follows .mixedOrders=true) (fX:sig.ob=some ob) (hmp:cs.mp=[]) (Sc: ∀k sg,lk cs.et k=some sg→ ∃sF t,sg.nn=some (sF,t)∧YA P k sF (Pre k) (Φ k)) (hB:obB fn sig ob=true) (Sb:SF cs.l=true) (wO:cs.fr=0)
  (iF: ∀k sig,lk cs.l k=some sig→bh P k sig (Pre k) (Φ k))
  (hv:vc ⟨P,cs,fn.ntmps,rb,[],[],[]⟩ c (fun ex σ _ _=>match ex with| .exit _=>.stuck 20|_=>Dt P sig ob fn σ) (St.p7 sig ob) sig.params.length 0=v)
  (hc: ∀ds,dK (.dJ sig.params) ds→pW ds→v.holds Φ Pre (fun d=>d=xm ds) (fun i=>ds.getD i .top) []):bh P f sig pW xm:=by
 unfold obB at hB
 simp only[bc,bQ]at hB
 obtain⟨⟨⟨⟨⟨⟨⟨⟨⟨⟨⟨_,Up⟩,hps⟩,ir⟩,hole⟩,Dh⟩,aoh⟩,hcT⟩,uD⟩,OG⟩,abE⟩,alv⟩:=hB
 have abx:ob.mv=true→ja ob.shape<ob.cC.length:=fun hm=>by rw[hm]at alv;simpa using alv
 refine⟨fun args w=> ?_,fun qu=>(by rw[fX]at qu;cases qu),fun ob' qu _ w S β τ vs dd oo ly jA ks=> ?_,fun ob' qu xw=>absurd xw (by
  rw[fX]at qu;injection qu with qu;subst qu
  intro xw
  unfold Ob.Ae at xw
  simp only[bc,List.isEmpty_iff,beq_iff_eq]at xw
  obtain⟨⟨_,h1⟩,h2⟩:=xw
  have h3:=OG
  rw[h2,h1]at h3
  cases nk:ob.new<;>rw[nk]at h3<;>simp at h3)⟩
 ·unfold callFunc
  have DG:fn.name≠ "runtime.NumGoroutine" :=by simpa using Up
  simp[hf,hb,DG]
 rw[fX]at qu;injection qu with qu;subst qu
 obtain⟨zX,Yt,CI⟩:=AO ly.args
 have avu: ∀(o:Nat) rc cells,ob.cC[o]? =some rc→oo[o]? =some cells→rc.length=cells.length:=by
  intro o rc cells h1 h2
  obtain⟨_,_,_,_,h3,_⟩:=ly.cC o rc cells h1 h2
  exact h3.symm
 have avy: ∀o,(ob.cC.take o).flatten.length=(oo.take o).flatten.length:=zB (by rw[ly.len]) avu
 let ds:=dd++oo.flatten
 have au3: ∀(o c:Nat) cells d,oo[o]? =some cells→cells[c]? =some d→ds.getD (rl (jj ob.shape) ob.cC o+c) .top=d:=by
  intro o c cells d h1 h2
  refine hZ ?_
  show(dd++oo.flatten)[_]? =_
  rw[aF (by unfold rl;omega)]
  have:=xW h1 h2
  rw[←avy]at this
  rw[←this];congr 1
  unfold rl;omega
 have al0: ∀(o c:Nat) rc r,ob.cC[o]? =some rc→rc[c]? =some r→rl (jj ob.shape) ob.cC o+c<sig.params.length:=by
  intro o c rc r h1 h2
  have:=(aH.1 (xW h1 h2)).1
  rw[aoh];unfold rl;omega
 let S1:iu:=⟨S,xB ob β τ,fun o=>if o<ob.cC.length then some (β o) else none,False,False,P,[]⟩
 let G1:Gh:=⟨S,β,fun g=>τ g.2⟩
 let C1:Cx:=⟨fun i=>ds.getD i .top,sig.params.length,fun i=>i<sig.params.length⟩
 have eW: ∀(o:Nat) rc,ob.cC[o]? =some rc→ ∃cells jZ T,oo[o]? =some cells∧w.heap[β o]? =some (.cells (List.toArray jZ) T (0,0))∧jZ.length=rc.length∧(∀o',¬S (β o) o')∧
   ∀(i:Nat) r u,rc[i]? =some r→jZ[i]? =some u→ ∃d,C1.ρ (rl (jj ob.shape) ob.cC o+i)=d∧k7 w 0 S τ r u d:=by
  intro o rc ho
  have mM:o<oo.length:=by rw[ly.len];exact(aH.1 ho).1
  obtain⟨jZ,T,h1,h2,h3,h4,h5⟩:=ly.cC o rc _ ho (aW mM)
  refine⟨_,jZ,T,aW mM,h1,h2,h5,fun i r u hr hu=> ?_⟩
  have iJ:i<oo[o].length:=by rw[h3];exact(aH.1 hr).1
  exact⟨_,au3 o i _ _ (aW mM) (aW iJ),h4 i r u _ hr hu (aW iJ)⟩
 have DH: ∀g x,(St.p7 sig ob).live g=some x→ ∃(o c:Nat) (rc:List bD) (t:Ty) (j:Nat) (T:TypeId),ob.cC[o]? =some rc∧rc[c]? =some (t,some (j,T))∧g=(0,j)∧x=(.var (rl (jj ob.shape) ob.cC o+c),T,t):=by
  intro g x hx
  have lv:fg (fun _=>none) (vM (jj ob.shape) ob.cC.flatten) g=some x:=hx
  unfold fg at lv
  split at lv
  ·rename_i y hy
   subst lv
   obtain⟨i,r,hr,hm⟩:=Bf (jK hy)
   obtain⟨o,c,rc,h1,h2,h3⟩:=Bq hr
   obtain⟨t,_|⟨j,T⟩⟩:=r
   ·simp[lV]at hm
   ·simp only[lV,aA,ai,ae]at hm
    obtain⟨rfl,rfl⟩:=hm
    exact⟨o,c,rc,t,j,T,h1,h2,rfl,by rw[h3];unfold rl;rw[fo]⟩
  ·cases lv
 have OJ: ∀(o c:Nat) rc t j T,ob.cC[o]? =some rc→rc[c]? =some (t,some (j,T))→j∈ob.kU:=by
  intro o c rc t j T h1 h2
  unfold Ob.kU
  refine dh.2 ⟨rc,ca h1,?_⟩
  unfold JV
  exact bH.2 ⟨_,ca h2,rfl⟩
 have aoi: ∀g e T t,(St.p7 sig ob).live g=some (e,T,t)→j7 C1 w 0 G1 g e T t:=by
  intro g e T t hx
  obtain⟨o,c,rc,t',j,T',h1,h2,rfl,he⟩:=DH g _ hx
  simp only[ai]at he
  obtain⟨rfl,rfl,rfl⟩:=he
  obtain⟨cells,jZ,T0,_,_,h3,_,h4⟩:=eW o rc h1
  have jY:c<jZ.length:=by rw[h3];exact(aH.1 h2).1
  obtain⟨d,hd,hck⟩:=h4 c _ _ h2 (aW jY)
  obtain⟨_,hco⟩:=hck
  exact hco.ok (C:=C1) (G:=G1) (g:=(0,j)) ir (by simpa [E.lt]using al0 o c rc _ h1 h2) hd rfl rfl
 have ag1:iq fn.ntmps w S1 C1 G1 (St.p7 sig ob) ⟨vs.toArray++Array.replicate (fn.ntmps-vs.length) undef,[]⟩ w:=by
  refine⟨⟨hU.refl _ _,fun _ _ h=>h,fun _ _ _=>rfl,?_,?_,ly.lt,fun _ _ h=>.inl h,?_,?_,?_,aoi,?_,?_,?_,fun h=>h.elim,fun h=>h.elim⟩,?_,?_,rfl⟩
  ·intro i b hi
   simp only[S1]at hi
   split at hi
   ·rename_i bP
    injection hi with hi
    exact⟨by show i<sig.params.length;omega,hi⟩
   ·cases hi
  ·exact fun _ _ _=>trivial
  ·intro o x hx
   simp only[St.p7,da]at hx
   obtain⟨rc,pT,_⟩:=hx
   have:=(aH.1 pT).1
   show o<sig.params.length;omega
  ·intro o ro tI hx
   simp only[St.p7,da,ai]at hx
   obtain⟨rc,pT,rfl,rfl⟩:=hx
   have mM:=(aH.1 pT).1
   obtain⟨cells,jZ,T,_,h1,h2,h3,h4⟩:=eW o rc pT
   refine⟨.inr ⟨.inl ⟨o,mM,rfl⟩,o,by simp only[S1];rw[if_pos mM]⟩,?_,kY.mk (vs:=jZ) (T:=T) h1 ⟨by rw[D7,zq,h2],?_⟩,by simpa using h3⟩
   ·rw[cn]
    intro y hy
    obtain⟨j,hj⟩:=aE hy
    obtain⟨c0,hj,gY⟩:=vd hj
    rcases gY with rfl|⟨_,_,_,rfl⟩
    rotate_left
    ·rfl
    rw[tn]at hj
    simp only[da]at hj
    obtain⟨r,hr,rfl⟩:=hj
    have:=cn.1 (cn.1 Dh rc (ca pT)) r (ca hr)
    obtain⟨t,_|⟨j0,T0⟩⟩:=r
    ·exact this
    ·cases PS:Fe j0<;>simp[p8,PS,SC.scalar]
   ·intro i y u hy hu
    obtain⟨c0,hy,gY⟩:=vd hy
    rcases gY with rfl|⟨RG,qv,hrj,rfl⟩
    rotate_left
    ·have Ft:ja ob.shape<ob.cC.length:=by
      unfold DD at qv
      split at qv
      ·assumption
      ·cases qv
     have avV:RG=ob.cC.length-1:=by
      unfold DD at qv
      rw[if_pos Ft]at qv
      injection qv with qv;exact qv.symm
     have hl:=ly.link Ft o i rc pT hrj
     rw[cell_of_row w _ i _ T (0,0) h1,dq,hu]at hl
     injection hl with hl
     subst avV
     exact⟨by show ob.cC.length-1<sig.params.length;omega,hl⟩
    rw[tn]at hy
    simp only[da]at hy
    obtain⟨r,hr,rfl⟩:=hy
    obtain⟨d,hd,hck⟩:=h4 i r u hr hu
    exact wI (C:=C1) (G:=G1) (e:=.var (rl (jj ob.shape) ob.cC o+i)) hck ir (by simpa [E.lt]using al0 o i rc r pT hr) hd (fun _=>rfl) true
  ·intro i j x y hi hj he
   simp only[St.p7,da]at hi hj
   obtain⟨_,hi,_⟩:=hi
   obtain⟨_,hj,_⟩:=hj
   exact ly.inj i j (aH.1 hi).1 (aH.1 hj).1 he
  ·intro g x b hx jq
   obtain⟨o,c,rc,t,j,T,h1,h2,rfl,_⟩:=DH g x hx
   exact .inr (.inr ⟨j,OJ o c rc t j T h1 h2,jq⟩)
  ·intro g g' x y b hx hy jq oz
   obtain⟨o,c,rc,t,j,T,h1,h2,rfl,_⟩:=DH g x hx
   obtain⟨o',c',Z0,t',j',T',h1',h2',rfl,_⟩:=DH g' y hy
   rw[ly.own j j' b (OJ _ _ _ _ _ _ h1 h2) (OJ _ _ _ _ _ _ h1' h2') jq oz]
  ·intro g o x y b hx hy jq
   obtain⟨o',c,rc,t,j,T,h1,h2,rfl,_⟩:=DH g x hx
   simp only[St.p7,da]at hy
   obtain⟨_,hy,_⟩:=hy
   exact ly.eV j o b (OJ _ _ _ _ _ _ h1 h2) (aH.1 hy).1 jq
  ·intro t cnd s rH
   simp only[St.p7]at rH
   split at rH
   ·rename_i XC
    simp only[da,ai]at rH
    obtain⟨ty,SN,rfl,rfl⟩:=rH
    obtain⟨u,hu,Sp⟩:=CI t false XC
    simp only[ak,if_false]at Sp
    obtain⟨d,hd,jf⟩:=Sp
    have wN:jj (ob.shape.take t)<dd.length:=(aH.1 hd).1
    have z8:ds[jj (ob.shape.take t)]? =some d:=by show(dd++oo.flatten)[_]? =_;rw[aB wN];exact hd
    obtain⟨x,hx,hxh⟩:=dY jA _ ty (by rw[Ty.fa];exact SN)
    have hxd:x=d:=by
     have:ds[jj (ob.shape.take t)]? =some x:=hx
     rw[z8]at this;injection this with this;exact this.symm
    subst hxd
    have gA:den C1.ρ (.var (jj (ob.shape.take t)))=x:=hZ z8
    have aly:jj (ob.shape.take t)<sig.params.length:=(aH.1 SN).1
    refine⟨u,?_,by simp,by simpa [SV.lt,SC.lt,E.lt]using aly,?_⟩
    ·have AU:t<vs.length:=(aH.1 hu).1
     rw[Array.getElem?_append_left (by simpa using AU)];simpa using hu
    ·simp only[aU,bW,if_true]
     exact⟨by simpa [E.lt]using aly,by rw[gA];exact jf,by rw[gA];exact hxh⟩
   ·rename_i XC
    injection rH with rH
    simp only[ai]at rH
    obtain⟨rfl,rfl⟩:=rH
    obtain⟨u,hu,Sp⟩:=CI t true XC
    simp only[if_true,ay]at Sp
    refine⟨u,?_,by simp,rfl,?_⟩
    ·have AU:t<vs.length:=(aH.1 hu).1
     rw[Array.getElem?_append_left (by simpa using AU)];simpa using hu
    ·simp only[aU,bW,if_true]
     refine⟨?_,Sp⟩
     show ja (ob.shape.take t)<sig.params.length
     have:=GP XC
     omega
   ·cases rH
  ·simp;omega
 refine calls_of_wp hf hb ?_
 have mV:=hc ds jA ks
 rw[←hv]at mV
 refine Kf (w0:=w) (S0:=S1) (N:=⟨P,cs,fn.ntmps,rb,[],[],[]⟩) xF iF (fun k sig ob hk fX xw=>(Zk Sb hk fX xw).elim) ⟨fun h=>h.elim,fun h=>h.elim,rfl,fun T kt h=>(by rw[show cs.mp=[] from hmp]at h;cases h),fun k sg h hn=>(by obtain⟨_,_,h2,_⟩:=Sc k sg h;rw[hn]at h2;cases h2),fun k sg sF t h hn=>(by obtain⟨sF2,t2,h2,h3⟩:=Sc k sg h;rw[hn]at h2;obtain⟨rfl,rfl⟩:=jC h2;exact h3)⟩ (fun _ _ h=>by cases h) (fun _ _ h=>by cases h) (fun h=>by have:cs.fr=2:=h;omega) rfl c _ _ _ 0 _ [] _ mV rfl (fun i b h=> ?_) ?_ _ w G1 ?_
 ·simp only[S1]at h
  split at h
  ·omega
  ·cases h
 ·intro ex σ' p' d' gN nr a' w' G' _ _ _ _ hk hs
  have fin:(Dt P sig ob fn σ').holds Φ Pre (fun d=>d=xm ds) gN nr→a'.defers=[] ∧ ∃v,(results fn a'.tmps).run P w'= .ok v w'∧ ∃v0 S' τ' βn,Ending.returned v= .returned v0∧VT w S sig ob β τ v0 (xm ds) w' S' τ' βn:=by
   intro hk
   refine⟨hs.defers,?_⟩
   unfold Dt at hk
   split at hk
   ·rename_i e l fr fi
    split at hk
    ·rename_i zT ls oH
     split at hk
     ·rename_i cI
      simp only[bc]at cI
      obtain⟨⟨cI,P8⟩,afa⟩:=cI
      obtain⟨ids,kz⟩: ∃ids,ids=yE σ' ob fr:=⟨_,rfl⟩
      rw[←kz]at oH P8 afa
      have uj:ob.mv=true→ids.Nodup:=fun hm=>by rw[hm]at afa;simpa using afa
      have yv:=cI
      unfold rk at cI
      simp only[bc,bQ]at cI
      obtain⟨hnt,Sf⟩:=cI
      obtain⟨q1,q2,q3,q4,q5,q6⟩:=DZ oH
      have hd:den gN (.un .fx (.cons e (.dJ (zT.map fun es=>.un .agg (.dJ es)))))=xm ds:=hk
      have kO:xm ds= .fx (den gN e::(zT.map fun es=>es.map (den gN)).map .agg):=by
       rw[←hd]
       simp only[den,gG,U.den,D.aV,List.map_map]
       congr 2
       apply List.map_congr_left
       intro es _
       simp only[Function.comp,den,gG,U.den,D.aV]
      have H2: ∀o,o<ob.cC.length→G'.β o=β o:=fun o ho=>(hs.m.si o (β o) (by simp only[S1];rw[if_pos ho])).2
      have YL: ∃v0,(results fn a'.tmps).run P w'= .ok v0 w'∧(∀j g,(j,some g)∈l→ ∃z,σ'.live g=some z)∧(if ob.new then l=[] ∧ ∃id,fr=[id] ∧ob.cC.length≤id∧v0= .pointer (some ⟨G'.β id,0,none⟩) else fr=[] ∧cO sig.res=l.map (·.1)∧iL w' 0 G'.S (rJ G' (l++ls)) sig.res v0 (den gN e)):=by
       unfold akI at fi
       split at fi
       ·rename_i nk
        split at fi
        ·rename_i t hrt
         split at fi
         ·rename_i id ht
          split at fi
          ·rename_i fD
           obtain⟨rfl,rfl,rfl⟩:=RA fi
           obtain⟨u,h1,_,_,h2⟩:=hs.t t _ _ ht
           simp only[aU,bW,if_true]at h2
           obtain⟨_,rfl⟩:=h2
           refine⟨_,?_,by simp,by rw[if_pos nk];exact⟨rfl,id,rfl,fD,rfl⟩⟩
           have:=vm (P:=P) (w:=w') (a:=a') (fn:=fn) (vs:=[.pointer (some ⟨G'.β id,0,none⟩)]) (by rw[hrt,List.mapM_cons,bA,show(n8 a' (.tmp t)).run P w'= .ok (.pointer (some ⟨G'.β id,0,none⟩)) w' from(by simp[n8,h1]),ct,List.mapM_nil];rfl)
           exact this
          ·cases fi
         ·cases fi
        ·cases fi
       ·rename_i nk
        split at fi
        ·rename_i es l' ra
         obtain⟨rfl,rfl,rfl⟩:=RA fi
         obtain⟨us,h1,h2,h3,h4,h5⟩:=tp (L:=l'++ls) hs Sf ra (fun x hx=>aC _ hx)
         refine⟨_,vm h1,rz ra,?_⟩
         rw[nk]
         simp only[ak,if_false]
         refine⟨trivial,pE ra,?_⟩
         split
         ·rename_i r e0 aob
          rw[aob]at h2 h5⊢
          obtain⟨u,rfl⟩: ∃u,us=[u] :=bO.1 h2
          exact .inl ⟨r,rfl,h5 0 r u e0 rfl rfl rfl⟩
         ·rename_i es1 _ es2 fY
          have xy:sig.res.length≠1:=by
           intro h
           obtain⟨r,hr⟩:=bO.1 h
           obtain⟨e,he⟩:=bO.1 (h3.trans h)
           exact fY r e hr he
          have LC:Mr us= .tuple us.toArray:=by
           match us,h2 with
           | [],_=>rfl
           | [u],h2=>exact absurd h2.symm xy
           |_::_::_,_=>rfl
          rw[LC]
          refine .inr ⟨xy,us,es1.map (den gN),rfl,by simp only[den,gG,U.den,D.aV],h2,by simp[h3],fun i r u y hr hu hy=> ?_⟩
          simp only[ah,da]at hy
          obtain⟨e,he,rfl⟩:=hy
          exact h5 i r u e hr hu he
        ·cases fi
      obtain⟨v0,fh,qY,nG⟩:=YL
      have cJ: ∀j g,(j,some g)∈l++ls→ ∃z,σ'.live g=some z:=fun j g hm=>(aS.1 hm).elim (qY j g) (q5 j g)
      have avY:fr.length=ob.new.toNat:=by
       cases nk:ob.new with
       |true=>rw[nk]at nG;simp only[if_true]at nG;obtain⟨_,id,rfl,_⟩:=nG;rfl
       |false=>rw[nk]at nG;simp only[ak,if_false]at nG;rw[nG.1];rfl
      let βn:Nat:=if ob.mv then G'.β (ids.getD (ob.cC.length-1) 0) else G'.β (fr.headD 0)
      have abC:ob.mv=true→ ∀i,i<ob.cC.length-1→ids[i]? =some i:=by
       intro hm i hi
       rw[kz]
       unfold yE
       rw[if_pos hm,aB (by simpa using hi),dN hi]
      have FY: ∀(i:Nat) id,ids[i]? =some id→lF ob β βn i=G'.β id:=by
       intro i id hi
       cases mI:ob.mv with
       |true=>
        have avH:=abx mI
        have OH:=Ob.HY mI
        have alF:i<ob.cC.length:=by
         have h1:=(aH.1 hi).1
         rw[q2,OG,OH]at h1
         exact h1
        by_cases xG:i<ob.cC.length-1
        ·have h2:=abC mI i xG
         rw[hi]at h2
         injection h2 with h2
         subst h2
         unfold lF
         rw[if_pos ⟨alF,fun h=>by omega⟩,H2 id alF]
        ·have vL:i=ob.cC.length-1:=by omega
         unfold lF
         rw[if_neg (fun h=>h.2 ⟨mI,vL⟩)]
         show(if ob.mv then G'.β (ids.getD (ob.cC.length-1) 0) else G'.β (fr.headD 0))=_
         rw[if_pos mI,av,←vL,hi];rfl
       |false=>
       have J4:ids=List.range ob.cC.length++fr:=by rw[kz];unfold yE;rw[mI];rfl
       rw[J4]at hi
       have Fp:βn=G'.β (fr.headD 0):=by show(if ob.mv then _ else _)=_;rw[mI];rfl
       rw[Fp]
       unfold lF
       by_cases iJ:i<ob.cC.length
       ·rw[aB (by simpa using iJ)]at hi
        simp[iJ]at hi
        subst hi
        rw[if_pos ⟨iJ,fun h=>by rw[mI]at h;cases h.1⟩,H2 i iJ]
       ·rw[aF (by simp;omega)]at hi
        rw[if_neg (fun h=>iJ h.1)]
        have h0:i-(List.range ob.cC.length).length=0:=by
         have:=(aH.1 hi).1
         rw[avY]at this
         cases nk:ob.new<;>rw[nk]at this<;>simp at this⊢ <;>omega
        rw[h0]at hi
        show G'.β (fr.headD 0)=_
        cases fr with
        |nil=>simp at hi
        |cons x r=>simp at hi;subst hi;rfl
      have ku:mn sig ob=(l++ls).map (·.1):=by
       cases nk:ob.new with
       |true=>
        rw[nk]at nG abE
        simp only[if_true]at nG
        have Xc:sig.res=[] :=by simpa using abE
        rw[nG.1]
        unfold mn
        rw[Xc]
        exact q3
       |false=>
        rw[nk]at nG
        simp only[ak,if_false]at nG
        unfold mn
        rw[cz,nG.2.1,q3]
      have Th: ∀i,i<ob.outs.length→ ∃id,ids[i]? =some id:=by
       intro i hi
       exact⟨_,aW (by rw[q2];exact hi)⟩
      refine⟨v0,fh,v0,G'.S,rJ G' (l++ls),βn,rfl,⟨hs.m.below,hs.m.kW,hs.m.dO,hs.m.iN,hs.m.keep,⟨den gN e,zT.map fun es=>es.map (den gN),kO,by simp[q1],?_,?_⟩,?_,?_,?_,?_,?_⟩⟩
      ·cases nk:ob.new with
       |true=>
        rw[nk]at nG
        simp only[if_true]at nG⊢
        obtain⟨_,id,rfl,fD,ym⟩:=nG
        have mI:ob.mv=false:=by
         cases hm:ob.mv with
         |false=>rfl
         |true=>rw[Ob.HY hm]at nk;cases nk
        have J4:ids=List.range ob.cC.length++[id] :=by rw[kz];unfold yE;rw[mI];rfl
        rw[J4]at q4
        have Fp:βn=G'.β id:=by show(if ob.mv then _ else _)=_;rw[mI];rfl
        rw[Fp]
        refine⟨ym,?_⟩
        obtain⟨cs1,Mc⟩:=q4 id (by simp)
        rcases (hs.m.box _ _ _ Mc).1 with h|⟨_,i,hi⟩
        ·exact h
        ·simp only[S1]at hi
         split at hi
         ·rename_i Qb
          injection hi with hi
          obtain⟨cs2,afq⟩:=q4 i (by simp[Qb])
          have:=hs.m.inj i id _ _ afq Mc ((H2 i Qb).trans hi)
          omega
         ·cases hi
       |false=>
        rw[nk]at nG
        simp only[ak,if_false]at nG⊢
        exact nG.2.2
      ·intro i rc cells h1 h2
       simp only[ah,da]at h2
       obtain⟨es,rI,rfl⟩:=h2
       obtain⟨id,fD⟩:=Th i (aH.1 h1).1
       obtain⟨cs1,lo,r1,r2,r3⟩:=q6 i rc id es h1 fD rI
       obtain⟨_,_,fZ,b5⟩:=hs.m.box _ _ _ r1
       obtain⟨us,T,b3,b4⟩:=fZ.cells (mc r2)
       obtain⟨k1,k2,k3⟩:=lj (L:=l++ls) hs.m Sf r2 b4 (fun x hx=>bC _ (r3 x hx))
       rw[FY i id fD]
       refine⟨us,T,b3,k2,by simp[k1],fun j r u d hr hu hd=> ?_,by simpa using b5⟩
       simp only[ah,da]at hd
       obtain⟨e1,Ci,rfl⟩:=hd
       exact k3 j r u e1 hr hu Ci
      ·intro j b hj hb
       rw[ku]at hj
       obtain⟨g,Sj,jq⟩:=yP yv hj hb
       obtain⟨z,hz⟩:=cJ _ _ Sj
       exact hs.m.gS g z b hz jq
      ·intro j k b hj N5 Sn Jv
       rw[ku]at hj N5
       exact AF hs.m yv cJ hj N5 Sn Jv
      ·intro j i b hj hi hb
       rw[ku]at hj
       obtain⟨g,Sj,jq⟩:=yP yv hj hb
       obtain⟨z,hz⟩:=cJ _ _ Sj
       obtain⟨id,fD⟩:=Th i hi
       obtain⟨cs1,Mc⟩:=q4 id (ca fD)
       rw[FY i id fD]
       exact hs.m.eV g id z _ b hz Mc jq
      ·intro Ft i c rc h1 hc
       obtain⟨idl,C3⟩:=Th (ob.cC.length-1) (by rw[OG];omega)
       have Lr:aet ob ids=some idl:=by
        unfold aet
        cases mI:ob.mv with
        |true=>exact C3
        |false=>
         have J4:ids=List.range ob.cC.length++fr:=by rw[kz];unfold yE;rw[mI];rfl
         rw[J4,aB (by simp;omega),dN (by omega)]at C3
         unfold DD
         rw[if_pos Ft]
         exact C3
       rw[Lr]at P8
       obtain⟨id,fD⟩:=Th i (aH.1 h1).1
       obtain⟨cs1,lo,r1,r2,r3⟩:=q6 i rc id _ h1 fD (aW (by rw[q1];exact(aH.1 h1).1))
       obtain⟨_,_,fZ,b5⟩:=hs.m.box _ _ _ r1
       obtain⟨us,T,b3,b4⟩:=fZ.cells (mc r2)
       obtain⟨k1,k2,k3⟩:=lj (L:=l++ls) hs.m Sf r2 b4 (fun x hx=>bC _ (r3 x hx))
       have jY:c<rc.length:=(aH.1 hc).1
       have Hh:c<us.length:=by rw[k2];exact jY
       have qt:c<cs1.length:=by rw[←b4.1];exact Hh
       have P5:=AI (D3 P8 h1 fD r1) hc (aW qt)
       have hrs:=b4.2 c _ _ (aW qt) (aW Hh)
       rw[P5]at hrs
       obtain⟨_,zN⟩:=hrs
       rw[FY i id fD,cell_of_row w' _ c _ T (0,0) b3,dq,aW Hh,zN,FY _ idl C3]
      ·intro mI
       have avH:=abx mI
       obtain⟨idl,C3⟩:=Th (ob.cC.length-1) (by rw[OG];omega)
       have Fp:βn=G'.β idl:=by
        show(if ob.mv then _ else _)=_
        rw[if_pos mI,av,C3];rfl
       rw[Fp]
       obtain⟨cs1,Mc⟩:=q4 idl (ca C3)
       rcases (hs.m.box _ _ _ Mc).1 with h|⟨_,i,hi⟩
       ·exact .inr h
       ·simp only[S1]at hi
        split at hi
        ·rename_i Qb
         injection hi with hi
         by_cases iJ:i<ob.cC.length-1
         ·exfalso
          have h2:=abC mI i iJ
          obtain⟨cs2,afq⟩:=q4 i (ca h2)
          have h3:=hs.m.inj i idl _ _ afq Mc ((H2 i Qb).trans hi)
          subst h3
          obtain⟨h4,h5⟩:=aH.1 h2
          obtain⟨h6,h7⟩:=aH.1 C3
          have:=(List.getElem_inj (uj mI) (h₀:=h4) (h₁:=h6)).1 (h5.trans h7.symm)
          omega
         ·have:i=ob.cC.length-1:=by omega
          subst this
          exact .inl hi.symm
        ·cases hi
     ·exact hk.elim
    ·exact hk.elim
   ·exact hk.elim
  cases ex with
  |normal=>exact fin hk
  |ret=>exact fin hk
  |exit i=>exact hk.elim
 ·exact ag1
end
def fvc(P:Program)(cs:o3)(rb:List (Nat×Jh))(sig:dQ)(fn:Func):VC:=
 match fn.body with
 |some c=>vc ⟨P,cs,fn.ntmps,rb,[],[],[]⟩ c (fun ex σ _ _=>match ex with| .exit _=>.stuck 20|_=>Og P sig fn σ) (St.start sig.params) sig.params.length 0
 |none=>.stuck 30
def fnB(fn:Func)(sig:dQ):Bool:=sig.ob.isNone&&fn.body.isSome&& !(fn.name== "runtime.NumGoroutine")&&decide (sig.params.length≤fn.ntmps)
def frB(cs:o3)(sig:dQ):Bool:=cs.fr==0&&SG sig.res||cs.fr==1
theorem aha{cs:o3}{sig:dQ}(h:frB cs sig=true):cs.fr=0∧SG sig.res=true∨cs.fr=1:=by
 unfold frB at h
 simpa using h
def kr(P:Program)(Pre:Nat→List D→Prop)(Φ:Nat→List D→D)(cs:List (Nat×dQ)):Prop:= ∀k sig,lk cs k=some sig→bh P k sig (Pre k) (Φ k)
theorem yU{P:Program}{Pre:Nat→List D→Prop}{Φ:Nat→List D→D}:kr P Pre Φ [] :=fun k sig h=>by cases h
theorem aL{P:Program}{Pre:Nat→List D→Prop}{Φ:Nat→List D→D}{k:Nat}{s:dQ}{cs:List (Nat×dQ)}(h:bh P k s (Pre k) (Φ k))(t:kr P Pre Φ cs):kr P Pre Φ ((k,s)::cs):=fun j sig hj=>by
 simp only[lk]at hj
 split at hj
 ·rename_i e;subst e;injection hj with hj;subst hj;exact h
 ·exact t j sig hj
theorem QJ{P:Program}{f:Nat}{fn:Func}{sig:dQ}{pW:List D→Prop}{xm:List D→D}{cs:o3}{Φ:Nat→List D→D}{Pre:Nat→List D→Prop}{rb:List (Nat×Jh)}{v:VC}
  (xF:P.follows .mixedOrders=true) (iF:kr P Pre Φ cs.l) (wO:frB cs sig=true) (hf:P.funcs[f]? =some fn) (hB:fnB fn sig=true) (hv:fvc P cs rb sig fn=v)
  (hmp:cs.mp=[] ∧cs.et=[]) (hc: ∀ds,dK (.dJ sig.params) ds→pW ds→v.holds Φ Pre (fun d=>d=xm ds) (fun i=>ds.getD i .top) []):bh P f sig pW xm:=by
 unfold fnB at hB
 simp only[bc,bQ]at hB
 obtain⟨⟨⟨h0,h1⟩,h2⟩,h3⟩:=hB
 obtain⟨c,hb⟩:=dH.1 h1
 refine IK cs [] [] Φ Pre rb v hf hb (by simpa using h2) xF h3 (by simpa using h0) hmp iF (aha wO) (fun _ _ h=>by cases h) (fun _ _ h=>by cases h) ?_ hc
 unfold fvc at hv
 rw[hb]at hv
 exact hv
theorem db(l:List D):(D.list l).aV=l:=rfl
theorem eH(l:List D):(D.agg l).aV=l:=rfl
theorem eF(l:List D):(D.fx l).aV=l:=rfl
theorem eG(l:List D):(D.ptr l).aV=l:=rfl
theorem fV(f:Nat)(l:List D):(D.fn f l).aV=l:=rfl
theorem bZ(k:IntKind)(n:Int):(D.int k n).aq=n:=rfl
theorem cU(b:Bool):(D.bool b).gV=b:=rfl
theorem wrap64{n:Int}(h1: -9223372036854775808≤n)(h2:n≤9223372036854775807):IntKind.wrap .i64 n=n:=by
 rw[IntKind.wrap_i64];omega
theorem xd{n:Int}:oY .i64 n↔ -9223372036854775808≤n∧n≤9223372036854775807:=by
 unfold oY
 have h1:IntKind.min .i64= -9223372036854775808:=by rfl
 have h2:IntKind.max .i64=9223372036854775807:=by rfl
 rw[h1,h2]
end Go.dV
namespace Go.dV
open Go
def opsOf:Code→List Oper
 |.region _ ops _=>ops.toList
 |.seq a b=>opsOf a++opsOf b
 |.cond _ a b=>opsOf a++opsOf b
 |.block _ c| .loop c| .scope c=>opsOf c
 |.rangeFunc _ _ a b=>opsOf a++opsOf b
 |_=> []
def Zo(ops:List Oper)(t:Nat):Nat:=match ops.find? (fun o=>o.dst==some t) with
 |some o=>match o.op with
  |.load _ (.tmp x)| .move (.tmp x)=>x
  |_=>t
 |none=>t
def DM(ops:List Oper):Nat→Nat→Nat
 |0,t=>t
 |f+1,t=>match ops.find? (fun o=>o.dst==some t) with
  |some o=>match o.op with
   |.fieldAddr _ (.tmp x) _=>DM ops f x
   |.nilCheck (.tmp x)| .move (.tmp x)=>DM ops f x
   |_=>t
  |none=>t
def VW(ops:List Oper)(c:Code):List Nat:=
 dedup ((opsOf c).flatMap fun o=>match o.op with
  |.store _ (.tmp x) _=> [DM ops 10 x]
  |.mapUpdate _ (.tmp x) _ _=> [Zo ops x]
  |.call {callee:=.value _,args,.. }=>args.toList.filterMap fun x=>match x with| .tmp t=>some (DM ops 10 t)|_=>none
  |_=> [])
def qN:Code→List (Nat×Code)
 |.seq a b=>qN a++qN b
 |.cond _ a b=>qN a++qN b
 |.block _ c| .scope c=>qN c
 |.loop c=>(match jU c with|some i=> [(i,c)] |none=> [])++qN c
 |.rangeFunc _ _ a b=>(match jU a with|some i=> [(i,.seq a b)] |none=> [])++qN b
 |_=> []
def Eo(P:Program):Nat→Nat→TypeId→List (Nat×TypeId)
 |0,_,_=> []
 |n+1,off,t=>match P.underlying t with
  |some (.slice e)=> [(off,e)]
  |some (.struct fs)=>fs.toList.flatMap fun f=>Eo P n (off+f.offset) f.type
  |_=> []
def ZT(ops:List Oper)(t:Nat):Option TypeId:=match ops.find? (fun o=>o.dst==some t) with
 |some o=>match o.op with
  |.alloc T=>some T
  |.box T _=>some T
  |_=>none
 |none=>none
def Wa(P:Program)(ops:List Oper):List (Nat×TypeId):=ops.filterMap fun o=>match o.dst with
 |some t=>match P.underlying o.type with
  |some (.slice e)=>some (t,e)
  |_=>none
 |none=>none
def aho(P:Program)(all ops:List Oper)(t:Nat):Option TypeId:=ops.findSome? fun o=>match o.op with
 |.call {callee:=.value _,args,argTypes}=>(args.toList.zip argTypes.toList).findSome? fun x=>match x.1 with
  |.tmp t'=>if DM all 10 t'=t then(match P.underlying x.2 with|some (.pointer e)=>some e|_=>none) else none
  |_=>none
 |_=>none
def yW(P:Program)(given:List (Nat×Jh))(c:Option Code):List (Nat×Jh):=
 match c with
 |some c=>((qN c).map fun x=>let g:=(lk given x.1).getD {}
   (x.1,{own:=((Wa P (opsOf x.2)).filter fun y=> !g.own.contains (y.1,0))++g.own.filter (fun y=>y.2 !=0),boxes:=(((VW (opsOf c) x.2).filter fun t=> !g.boxes.any fun y=>y.1==t).map fun t=>(t,match (ZT (opsOf c) t).orElse (fun _=>aho P (opsOf c) (opsOf x.2) t) with|some T=>Eo P 4 0 T|none=> []))++g.boxes,drop:=g.drop}))++given
 |none=>given
def m7(init:List D)(rE:List Ty)(body:List D→(List D→Prop)→Prop):Prop:=
 ∃(I:List D→Prop) (m:List D→Nat),I init∧ ∀xs,dK (.dJ rE) xs→I xs→body xs (fun ys=>I ys∧m ys<m xs)
theorem m7.intro{init:List D}{rE:List Ty}{body:List D→(List D→Prop)→Prop}(I:List D→Prop)(m:List D→Nat)(h0:I init)
  (h: ∀xs,dK (.dJ rE) xs→I xs→body xs (fun ys=>I ys∧m ys<m xs)):m7 init rE body:=⟨I,m,h0,h⟩
section
variable{Φ:Nat→List D→D}{Pre:Nat→List D→Prop}{R:D→Prop}{ρ:Nat→D}{gk:List (List D→Prop)}
theorem fG{pc:dI}{e:E}{k:VC}:(VC.lM pc e k).holds Φ Pre R ρ gk=((aU ρ pc=true→(den ρ e).gV=true)∧k.holds Φ Pre R ρ gk):=rfl
theorem eE{p f:Nat}{args:E}{pc:dI}{k:VC}:(VC.call p f args pc k).holds Φ Pre R ρ gk=((aU ρ pc=true→Pre f (den ρ args).aV)∧k.holds Φ Pre R (fU ρ p (Φ f (den ρ args).aV)) gk):=by
 simp only[VC.holds,forall_eq]
theorem eC{pc:dI}{e:E}{b:Nat}{k:VC}:(VC.room pc e b k).holds Φ Pre R ρ gk=((aU ρ pc=true→(den ρ e).aV.length≤maxLen∧(den ρ e).aV.length*b≤140737488355328)∧k.holds Φ Pre R ρ gk):=rfl
theorem cM{e:E}{t f:VC}:(VC.branch e t f).holds Φ Pre R ρ gk=(((den ρ e).gV=true→t.holds Φ Pre R ρ gk)∧((den ρ e).gV=false→f.holds Φ Pre R ρ gk)):=rfl
theorem eD{v0:Nat}{es:List E}{rE:List Ty}{body:VC}:(VC.loop v0 es rE body).holds Φ Pre R ρ gk=m7 (es.map (den ρ)) rE (fun xs J=>body.holds Φ Pre R (gJ ρ v0 xs) (J::gk)):=rfl
theorem dE{i:Nat}{es:List E}:(VC.again i es).holds Φ Pre R ρ gk=(match gk[i]? with|some J=>J (es.map (den ρ))|none=>False):=rfl
theorem fF{e:E}:(VC.ret e).holds Φ Pre R ρ gk=R (den ρ e):=rfl
end
def To(given:List (Nat×Jh))(c:Option Code):List Nat:=
 let l:=((lk given 1000000).getD {}).drop
 let ops:=match c with|some c=>opsOf c|none=> []
 l++(if l.contains 1000000 then ops.filterMap fun o=>match o.op with| .call {callee:=.builtin .append,.. }=>o.dst|_=>none else [])++
  (if l.contains 1000001 then
   let els:=ops.filterMap fun o=>match o.op with| .call {callee:=.builtin .append,args,.. }=>(match args.toList with| [_,.tmp t] =>some t|_=>none)|_=>none
   ops.filterMap fun o=>match o.op with| .buildSlice .. =>(match o.dst with|some d=>if els.contains d then none else some d|none=>none)|_=>none
  else [])
def qw(P:Program)(cs:List (Nat×dQ))(given:List (Nat×Jh))(sig:dQ)(fn:Func):VC:=
 match fn.body,sig.ob with
 |some c,some ob=>vc ⟨P,⟨cs,To given fn.body,0,[],[]⟩,fn.ntmps,yW P given fn.body,[],[],[]⟩ c (fun ex σ _ _=>match ex with| .exit _=>.stuck 20|_=>Dt P sig ob fn σ) (St.p7 sig ob) sig.params.length 0
 |_,_=>.stuck 30
theorem jk{P:Program}{f:Nat}{fn:Func}{sig:dQ}{ob:Ob}{pW:List D→Prop}{xm:List D→D}{cs:List (Nat×dQ)}{Φ:Nat→List D→D}{Pre:Nat→List D→Prop}{given:List (Nat×Jh)}{v:VC}
  (xF:P.follows .mixedOrders=true) (iF:kr P Pre Φ cs) (hf:P.funcs[f]? =some fn) (fX:sig.ob=some ob) (hB:obB fn sig ob=true) (hv:qw P cs given sig fn=v)
  (hc: ∀ds,dK (.dJ sig.params) ds→pW ds→v.holds Φ Pre (fun d=>d=xm ds) (fun i=>ds.getD i .top) []) (Sb:SF cs=true:=by rfl):bh P f sig pW xm:=by
 have hB':=hB
 unfold obB at hB'
 simp only[bc]at hB'
 obtain⟨c,hb⟩:=dH.1 hB'.1.1.1.1.1.1.1.1.1.1.1
 refine Bk ⟨cs,To given fn.body,0,[],[]⟩ Φ Pre (yW P given fn.body) v hf hb xF fX rfl (fun _ _ h=>by cases h) hB Sb rfl iF ?_ hc
 unfold qw at hv
 rw[fX,hb]at hv
 rw[hb]
 exact hv
def afw(P:Program)(cs:List (Nat×dQ))(et:List (Nat×DO))(given:List (Nat×Jh))(sig:dQ)(fn:Func):VC:=
 match fn.body,sig.ob with
 |some c,some ob=>vc ⟨P,⟨cs,To given fn.body,0,[],et⟩,fn.ntmps,yW P given fn.body,[],[],[]⟩ c (fun ex σ _ _=>match ex with| .exit _=>.stuck 20|_=>Dt P sig ob fn σ) (St.p7 sig ob) sig.params.length 0
 |_,_=>.stuck 30
theorem K4{P:Program}{f:Nat}{fn:Func}{sig:dQ}{ob:Ob}{pW:List D→Prop}{xm:List D→D}{cs:List (Nat×dQ)}{et:List (Nat×DO)}{Φ:Nat→List D→D}{Pre:Nat→List D→Prop}{given:List (Nat×Jh)}{v:VC}
  (xF:P.follows .mixedOrders=true) (iF:kr P Pre Φ cs) (Sc: ∀k sg,lk et k=some sg→ ∃sF t,sg.nn=some (sF,t)∧YA P k sF (Pre k) (Φ k)) (hf:P.funcs[f]? =some fn) (fX:sig.ob=some ob) (hB:obB fn sig ob=true) (hv:afw P cs et given sig fn=v)
  (hc: ∀ds,dK (.dJ sig.params) ds→pW ds→v.holds Φ Pre (fun d=>d=xm ds) (fun i=>ds.getD i .top) []) (Sb:SF cs=true:=by rfl):bh P f sig pW xm:=by
 have hB':=hB
 unfold obB at hB'
 simp only[bc]at hB'
 obtain⟨c,hb⟩:=dH.1 hB'.1.1.1.1.1.1.1.1.1.1.1
 refine Bk ⟨cs,To given fn.body,0,[],et⟩ Φ Pre (yW P given fn.body) v hf hb xF fX rfl Sc hB Sb rfl iF ?_ hc
 unfold afw at hv
 rw[fX,hb]at hv
 rw[hb]
 exact hv
def Qh(P:Program)(cs:List (Nat×dQ))(given:List (Nat×Jh))(sig:dQ)(fn:Func):VC:=fvc P ⟨cs,To given fn.body,0,[],[]⟩ (yW P given fn.body) sig fn
theorem K0{P:Program}{f:Nat}{fn:Func}{sig:dQ}{pW:List D→Prop}{xm:List D→D}{cs:List (Nat×dQ)}{Φ:Nat→List D→D}{Pre:Nat→List D→Prop}{given:List (Nat×Jh)}{v:VC}
  (xF:P.follows .mixedOrders=true) (iF:kr P Pre Φ cs) (hf:P.funcs[f]? =some fn) (hB:fnB fn sig=true) (hv:Qh P cs given sig fn=v)
  (hc: ∀ds,dK (.dJ sig.params) ds→pW ds→v.holds Φ Pre (fun d=>d=xm ds) (fun i=>ds.getD i .top) []) (qp:SG sig.res=true:=by rfl):bh P f sig pW xm:=
 QJ xF iF (by simp[frB,qp]) hf hB hv ⟨rfl,rfl⟩ hc
def vr(a n:Nat):List E:=(List.range n).map fun i=>.var (a+i)
def cr(j n:Nat)(e:E):List E:=(List.range n).map fun i=>.un (.cell (j+i)) e
def rp(n:Nat)(e:E):List E:=List.replicate n e
def fl:List (List E)→List E
 | [] => []
 |l::r=>l++fl r
end Go.dV
namespace Go.dV
open Go Go.RowKit
def I(d:D)(j:Nat):Int:=(d.aV.getD j .top).aq
theorem ZU{α:Type}{t:Ty}{enc:α→D}{ok:α→Prop}(h: ∀d,Has t d→ ∃a,d=enc a∧ok a): ∀l:List D,(∀x∈l,Has t x)→ ∃k:List α,l=k.map enc∧ ∀a∈k,ok a
 | [],_=>⟨[],rfl,by simp⟩
 |d::l,hl=>by
  obtain⟨a,rfl,ha⟩:=h d (hl d (by simp))
  obtain⟨k,rfl,hk⟩:=ZU h l (fun x hx=>hl x (by simp[hx]))
  exact⟨a::k,rfl,by simp only[aM,forall_eq_or_imp];exact⟨ha,hk⟩⟩
def aws:Ty:=.agg (.cons (.int .i64) (.cons (.int .i64) (.cons (.int .i64) (.nil))))
def VR:Ty:=.agg (.cons (.int .i64) (.cons (.int .i64) (.cons (.int .i64) (.cons (.int .i64) (.cons (.int .i64) (.cons (.int .i64) (.cons (.int .i64) (.cons (.int .i64) (.cons (.int .i64) (.cons (.bool) (.cons (.int .i64) (.nil))))))))))))
theorem GL{α:Type}{l:List α}{i:Nat}{x:α}(h:l[i]? =some x):l.drop i=x::l.drop (i+1):=by
 obtain⟨hi,rfl⟩:=aH.1 h
 exact cY hi
theorem vT{α:Type}{l:List α}{i:Nat}{x:α}(h:l[i]? =some x):i<l.length:=(aH.1 h).1
theorem vW{α:Type}{l:List α}{i:Nat}(h:l[i]? =none):l.length≤i:=eO.1 h
def findF{α:Type}(p:α→Bool):List α→Int→Int
 | [],_=> -1
 |x::r,i=>if p x then i else findF p r (i+1)
theorem Bs{α:Type}(p:α→Bool): ∀(l:List α) (i:Int),(findF p l i= -1∧ ∀x∈l,p x=false)∨ ∃(n:Nat) (x:α),findF p l i=i+n∧l[n]? =some x∧p x=true∧ ∀y∈l.take n,p y=false
 | [],i=>.inl ⟨rfl,by simp⟩
 |x::r,i=>by
  unfold findF
  cases hp:p x with
  |true=>exact .inr ⟨0,x,by simp,rfl,hp,by simp⟩
  |false=>
   rcases Bs p r (i+1) with⟨h1,h2⟩|⟨n,y,h1,h2,h3,h4⟩
   ·exact .inl ⟨by simpa using h1,by simp only[aM,forall_eq_or_imp];exact⟨hp,h2⟩⟩
   ·exact .inr ⟨n+1,y,by simp[h1];omega,by simpa using h2,h3,by simp only[gv,aM,forall_eq_or_imp];exact⟨hp,h4⟩⟩
end Go.dV
namespace Go.dV
open Go Go.RowKit Go.Shelf Go.Sort Go.Proofs
def jR(d:D):List Int:=d.aV.map D.aq
theorem eX(l:List Int):jR (.list (l.map (D.int .i64)))=l:=by simp[jR,D.aV,List.map_map,Function.comp_def,D.aq]
def kT(l:List Int):List Int:=l.mergeSort fun x y=>decide (x≤y)
def OX:dQ:=⟨[.list (.int .i64)],[],some ⟨[],[],[[],[]],false⟩⟩
def Pu:dQ:=⟨[.list (.int .i64)],[(false,[(.list (.int .i64),none)])],some ⟨[],[],[[],[]],false⟩⟩
def oT(T:TypeId):dQ:=⟨[.list (.int .i64)],[(false,[(.int .i64,some (1,T))])],none⟩
def Cp(ds:List D):D:=.list ((kT (jR (ds.getD 0 .top))).map (D.int .i64))
def CA(ds:List D):D:=.list ((Lib.compact (jR (ds.getD 0 .top))).map (D.int .i64))
def zo(ds:List D):D:=.list (ds.getD 0 .top).aV
theorem rT{l:List Int}:Has (.list (.int .i64)) (.list (l.map (D.int .i64)))↔l.length*8≤140737488355328∧ ∀x∈l,oY .i64 x:=by
 constructor
 ·intro h
  obtain⟨_,h1,⟨_,h2⟩,h3⟩:=bK.1 h
  injection h1 with h1;subst h1
  refine⟨by rw[aw]at h2;exact h2,fun x hx=> ?_⟩
  obtain⟨n,hn,hk⟩:=dA.1 (h3 (.int .i64 x) (bB.2 ⟨x,hx,rfl⟩))
  injection hn with _ hn;subst hn;exact hk
 ·rintro⟨h1,h2⟩
  refine bK.2 ⟨_,rfl,⟨by rw[aw];exact aR (show _≤140737488355328 by omega) (by decide),by rw[aw];exact h1⟩,fun x hx=> ?_⟩
  obtain⟨n,hn,rfl⟩:=bB.1 hx
  exact dA.2 ⟨n,rfl,h2 n hn⟩
theorem rW(l:List Int):(kT l).length=l.length:=List.length_mergeSort l
theorem AH{l:List Int}{x:Int}:x∈kT l↔x∈l:=List.mem_mergeSort
theorem Bn{l:List Int}{x:Int}(h:x∈Lib.compact l):x∈l:=by
 unfold Lib.compact Lib.compactUpTo at h
 obtain⟨i,hi,rfl⟩:=bB.1 h
 have Hg:=(List.mem_filter.1 hi).1
 rw[cW]at Hg
 rw[getElem!_pos _ i (by simpa using Hg)]
 simp
section
variable{P:Program}{ρ:Ren}{fn:Func}
theorem Ea{f:Nat}(hf:P.funcs[f]? =some fn)(hb:(fn.body.isSome&& !(fn.name== "runtime.NumGoroutine"))=true)(args:Array Value)(w:World):(callFunc f args).run P w= .ok (.enter f args) w:=by
 simp only[bc,gj]at hb
 obtain⟨h1,h2⟩:=hb
 unfold callFunc
 obtain⟨c,hc⟩:=dH.1 h1
 have DG:fn.name≠ "runtime.NumGoroutine" :=by simpa using h2
 simp[hf,hc,DG]
theorem vF{w w':World}{g:Nat}(h:w.grownBy w' (some g)):hU (fun b=>(Value.slice (some ⟨g,0,none⟩) 0 0).ownBlock=some b) w w':=
 ⟨h.os,h.tape,h.output,h.size,fun k hk fY=>h.block k hk (fun e=>fY (by simp only[ae]at e;subst e;rfl))⟩
theorem Qz(L:Lays.n189 P ρ)(hf:P.funcs[ρ.f 189]? =some fn)(hb:(fn.body.isSome&& !(fn.name== "runtime.NumGoroutine"))=true):bh P (ρ.f 189) OX (fun _=>True) Cp:=by
 refine⟨Ea hf hb,fun h=>(by cases h),fun ob h1 h2=>(by simp only[OX,ae]at h1;subst h1;cases h2),fun ob _ _ w T v zs Af iR _=> ?_⟩
 obtain⟨h8,hk⟩:=rT.1 iR
 have Z3:Cp [.list (zs.map (D.int .i64))] = .list ((kT zs).map (D.int .i64)):=by
  show D.list _=_
  rw[show jR ([D.list (zs.map (D.int .i64))].getD 0 .top)=zs from eX zs]
 have hhs:Has (.list (.int .i64)) (.list ((kT zs).map (D.int .i64))):=rT.2 ⟨by rw[rW];exact h8,fun x hx=>hk x (AH.1 hx)⟩
 rcases Af.2 with⟨rfl,h0⟩|⟨g,cap,cur,rfl,ON,Jv,h1,h2,h3,h4⟩
 ·have hz:zs=[] :=au h0
  subst hz
  have e0:kT [] =[] :=by simp[kT]
  rw[e0]at Z3 hhs
  refine(Any.slices_Sort_int_none L none 0 w).mono ?_
  rintro e w' ⟨rfl,rfl⟩
  exact⟨_,.slice none 0 0,[],rfl,Z3,hhs,⟨rfl,⟨rfl,.inl ⟨rfl,rfl⟩⟩,rfl,hU.refl _ _⟩⟩
 ·have h4':cur.toList.take zs.length=zs.map (Value.int .i64):=by simpa using h4
  refine(Any.slices_Sort_int L g 0 cap zs w (holds_of_blockI Jv h4') (aK.1 Jv).1 (by omega)).mono ?_
  rintro e w' ⟨rfl,n,os,rfl⟩
  have dm:=ownsRow_sortedI (n:=n) (os:=os) (ts:=kT zs) (rW zs) ON Jv h1 h2 h3
  refine⟨_,.slice (some ⟨g,0,none⟩) zs.length cap,kT zs,rfl,Z3,hhs,⟨rfl,?_,rfl,vF (grownBy_sortedI _)⟩⟩
  rw[rW];exact dm
theorem I3(L:Lays2.n20 P ρ)(hf:P.funcs[ρ.f 20]? =some fn)(hb:(fn.body.isSome&& !(fn.name== "runtime.NumGoroutine"))=true):bh P (ρ.f 20) Pu (fun _=>True) CA:=by
 refine⟨Ea hf hb,fun h=>(by cases h),fun ob h1 h2=>(by simp only[Pu,ae]at h1;subst h1;cases h2),fun ob _ _ w T v zs Af iR _=> ?_⟩
 obtain⟨h8,hk⟩:=rT.1 iR
 have hle:=Lib.compact_length_le zs
 have Z3:CA [.list (zs.map (D.int .i64))] = .list ((Lib.compact zs).map (D.int .i64)):=by
  show D.list _=_
  rw[show jR ([D.list (zs.map (D.int .i64))].getD 0 .top)=zs from eX zs]
 have hhs:Has (.list (.int .i64)) (.list ((Lib.compact zs).map (D.int .i64))):=rT.2 ⟨by omega,fun x hx=>hk x (Bn hx)⟩
 rcases Af.2 with⟨rfl,h0⟩|⟨g,cap,cur,rfl,ON,Jv,h1,h2,h3,h4⟩
 ·have hz:zs=[] :=au h0
  subst hz
  refine(Any.slices_Compact_int_empty L none 0 w).mono ?_
  rintro e w' ⟨rfl,rfl⟩
  exact⟨_,.slice none 0 0,Lib.compact [],rfl,Z3,hhs,⟨rfl,⟨rfl,.inl ⟨rfl,rfl⟩⟩,rfl,hU.refl _ _⟩⟩
 ·have h4':cur.toList.take zs.length=zs.map (Value.int .i64):=by simpa using h4
  refine(Any.slices_Compact_int L g 0 cap zs w (holds_of_blockI Jv h4') (by omega) h1).mono ?_
  rintro e w' ⟨rfl,q,rfl⟩
  have dm:=Lib.ownsRow_putRow (q:=q) (k:=(Lib.compact zs).length) (ys:=Lib.compact zs++List.replicate (zs.length-(Lib.compact zs).length) 0) Af (by simp;omega) (by omega)
  rw[List.take_left]at dm
  have hg:=grownBy_sortedI (w:=w) (g:=g) (n:=q) (os:= #[]) (Lib.compact zs++List.replicate (zs.length-(Lib.compact zs).length) 0).toArray
  rw[grow_empty]at hg
  exact⟨_,.slice (some ⟨g,0,none⟩) (Lib.compact zs).length cap,Lib.compact zs,rfl,Z3,hhs,⟨rfl,dm,rfl,vF hg⟩⟩
theorem NT(L:Lays2.n15 P ρ)(hf:P.funcs[ρ.f 15]? =some fn)(hb:(fn.body.isSome&& !(fn.name== "runtime.NumGoroutine"))=true):bh P (ρ.f 15) (oT (ρ.t 3)) (fun _=>True) zo:=by
 refine⟨Ea hf hb,fun _ w S vs ds hS hlen jf jA _=> ?_,fun ob h1=>(by cases h1),fun ob h1=>(by cases h1)⟩
 obtain⟨d,r,rfl,hd,hr⟩:=aj.1 jA
 obtain rfl:=dr.1 hr
 obtain⟨v,rfl⟩: ∃v,vs=[v] :=bO.1 hlen
 have hv:=jf 0 v d rfl rfl
 obtain⟨l,rfl,hl,qq⟩:=bK.1 hd
 obtain⟨zs,rfl⟩:=vu qq
 obtain⟨h8,hk⟩:=rT.1 hd
 have fin: ∀(v':Value) (w':World),w'.ownsRow w.heap.size (ρ.t 3) 1 v' zs.length (zs.map (Value.int .i64))→Below w.heap.size w w'→
   ∃u S' τ,Ending.returned v'= .returned u∧Below w.heap.size w w'∧(∀b o,S b o→S' b o)∧(∀b o,S' b o→b<w'.heap.size)∧(∀b o,S' b o→S b o∨w.heap.size≤b)∧
    iL w' 0 S' τ (oT (ρ.t 3)).res u (zo [.list (zs.map (D.int .i64))])∧(∀j b,j∈cO (oT (ρ.t 3)).res→(τ j).ownBlock=some b→w.heap.size≤b)∧(∀j k b,j∈cO (oT (ρ.t 3)).res→k∈cO (oT (ρ.t 3)).res→(τ j).ownBlock=some b→(τ k).ownBlock=some b→j=k)∧
    ∀j,j∈cO (oT (ρ.t 3)).res→frN j=true→Cl (fun b=>w.heap.size≤b) w' S' (τ j):=by
  intro v' w' dm lG
  have ou: ∀b,v'.ownBlock=some b→w.heap.size≤b:=by
   intro b ju
   rcases dm.2 with⟨rfl,_⟩|⟨g,cap,cur,rfl,hg,_⟩
   ·cases ju
   ·simp only[Value.ownBlock,ae]at ju;subst ju;exact hg
  have OF:w'.ownsRow 0 (ρ.t 3) 1 v' zs.length (zs.map (Value.int .i64)):=by
   refine⟨dm.1,?_⟩
   rcases dm.2 with h|⟨g,cap,cur,h1,_,h3⟩
   ·exact .inl h
   ·exact .inr ⟨g,cap,cur,h1,bf _,h3⟩
  refine⟨v',fun b o=>S b o∨(v'.ownBlock=some b∧o<zs.length),fun _=>v',rfl,lG,fun b o h=>.inl h,?_,?_,?_,fun j b _ h=>ou b h,?_,fun j hj hfj=>(by
   have e:cO (oT (ρ.t 3)).res=[1] :=rfl
   rw[e,aA]at hj
   subst hj;cases hfj)⟩
  ·rintro b o (h|⟨h,_⟩)
   ·exact ar (hS b o h) lG.size
   ·exact Vg dm h
  ·rintro b o (h|⟨h,_⟩)
   ·exact .inl h
   ·exact .inr (ou b h)
  ·refine .inl ⟨_,rfl,?_⟩
   refine⟨_,rfl,rfl,?_⟩
   refine⟨hd,by decide,zs.map (Value.int .i64),zs.map (D.int .i64),rfl,by rw[aw];exact OF,?_,?_⟩
   ·intro b ju o
    rw[aw]
    exact⟨fun h=>h.elim (fun h=>absurd (hS b o h) (Nat.not_lt.2 (ou b ju))) (fun h=>⟨rfl,h.2⟩),fun h=>.inr ⟨ju,h.2⟩⟩
   ·intro i d j u c kO hc hx
    simp only[ah,da]at kO
    obtain⟨z,hz,rfl⟩:=kO
    cases j with
    |succ j=>simp[D.cells]at hc
    |zero=>
     simp only[D.cells,dt,ae]at hc;subst hc
     have e1:(Ty.int .i64).cells.length=1:=rfl
     rw[e1,cd,ep,ah,hz]at hx
     simp only[aP,ae]at hx;subst hx
     exact .int _ _
  ·intro j k b hj N5 _ _
   have e:cO (oT (ρ.t 3)).res=[1] :=rfl
   rw[e,aA]at hj N5
   rw[hj,N5]
 show Calls P (ρ.f 15) #[v] w _
 generalize wN:(zs.map (D.int .i64))=l at hv
 cases hv with
 |nil a cap=>
  have hz:zs=[] :=by cases zs with|nil=>rfl|cons z r=>simp at wN
  subst hz
  cases a with
  |none=>
   refine(Any.slices_Clone_int_nil L 0 cap w).mono ?_
   rintro e w' ⟨rfl,rfl⟩
   exact fin _ _ ⟨rfl,.inl ⟨rfl,rfl⟩⟩ ⟨rfl,rfl,rfl,bn _,fun _ _=>rfl⟩
  |some a=>
   refine(Any.slices_Clone_int_zero L a cap w).mono ?_
   rintro e w' ⟨v',rfl,dm,_,lG⟩
   exact fin v' w' dm lG
 |list b off cap sz xs _ iY fY ke aop hSx hc hw h=>
  subst wN
  have avm:sz=1:=by
   cases zs with
   |nil=>simp at fY
   |cons z r=>rw[←hw 0 (.int .i64 z) rfl];rfl
  subst avm
  rw[aw,cd]at aop
  rw[aw]
  refine(Any.slices_Clone_int L b off zs.length cap zs w (bn _) h8 (fun j hj=> ?_)).mono ?_
  ·have hx:xs[j]? =some xs[j] :=aW (by omega)
   rw[hc j _ hx]
   have:=h j (.int .i64 zs[j]) 0 xs[j] (.int .i64 zs[j]) (by simp[hj]) rfl (by rw[cd,ep];exact hx)
   rw[this.cX]
   simp[List.getD,hj]
  ·rintro e w' ⟨v',rfl,dm,_,lG⟩
   rw[fS]at dm
   exact fin v' w' dm lG
end
end Go.dV
namespace Go.dV
open Go Go.RowKit Go.ChangeShapes Go.WideShapes
def rU(g:TypeId→Option (List Ty))(cells:TypeId→Nat):Nat→List Field→Option (List Ty)
 |_,[] =>some []
 |o,f::fs=>if f.offset=o then
   match g f.type with
   |some ts=>if cells f.type=ts.length then(rU g cells (o+ts.length) fs).map (ts++ ·) else none
   |none=>none
  else none
def Vy:Ty→Bool
 |.agg _=>false
 |_=>true
def H8(P:Program)(e:TypeId)(ts:List Ty):Option Ty:=
 if j5 P e then some (.agg (.dJ ts)) else match ts with
  | [t] =>if Vy t then some t else none
  |_=>none
def rZ(cells:Nat)(e:TypeId)(k:Nat):List Field:=(List.range k).map fun i=>{(default:Field) with type:=e,offset:=i*cells}
def qO(P:Program):Nat→TypeId→Option (List Ty)
 |0,_=>none
 |n+1,T=>match P.underlying T with
  |some .bool=>some [.bool]
  |some (.int k)=>some [.int k]
  |some .string=>some [.str]
  |some (.slice e)=>match qO P n e with
   |some ts=>if 0<ts.length∧P.cellsOf e=ts.length then(H8 P e ts).bind fun t=>if P.bytesOf e=t.bytes then some [.list t] else none else none
   |none=>none
  |some (.struct fs)=>match rU (qO P n) P.cellsOf 0 fs.toList with
   |some ts=>if P.cellsOf T=ts.length then some ts else none
   |none=>none
  |some (.array k e)=>match rU (qO P n) P.cellsOf 0 (rZ (P.cellsOf e) e k) with
   |some ts=>if P.cellsOf T=ts.length then some ts else none
   |none=>none
  |_=>none
def UJ(P:Program)(n:Nat)(T:TypeId):Option Ty:=(qO P n T).bind (H8 P T)
mutual
def D.wt:D→Nat
 |.list l=>qz l+1
 |.agg l=>qz l
 |_=>1
def qz:List D→Nat
 | [] =>0
 |d::r=>d.wt+qz r
end
mutual
def Ck{H:Type}:DataW H→Nat
 |.slice e _=>yz e+1
 |.agg p=>yz p
 |_=>1
def yz{H:Type}:List (DataW H)→Nat
 | [] =>0
 |d::r=>Ck d+yz r
end
theorem te: ∀{a b:List D},qz (a++b)=qz a+qz b
 | [],b=>by simp[qz]
 |x::a,b=>by simp only[er,qz,te (a:=a)];omega
theorem UN{H:Type}: ∀{ds:List D} {xs:List (DataW H)},ds.length=xs.length→(∀(i:Nat) d x,ds[i]? =some d→xs[i]? =some x→d.wt≤Ck x)→qz ds≤yz xs
 | [],[],_,_=>bn _
 | [],_::_,h,_=>by simp at h
 |_::_,[],h,_=>by simp at h
 |d::ds,x::xs,h,h'=>by
  simp only[qz,yz]
  have h1:=h' 0 d x rfl rfl
  have h2:=UN (ds:=ds) (xs:=xs) (by simpa using h) (fun i d x a b=>h' (i+1) d x (by simpa using a) (by simpa using b))
  omega
inductive R3 (K:Nat) (w:World) (S:bU):List Value→List D→List Ty→Prop
 |nil:R3 K w S [] [] []
 |cons {v d t vs ds ts} (h:cH w S v d) (ht:su K t d) (hr:R3 K w S vs ds ts):R3 K w S (v::vs) (d::ds) (t::ts)
section
variable{K:Nat}{d:D}{l:List D}{k:IntKind}{t h:Ty}{f:Nat}
theorem KI:su K (.int k) d↔ ∃n,d= .int k n∧oY k n:=dD
theorem GF:su K .bool d↔ ∃b,d= .bool b:=dD
theorem KH:su K .str d↔ ∃s,d= .str s:=dD
theorem wE:su K (.list t) d↔ ∃l,d= .list l∧HZ K t l.length∧ ∀x∈l,su K t x:=dD
theorem Wy:su K (.agg t) d↔ ∃l,d= .agg l∧tQ K t l:=dD
theorem Wu:su K (.fx t) d↔ ∃l,d= .fx l∧tQ K t l:=dD
theorem Wx:su K (.box t) d↔ ∃l,d= .ptr l∧tQ K t l:=dD
theorem Wv:su K (.ptr t) d↔d= .gW∨ ∃l,d= .ptr l∧tQ K t l:=dD
theorem Zr:su K (.fn f t) d↔ ∃l,d= .fn f l∧tQ K t l:=dD
theorem Ww:tQ K .nil l↔l=[] :=dD
theorem Rb:tQ K (.cons h t) l↔ ∃a r,l=a::r∧su K h a∧tQ K t r:=dD
end
section
variable{w:World}{S:bU}{K:Nat}
theorem R3.append{vs ds ts G4 ds' Xr}(h:R3 K w S vs ds ts)(h':R3 K w S G4 ds' Xr):R3 K w S (vs++G4) (ds++ds') (ts++Xr):=by
 induction h with
 |nil=>exact h'
 |cons a b _ ih=>exact .cons a b ih
theorem R3.len{vs ds ts}(h:R3 K w S vs ds ts):vs.length=ts.length∧ds.length=ts.length:=by
 induction h with
 |nil=>exact⟨rfl,rfl⟩
 |cons a b _ ih=>exact⟨by simp[ih.1],by simp[ih.2]⟩
theorem R3.get{vs ds ts}(h:R3 K w S vs ds ts): ∀(i:Nat) v d,vs[i]? =some v→ds[i]? =some d→cH w S v d:=by
 induction h with
 |nil=>intro i v d h;simp at h
 |cons a b _ ih=>
  intro i v d h1 h2
  cases i with
  |zero=>simp at h1 h2;subst h1;subst h2;exact a
  |succ i=>exact ih i v d (by simpa using h1) (by simpa using h2)
theorem R3.has{vs ds ts}(h:R3 K w S vs ds ts):tQ K (.dJ ts) ds:=by
 induction h with
 |nil=>exact Ww.2 rfl
 |cons a b _ ih=>exact Rb.2 ⟨_,_,rfl,b,ih⟩
theorem I5{t:Ty}{d:D}(h:su K t d)(hn:Vy t=true):d.cells=[d] :=by
 cases t with
 |agg fs=>cases hn
 |int k=>obtain⟨n,rfl,_⟩:=KI.1 h;rfl
 |bool=>obtain⟨n,rfl⟩:=GF.1 h;rfl
 |str=>obtain⟨n,rfl⟩:=KH.1 h;rfl
 |list t=>obtain⟨n,rfl,_⟩:=wE.1 h;rfl
 |fx t=>obtain⟨n,rfl,_⟩:=Wu.1 h;rfl
 |box t=>obtain⟨n,rfl,_⟩:=Wx.1 h;rfl
 |ptr t=>rcases Wv.1 h with rfl|⟨n,rfl,_⟩<;>rfl
 |fn f t=>obtain⟨n,rfl,_⟩:=Zr.1 h;rfl
 |nil=>exact h.elim
 |cons a b=>exact h.elim
theorem Po{P:Program}{e:TypeId}{ts:List Ty}{t:Ty}{vs:List Value}{ds:List D}(he:H8 P e ts=some t)(h:R3 K w S vs ds ts): ∃d:D,su K t d∧d.cells=ds∧(j5 P e=true→d= .agg ds)∧(j5 P e=false→ds=[d])∧d.wt=qz ds:=by
 unfold H8 at he
 split at he
 ·rename_i ha
  injection he with he;subst he
  exact⟨.agg ds,Wy.2 ⟨ds,rfl,h.has⟩,rfl,fun _=>rfl,(fun h=>by rw[ha]at h;cases h),by simp[D.wt]⟩
 ·rename_i ha
  split at he
  ·rename_i t'
   split at he
   ·rename_i hn
    injection he with he;subst he
    cases h with
    |cons a b hr=>
     cases hr
     rename_i d
     exact⟨d,b,I5 b hn,(fun h=>absurd h ha),(fun _=>rfl),by simp[qz]⟩
   ·cases he
  ·cases he
variable{H:Type}{enc:TypeId×Value→H}{P:Program}{base:Nat}{spare:Nat→Bool}{held:Bool}
theorem tR{z:Nat}: ∀{ts:List TypeId} {ds:List (DataW H)} (i:Nat) {t:TypeId} {d:DataW H},ts[i]? =some t→ds[i]? =some d→z∈d.weights P t→z∈DataW.weightsEach P ts ds
 | [],_,i,t,d,h,_,_=>by simp at h
 |_::_,[],i,t,d,_,h,_=>by simp at h
 |t::ts,d::ds,0,u,e,h1,h2,hz=>by
  simp at h1 h2;subst h1;subst h2
  unfold DataW.weightsEach
  exact aC _ hz
 |t::ts,d::ds,i+1,u,e,h1,h2,hz=>by
  unfold DataW.weightsEach
  exact bC _ (tR i (by simpa using h1) (by simpa using h2) hz)
theorem qm{z:Nat}{e:TypeId}: ∀{ds:List (DataW H)} {d:DataW H},d∈ds→z∈d.weights P e→z∈DataW.weightsAll P e ds
 | [],d,h,_=>by simp at h
 |x::ds,d,h,hz=>by
  unfold DataW.weightsAll
  rcases aM.1 h with rfl|h
  ·exact aC _ hz
  ·exact bC _ (qm h hz)
theorem xY{n m:Nat}{cs:List Value}
  (ih: ∀(T:TypeId) (cs:List Value) (x:DataW H×List MemPlace) (ts:List Ty),qO P n T=some ts→DataW.trod enc P w base spare held m T cs=some x→(∀b o,MemPlace.cell b o∈x.2→S b o)→(∀z∈x.1.weights P T,z≤K)→ ∃ds,R3 K w S cs ds ts∧qz ds≤Ck x.1):
  ∀(fs:List Field) (xs:List (DataW H×List MemPlace)) (o:Nat) (ts:List Ty),rU (qO P n) P.cellsOf o fs=some ts→cs.length=o+ts.length→xs.length=fs.length→
   (∀(i:Nat) f,fs[i]? =some f→ ∃x:DataW H×List MemPlace,xs[i]? =some x∧DataW.trod enc P w base spare held m f.type ((cs.drop f.offset).take (P.cellsOf f.type))=some x∧(∀b o,MemPlace.cell b o∈x.2→S b o)∧ ∀z∈x.1.weights P f.type,z≤K)→
   ∃ds,R3 K w S (cs.drop o) ds ts∧qz ds≤yz (xs.map (·.1))
 | [],xs,o,ts,h,hl,_,_=>by
  simp only[rU,ae]at h
  subst h
  rw[ck (by simp at hl;omega)]
  exact⟨[],.nil,bf _⟩
 |f::fs,[],o,ts,h,hl,nq,_=>by simp at nq
 |f::fs,x0::xs,o,ts,h,hl,nq,hx=>by
  simp only[rU]at h
  split at h
  ·rename_i ho
   split at h
   ·rename_i t1 ht1
    split at h
    ·rename_i hc
     simp only[da]at h
     obtain⟨t2,N3,rfl⟩:=h
     obtain⟨x,jL,wW,r7,Z7⟩:=hx 0 f rfl
     simp only[dt,ae]at jL
     subst jL
     obtain⟨d1,r1,k1⟩:=ih _ _ _ _ ht1 wW r7 Z7
     rw[an]at hl
     obtain⟨d2,r2,k2⟩:=xY (cs:=cs) ih fs xs (o+t1.length) t2 N3 (by omega) (by simpa using nq) (fun i g hg=>by
      obtain⟨y,hy,hr⟩:=hx (i+1) g (by simpa using hg)
      exact⟨y,by simpa using hy,hr⟩)
     refine⟨d1++d2,?_,by rw[te];simp only[cZ,yz];omega⟩
     have:=r1.append r2
     rw[hc,ho]at this
     rw[←List.drop_drop,ev]at this
     exact this
    ·cases h
   ·cases h
  ·cases h
theorem yZ: ∀(n m:Nat) (T:TypeId) (cs:List Value) (x:DataW H×List MemPlace) (ts:List Ty),qO P n T=some ts→DataW.trod enc P w base spare held m T cs=some x→(∀b o,MemPlace.cell b o∈x.2→S b o)→(∀z∈x.1.weights P T,z≤K)→ ∃ds,R3 K w S cs ds ts∧qz ds≤Ck x.1
 |0,_,_,_,_,_,h,_,_,_=>by cases h
 |n+1,m,T,cs,x,ts,h,hx,hS,Lq=>by
  unfold qO at h
  split at h
  ·rename_i hu
   injection h with h;subst h
   obtain⟨b,rfl,rfl⟩:=DataW.trod_bool hu hx
   exact⟨[.bool b],.cons (.bool b) (GF.2 ⟨b,rfl⟩) .nil,by simp[qz,D.wt,Ck]⟩
  ·rename_i k hu
   injection h with h;subst h
   obtain⟨i,rfl,rfl,hw⟩:=DataW.trod_int hu hx
   exact⟨[.int k i],.cons (.int k i) (KI.2 ⟨i,rfl,by simpa [Lit.wf,oY]using hw⟩) .nil,by simp[qz,D.wt,Ck]⟩
  ·rename_i hu
   injection h with h;subst h
   obtain⟨s,rfl,rfl,_⟩:=DataW.trod_string hu hx
   exact⟨[.str s],.cons (.str s) (KH.2 ⟨s,rfl⟩) .nil,by simp[qz,D.wt,Ck]⟩
  ·rename_i e hu
   split at h
   ·rename_i t1 ht1
    split at h
    ·rename_i ir
     obtain⟨ir,RP⟩:=ir
     rw[dP]at h
     obtain⟨t,het,h⟩:=h
     split at h
     case isFalse=>cases h
     rename_i Fw
     injection h with h;subst h
     rcases DataW.trod_slice hu hx with⟨rfl,hxn⟩|⟨a,len,cap,elems,rest,m',rfl,rfl,Lp,_,PL,Jg,hle,Fb,_⟩
     ·exact⟨[.list []],.cons (.nil none 0) (wE.2 ⟨[],rfl,Bo _ _,by simp⟩) .nil,by rw[hxn];simp[qz,D.wt,Ck]⟩
     ·rcases Nat.eq_zero_or_pos len with h0|h0
      ·subst h0
       exact⟨[.list []],.cons (.nil (some a) cap) (wE.2 ⟨[],rfl,Bo _ _,by simp⟩) .nil,by rw[Lp];simp[qz,D.wt,Ck]⟩
      ·rw[RP]at Fb
       have Ye: ∀z∈((elems.map (·.1)).length+(rest.map (·.1)).length)*P.bytesOf e::(DataW.weightsAll P e (elems.map (·.1))++DataW.weightsAll P e (rest.map (·.1))),z≤K:=by
        intro z hz
        refine Lq z ?_
        rw[Lp]
        simp only[DataW.weights,hu]
        exact hz
       have kv: ∀i,i<len→ ∃(ci:List Value) (d:D),w.cells? base (a.add (i*t1.length)) t1.length=some ci∧su K t d∧d.cells.length=t1.length∧(∀(j:Nat) v c,ci[j]? =some v→d.cells[j]? =some c→cH w S v c)∧ ∀x,elems[i]? =some x→d.wt≤Ck x.1:=by
        intro i hi
        have h1:=Fb i hi
        have h2:elems[i]? =some (elems[i]'(by omega)):=aW _
        rw[h2,dP]at h1
        obtain⟨ci,N9,XA⟩:=h1
        obtain⟨di,ri,ki⟩:=yZ n m' e ci _ t1 ht1 XA (fun b o hb=>hS b o (by
         rw[Lp]
         refine bC _ (dh.2 ⟨elems[i]'(by omega),aC _ (aX _),hb⟩))) (fun z hz=>Ye z (aI _ (aC _ (qm (bB.2 ⟨_,aX _,rfl⟩) hz))))
        obtain⟨d,hd,hdc,_,_,hdw⟩:=Po het ri
        refine⟨ci,d,N9,hd,by rw[hdc];exact ri.len.2,fun j v c hv hc=> ?_,fun x hx=>by rw[h2]at hx;injection hx with hx;subst hx;rw[hdw];exact ki⟩
        rw[hdc]at hc
        exact ri.get j v c hv hc
       obtain⟨b,off,spot⟩:=a
       have an8:spot=none:=by
        obtain⟨ci,d,N9,_,_⟩:=kv 0 h0
        obtain⟨_,hlen,eW⟩:=World.cells?_some N9
        have g0:=eW 0 ir
        obtain⟨c0,PT⟩: ∃c0,ci[0]? =some c0:=⟨ci[0]'(by omega),aW _⟩
        rw[PT]at g0
        simpa [Addr.add]using World.cell?_spot g0
       subst an8
       have XP: ∀i:Nat,∃d:D,i<len→su K t d∧d.cells.length=t1.length∧(∀(j:Nat) c,d.cells[j]? =some c→ ∃v,w.cell? ⟨b,off+(i*t1.length+j),none⟩=some v∧cH w S v c)∧ ∀x,elems[i]? =some x→d.wt≤Ck x.1:=by
        intro i
        by_cases hi:i<len
        ·obtain⟨ci,d,N9,hd,wN,jf,PF⟩:=kv i hi
         obtain⟨_,hlen,eW⟩:=World.cells?_some N9
         refine⟨d,fun _=>⟨hd,wN,fun j c hc=> ?_,PF⟩⟩
         have hj:j<t1.length:=by rw[←wN];exact(aH.1 hc).1
         have g:=eW j hj
         rw[add_plain,add_plain]at g
         have hv:ci[j]? =some (ci[j]'(by omega)):=aW _
         refine⟨_,?_,jf j _ c hv hc⟩
         rw[←fo,g,hv]
        ·exact⟨.top,fun h=>absurd h hi⟩
       have Qf:=fun i=>Classical.choose_spec (XP i)
       generalize hD:(fun i=>Classical.choose (XP i))=Df at*
       have hDf: ∀i,Classical.choose (XP i)=Df i:=fun i=>by rw[←hD]
       simp only[hDf]at Qf
       refine⟨[.list ((List.range len).map Df)],.cons ?_ (wE.2 ⟨_,rfl,⟨by simp;omega,?_⟩,?_⟩) .nil,?_⟩
       ·have qY:((List.range len).map Df).length=len:=by simp
        have hgo: ∀(i:Nat) d,((List.range len).map Df)[i]? =some d→i<len∧d=Df i:=by
         intro i d hi
         have bP:i<len:=by rw[←qY];exact(aH.1 hi).1
         simp[bP]at hi
         exact⟨bP,hi.symm⟩
        have:=cH.list (w:=w) (S:=S) b off cap t1.length ((List.range (len*t1.length)).map fun j=>(w.cell? ⟨b,off+j,none⟩).getD undef) ((List.range len).map Df) ir
         (by intro h;have:=congrArg List.length h;simp at this;omega) (by rw[qY];exact PL) (by simp)
         (fun i hi=>hS b (off+i) (by
          rw[Lp]
          refine aC _ (MemPlace.mem_row.2 ⟨i,?_,rfl⟩)
          simp at hi
          rw[RP,hle]
          exact ar hi (az _ (by omega))))
         (fun i v hv=>by
          have hi:i<len*t1.length:=by have:=(aH.1 hv).1;simpa using this
          simp[hi]at hv
          have hq:i/t1.length<len:=(fL ir).2 hi
          obtain⟨_,wN,qt,_⟩:=Qf (i/t1.length) hq
          have hr:i % t1.length<(Df (i/t1.length)).cells.length:=by rw[wN];exact Nat.mod_lt _ ir
          obtain⟨u,R4,_⟩:=qt (i % t1.length) _ (aW hr)
          have PN:i/t1.length*t1.length+i % t1.length=i:=by rw[Nat.mul_comm];exact Nat.div_add_mod i t1.length
          rw[PN]at R4
          rw[R4]at hv⊢
          exact congrArg some hv)
         (fun i d hi=>by obtain⟨h1,rfl⟩:=hgo i d hi;exact(Qf i h1).2.1)
         (fun i d j v c hi hj hv=>by
          obtain⟨h1,rfl⟩:=hgo i d hi
          obtain⟨_,wN,qt,_⟩:=Qf i h1
          obtain⟨u,R4,XD⟩:=qt j c hj
          have lZ:j<t1.length:=by rw[←wN];exact(aH.1 hj).1
          have bP:i*t1.length+j<len*t1.length:=by
           have:(i+1)*t1.length≤len*t1.length:=az _ h1
           rw[cw]at this;omega
          simp[bP,R4]at hv
          subst hv
          exact XD)
        rw[qY]at this
        exact this
       ·have h9:=Ye _ (bI ..)
        rw[←Fw]
        simp only[aw,gh,hle]at h9⊢
        rw[cw]at h9
        omega
       ·intro d hd
        obtain⟨i,hi,rfl⟩:=bB.1 hd
        exact(Qf i (cW.1 hi)).1
       ·rw[Lp]
        simp only[qz,D.wt,Ck,aw,gh]
        have:=UN (H:=H) (ds:=(List.range len).map Df) (xs:=elems.map (·.1)) (by simp[hle]) (fun i d x hd hx=>by
         have bP:i<len:=by have:=(aH.1 hd).1;simpa using this
         simp[bP]at hd
         subst hd
         rw[ah,da]at hx
         obtain⟨y,hy,rfl⟩:=hx
         exact(Qf i bP).2.2.2 y hy)
        omega
    ·cases h
   ·cases h
  ·rename_i fs hu
   split at h
   ·rename_i t1 ht1
    split at h
    ·rename_i Ju
     injection h with h;subst h
     obtain⟨xs,m',rfl,rfl,hl,nq,hf⟩:=DataW.trod_struct hu hx
     have:=xY (S:=S) (cs:=cs) (n:=n) (m:=m') (enc:=enc) (base:=base) (spare:=spare) (held:=held) (fun T cs x ts=>yZ n m' T cs x ts) fs.toList xs 0 t1 ht1 (by omega) (by simpa using nq) (fun i f hi=>by
      rw[Array.getElem?_toList]at hi
      have Xy:=hf i f hi
      have iJ:i<xs.length:=by rw[nq];exact(aK.1 hi).1
      rw[aW iJ]at Xy
      refine⟨_,aW iJ,Xy,fun b o hb=>hS b o (dh.2 ⟨_,aX iJ,hb⟩),fun z hz=>Lq z ?_⟩
      simp only[DataW.weights,hu]
      exact tR i (by simp[hi]) (by simp[aW iJ]) hz)
     simpa [Ck]using this
    ·cases h
   ·cases h
  ·rename_i k e hu
   split at h
   ·rename_i t1 ht1
    split at h
    ·rename_i Ju
     injection h with h;subst h
     obtain⟨xs,m',rfl,rfl,hl,nq,hf⟩:=DataW.trod_array hu hx
     have hfi: ∀(i:Nat) f,(rZ (P.cellsOf e) e k)[i]? =some f→i<k∧f.type=e∧f.offset=i*P.cellsOf e:=by
      intro i f hi
      unfold rZ at hi
      rw[ah,da]at hi
      obtain⟨j,hj,rfl⟩:=hi
      obtain⟨N6,FW⟩:=aH.1 hj
      rw[gh]at N6
      rw[List.getElem_range]at FW
      exact⟨N6,rfl,by rw[←FW]⟩
     have:=xY (S:=S) (cs:=cs) (n:=n) (m:=m') (enc:=enc) (base:=base) (spare:=spare) (held:=held) (fun T cs x ts=>yZ n m' T cs x ts) (rZ (P.cellsOf e) e k) xs 0 t1 ht1 (by omega) (by simp[rZ,nq]) (fun i f hi=>by
      obtain⟨PM,e1,e2⟩:=hfi i f hi
      have Xy:=hf i PM
      have iJ:i<xs.length:=by rw[nq];exact PM
      rw[aW iJ]at Xy
      rw[e1,e2]
      refine⟨_,aW iJ,Xy,fun b o hb=>hS b o (dh.2 ⟨_,aX iJ,hb⟩),fun z hz=>Lq z ?_⟩
      simp only[DataW.weights,hu]
      exact qm (bB.2 ⟨_,aX iJ,rfl⟩) hz)
     simpa [Ck]using this
    ·cases h
   ·cases h
  ·cases h
end
def DN(P:Program)(n:Nat):List TypeId→Option (List Ty)
 | [] =>some []
 |t::ts=>match UJ P n t,DN P n ts with
  |some x,some xs=>some (x::xs)
  |_,_=>none
section
variable{K:Nat}{w:World}{S:bU}{H:Type}{enc:TypeId×Value→H}{P:Program}{base b0:Nat}{spare:Nat→Bool}{held:Bool}{r:Reach}
theorem IP{T:TypeId}{v:Value}(cI:Value.okWide P w r b0 T v)(ha:j5 P T=false):v.cells.toList=[v] :=by
 have: ∀cs,v≠ .agg cs:=by
  rintro cs rfl
  unfold Value.okWide at cI
  unfold j5 at ha
  split at cI
  ·simp_all
  ·simp_all
  ·unfold Cell.okWide at cI
   split at cI<;>simp_all [Cell.ok]
 cases v<;>first|rfl|exact absurd rfl (this _)
theorem Nu{T:TypeId}{v:Value}(cI:Value.okWide P w r b0 T v)(ha:j5 P T=true): ∃cs:List Value,v= .agg cs.toArray:=by
 unfold Value.okWide at cI
 unfold j5 at ha
 split at cI
 ·obtain⟨cs,rfl,_⟩:=cI;exact⟨cs.toList,rfl⟩
 ·obtain⟨cs,rfl,_⟩:=cI;exact⟨cs.toList,rfl⟩
 ·simp_all
theorem ZR{n:Nat}{T:TypeId}{v:Value}{d:DataW H}{ps:List MemPlace}{ty:Ty}(cI:Value.okWide P w r b0 T v)(hd:DataW.Trod enc P w base spare held T v d ps)(jA:UJ P n T=some ty)
  (hS: ∀b o,MemPlace.cell b o∈ps→S b o) (Lq: ∀z∈d.weights P T,z≤K): ∃x:D,cH w S v x∧su K ty x∧x.wt≤Ck d:=by
 unfold UJ at jA
 rw[dP]at jA
 obtain⟨ts,rH,he⟩:=jA
 obtain⟨m,hm⟩:=hd
 obtain⟨ds,hr,hk⟩:=yZ n m T _ _ ts rH hm hS Lq
 obtain⟨x,hx,_,h1,h2,h3⟩:=Po he hr
 refine⟨x,?_,hx,by rw[h3];exact hk⟩
 cases ha:j5 P T with
 |true=>
  obtain⟨cs,rfl⟩:=Nu cI ha
  rw[h1 ha]
  have E0:R3 K w S cs ds ts:=hr
  exact .agg cs ds (by rw[E0.len.1,E0.len.2]) E0.get
 |false=>
  rw[IP cI ha,h2 ha]at hr
  exact hr.get 0 v x rfl rfl
theorem KO{n:Nat}: ∀{ts:List TypeId} {vs:List Value} {ds:List (DataW H)} {ps:List MemPlace} {rE:List Ty},(∀(j:Nat) t v,ts[j]? =some t→vs[j]? =some v→Value.okWide P w r b0 t v)→
  DataW.TrodAll enc P w base spare held ts vs ds ps→DN P n ts=some rE→(∀b o,MemPlace.cell b o∈ps→S b o)→(∀z∈DataW.weightsEach P ts ds,z≤K)→ ∃xs:List D,R3 K w S vs xs rE∧qz xs≤yz ds
 | [],[],[],ps,rE,_,_,ht,_,_=>by
  simp only[DN,ae]at ht
  subst ht
  exact⟨[],.nil,bf _⟩
 |t::ts,v::vs,d::ds,ps,rE,cI,⟨p,q,h1,h2,e⟩,ht,hS,Lq=>by
  unfold DataW.weightsEach at Lq
  simp only[DN]at ht
  split at ht
  ·rename_i x xs hx tF
   injection ht with ht;subst ht
   obtain⟨a,ha,hta,hka⟩:=ZR (cI 0 t v rfl rfl) h1 hx (fun b o hb=>hS b o (by rw[e];exact aC _ hb)) (fun z hz=>Lq z (aC _ hz))
   obtain⟨ys,has,hks⟩:=KO (fun j t v h1 h2=>cI (j+1) t v (by simpa using h1) (by simpa using h2)) h2 tF (fun b o hb=>hS b o (by rw[e];exact bC _ hb)) (fun z hz=>Lq z (bC _ hz))
   exact⟨a::ys,.cons ha hta has,by simp only[qz,yz];omega⟩
  ·cases ht
 | [],_::_,_,_,_,_,h,_,_,_| [],[],_::_,_,_,_,h,_,_,_|_::_,[],_,_,_,_,h,_,_,_|_::_,_::_,[],_,_,_,h,_,_,_=>h.elim
theorem xh(hl:laidOutB P=true){W W':World}(hb:Below W.heap.size W W'): ∀{ts:List TypeId} {vs:List Value} {ds:List (DataW H)} {ps:List MemPlace},(ts.all fun t=>P.readableRec t&&decide (t<P.types.size))=true→
  DataW.TrodAll enc P W 0 (fun _=>true) true ts vs ds ps→(∀x∈ps,x.block<W.heap.size)→DataW.TrodAll enc P W' 0 (fun b=>decide (b<W.heap.size)) true ts vs ds ps
 | [],[],[],_,_,h,_=>h
 |t::ts,v::vs,d::ds,ps,hr,⟨p,q,h1,h2,e⟩,bP=>by
  rw[List.all_cons,bc,bc,bQ]at hr
  exact⟨p,q,Below.trod hl hr.1.1 hr.1.2 h1 hb (fun x hx=>bP x (by rw[e];exact aC _ hx)),
   xh hl hb hr.2 h2 (fun x hx=>bP x (by rw[e];exact bC _ hx)),e⟩
 | [],_::_,_,_,_,h,_| [],[],_::_,_,_,h,_|_::_,[],_,_,_,h,_|_::_,_::_,[],_,_,h,_=>h.elim
theorem IU{f:Nat}{fn:Func}{sig:dQ}{s:ChangeSpec}{apart:Bool}{W:World}{args:Array Value}{ds gs:List (DataW H)}{before:List MemPlace}{tb:TypeId}{Pre:List D→Prop}{Φ:List D→D}(n:Nat)
  (hp:bh P f sig Pre Φ) (hl:laidOutB P=true) (aod:(fn.params.toList.all fun t=>P.readableRec t&&decide (t<P.types.size))=true) (jA:DN P n fn.params.toList=some sig.params)
  (fi:sig.res=[(false,[(.bool,none)])]) (hrt:fn.resultTypes= #[tb]) (htb:P.underlying tb=some .bool) (Uk:s.vars=[])
  (hfn:s.fn H ds={results:=[.lit (.bool true)],args:=ds})
  (SL: ∀(j:Nat) t v,fn.params[j]? =some t→args[j]? =some v→Value.okWide P W r b0 t v)
  (hW:DataW.Whole enc P fn.params.toList s.vars apart W args.toList ds gs before)
  (Lq:(DataW.weightsEach P (fn.params.toList++s.plain.varTypes P) (ds++gs)).all (· ≤reachBytes)=true)
  (ks: ∀xs,tQ reachBytes (.dJ sig.params) xs→qz xs≤yz (ds++gs)→Pre xs∧Φ xs= .bool true) (fX:sig.ob=none:=by rfl):
  Calls P f args W fun e W'=> ∃v,e= .returned v∧s.post enc P fn apart true false false W args v W':=by
 have bP:=hW.lt
 have hW0:=hW
 obtain⟨p,q,hA,hV,rfl,_,_⟩:=hW
 rw[Uk]at hV
 obtain⟨rfl,rfl⟩:gs=[] ∧q=[] :=by
  cases gs with
  |nil=>exact⟨rfl,hV⟩
  |cons a b=>exact hV.elim
 have hvt:s.plain.varTypes P=[] :=by simp[ChangeSpec.plain,DataSpec.varTypes,Uk]
 rw[hvt,cQ,cQ]at Lq
 have Ye: ∀z∈DataW.weightsEach P fn.params.toList ds,z≤reachBytes:=fun z hz=>by
  simpa using cn.1 Lq z hz
 have h8:reachBytes≤140737488355328:=by decide
 obtain⟨xs,hr,LF⟩:=KO (S:=fun b o=>MemPlace.cell b o∈p) (fun j t v h1 h2=>SL j t v (by simpa using h1) (by simpa using h2)) hA jA (fun _ _ h=>h) Ye
 obtain⟨hp1,PK⟩:=ks xs hr.has (by rw[cQ];exact LF)
 have hc:=hp.calls fX W (fun b o=>MemPlace.cell b o∈p) args.toList xs (fun b o hb=>bP (.cell b o) (aC _ hb)) (by rw[hr.len.1,hr.len.2]) hr.get ((pO h8 _).2 _ hr.has) hp1
 refine hc.mono fun e W' h=> ?_
 obtain⟨v,S',τ,rfl,hb,_,_,_,qB,_⟩:=h
 rw[fi]at qB
 rcases qB with⟨x,hx,hco⟩|⟨fY,_⟩
 ·simp only[eJ,and_true]at hx
  subst hx
  obtain⟨c,qZ,wP⟩:=hco
  simp only[eJ,and_true]at qZ
  subst qZ
  obtain⟨wP,_⟩:=wP
  rw[PK]at wP
  have hv:=wP.iE
  subst hv
  have hdg:(s.fn H (ds++[]))={results:=[.lit (.bool true)],args:=ds}:=by rw[cQ,hfn]
  refine⟨_,rfl,ds,[],_,[],p,[],hW0,?_,?_,?_,hb.frame _,fun h=>by cases h⟩
  ·rw[hdg,hrt]
   exact⟨[],[],⟨1,by simp[DataW.trod,Value.cells,htb]⟩,rfl,rfl⟩
  ·rw[hdg]
   exact xh hl hb aod hA (fun x hx=>bP x (aC _ hx))
  ·rw[hdg,Uk];rfl
 ·exact absurd rfl fY
end
end Go.dV
namespace Go.dV
open Go Go.RowKit
theorem xJ.rep{w:World}{S:bU}{T:TypeId}{t:Ty}{v:Value}{d:D}(h:xJ false w 0 S T t v d):cH w S v d:=by
 have:=xJ.ok (C:=⟨fun _=>d,1,fun _=>True⟩) (G:=⟨S,fun _=>0,fun _=>v⟩) (g:=(0,0)) (e:=.var 0) h trivial rfl rfl rfl rfl
 exact this.rep h.sz
section
variable{Φ:Nat→List D→D}{Pre:Nat→List D→Prop}{R:D→Prop}{ρ:Nat→D}{gk:List (List D→Prop)}
theorem fI{p:Nat}{t:Ty}{k:VC}:(VC.any p t k).holds Φ Pre R ρ gk= ∀d,Has t d→k.holds Φ Pre R (fU ρ p d) gk:=rfl
theorem fH{p:Nat}{fs:List (E×E)}{k:VC}:(VC.hav p fs k).holds Φ Pre R ρ gk= ∀d,(∀x∈fs,(den (fU ρ p d) x.1).aV.length=(den (fU ρ p d) x.2).aV.length)→k.holds Φ Pre R (fU ρ p d) gk:=rfl
end
def jz(fn:Func):Code:=match fn.body with
 |some c=>c
 |none=>.skip
end Go.dV
namespace Go.dV
open Go
section
variable{α:Type}(Φ:Nat→List D→D)
def VC.Ls(rt:D→α)(ag:Nat→List D→α)(lp:Nat→(Nat→D)→List D→α)(bad:α):VC→(Nat→D)→α
 |.lM _ _ k,ρ=>k.Ls rt ag lp bad ρ
 |.call p f a _ k,ρ=>k.Ls rt ag lp bad (fU ρ p (Φ f (den ρ a).aV))
 |.room _ _ _ k,ρ=>k.Ls rt ag lp bad ρ
 |.branch e t f,ρ=>if(den ρ e).gV=true then t.Ls rt ag lp bad ρ else f.Ls rt ag lp bad ρ
 |.loop v0 es _ _,ρ=>lp v0 ρ (es.map (den ρ))
 |.again i es,ρ=>ag i (es.map (den ρ))
 |.ret e,ρ=>rt (den ρ e)
 |_,_=>bad
def VC.sj:VC→(Nat→D)→List D
 |.lM _ _ k,ρ=>k.sj ρ
 |.call p f a _ k,ρ=>k.sj (fU ρ p (Φ f (den ρ a).aV))
 |.room _ _ _ k,ρ=>k.sj ρ
 |.branch _ t f,ρ=>t.sj ρ++f.sj ρ
 |.ret e,ρ=> [den ρ e]
 |_,_=> []
def VC.mq:VC→(Nat→D)→List (List D)
 |.lM _ _ k,ρ=>k.mq ρ
 |.call p f a _ k,ρ=>k.mq (fU ρ p (Φ f (den ρ a).aV))
 |.room _ _ _ k,ρ=>k.mq ρ
 |.branch _ t f,ρ=>t.mq ρ++f.mq ρ
 |.again _ es,ρ=> [es.map (den ρ)]
 |_,_=> []
end
def VC.flat:Bool→VC→Bool
 |b,.lM _ _ k|b,.room _ _ _ k=>k.flat b
 |b,.call _ _ _ _ k=>k.flat b
 |b,.branch _ t f=>t.flat b&&f.flat b
 |b,.again i _=>b&&i==0
 |_,_=>true
def VC.quiet(triv:Nat→Bool):VC→Bool
 |.call _ f _ _ k=>triv f&&k.quiet triv
 |.branch _ t f=>t.quiet triv&&f.quiet triv
 |.again .. =>true
 |.ret _=>true
 |_=>false
section
variable(Φ:Nat→List D→D)(Pre:Nat→List D→Prop)(triv:Nat→Bool)
def VC.RX(L:VC→(Nat→D)→Prop):VC→(Nat→D)→Prop
 |.lM pc e k,ρ=>(aU ρ pc=true→(den ρ e).gV=true)∧(if k.quiet triv then True else k.RX L ρ)
 |.call p f a pc k,ρ=>(if triv f then True else(aU ρ pc=true→Pre f (den ρ a).aV))∧(if k.quiet triv then True else k.RX L (fU ρ p (Φ f (den ρ a).aV)))
 |.room pc e bytes k,ρ=>(aU ρ pc=true→(den ρ e).aV.length≤maxLen∧(den ρ e).aV.length*bytes≤140737488355328)∧(if k.quiet triv then True else k.RX L ρ)
 |.branch e t f,ρ=>(if t.quiet triv then True else((den ρ e).gV=true→t.RX L ρ))∧(if f.quiet triv then True else((den ρ e).gV=false→f.RX L ρ))
 |.loop v0 es rE body,ρ=>L (.loop v0 es rE body) ρ
 |.again ..,_=>True
 |.ret _,_=>True
 |_,_=>False
def VC.BU(L:VC→(Nat→D)→Prop)(v:VC)(ρ:Nat→D):Prop:=if v.quiet triv then True else v.RX Φ Pre triv L ρ
end
section
variable{Φ:Nat→List D→D}{Pre:Nat→List D→Prop}{triv:Nat→Bool}
theorem VC.iU{R R':D→Prop}(hR: ∀d,R d→R' d): ∀(v:VC) (ρ:Nat→D) (gk:List (List D→Prop)),v.holds Φ Pre R ρ gk→v.holds Φ Pre R' ρ gk
 |.lM _ _ k,ρ,gk,h=>⟨h.1,iU hR k ρ gk h.2⟩
 |.call _ _ _ _ k,ρ,gk,h=>⟨h.1,fun d hd=>iU hR k _ gk (h.2 d hd)⟩
 |.room _ _ _ k,ρ,gk,h=>⟨h.1,iU hR k ρ gk h.2⟩
 |.branch _ t f,ρ,gk,h=>⟨fun hb=>iU hR t ρ gk (h.1 hb),fun hb=>iU hR f ρ gk (h.2 hb)⟩
 |.loop _ _ _ body,ρ,gk,h=>by
  obtain⟨I,m,h1,h2⟩:=h
  exact⟨I,m,h1,fun xs hx hI=>iU hR body _ _ (h2 xs hx hI)⟩
 |.again _ _,_,_,h=>h
 |.ret _,_,_,h=>hR _ h
 |.any _ _ k,ρ,gk,h=>fun d hd=>iU hR k _ gk (h d hd)
 |.hav _ _ k,ρ,gk,h=>fun d hd=>iU hR k _ gk (h d hd)
 |.range _ _ _ _ _ _ body done,ρ,gk,h=>by
  obtain⟨h0,I,h1,h2,h3⟩:=h
  exact⟨h0,I,h1,fun i x xs a b c d=>iU hR body _ _ (h2 i x xs a b c d),fun xs a b=>iU hR done _ _ (h3 xs a b)⟩
 |.stuck _,_,_,h=>h.elim
theorem VC.AG(L:VC→(Nat→D)→Prop): ∀(v:VC) (ρ:Nat→D),v.quiet triv=true→v.RX Φ Pre triv L ρ
 |.lM ..,_,h=>by cases h
 |.call _ f _ _ k,ρ,h=>by
  simp only[VC.quiet,bc]at h
  exact⟨by rw[if_pos h.1];trivial,by rw[if_pos h.2];trivial⟩
 |.room ..,_,h=>by cases h
 |.branch _ t f,ρ,h=>by
  simp only[VC.quiet,bc]at h
  exact⟨by rw[if_pos h.1];trivial,by rw[if_pos h.2];trivial⟩
 |.loop ..,_,h=>by cases h
 |.again ..,_,_=>trivial
 |.ret _,_,_=>trivial
 |.any ..,_,h=>by cases h
 |.hav ..,_,h=>by cases h
 |.range ..,_,h=>by cases h
 |.stuck _,_,h=>by cases h
theorem VC.DY{L:VC→(Nat→D)→Prop}{v:VC}{ρ:Nat→D}(h:v.BU Φ Pre triv L ρ):v.RX Φ Pre triv L ρ:=by
 unfold VC.BU at h
 split at h
 ·rename_i hq;exact VC.AG L v ρ hq
 ·exact h
theorem VC.Mw{L:VC→(Nat→D)→Prop}{v:VC}{ρ:Nat→D}(h:if v.quiet triv then True else v.RX Φ Pre triv L ρ):v.RX Φ Pre triv L ρ:=VC.DY h
theorem VC.holds_of{A B:Type}{decL:List D→A}{encL:A→List D}{dec:D→B}{enc:B→D}{lp:Nat→(Nat→D)→List D→B}{bad:A⊕B}{R:D→Prop}{J:List D→Prop}{b:Bool}{gk:List (List D→Prop)}
  (tO: ∀f a,triv f=true→Pre f a) (xE:b=true→gk.head? =some J)
  (L:VC→(Nat→D)→Prop) (hL: ∀v0 es rE body ρ,L (.loop v0 es rE body) ρ→R (enc (lp v0 ρ (es.map (den ρ))))→(VC.loop v0 es rE body).holds Φ Pre R ρ gk):
  ∀(v:VC) (ρ:Nat→D),v.flat b=true→v.RX Φ Pre triv L ρ→(v.sj Φ ρ).map (fun d=>enc (dec d))=v.sj Φ ρ→(v.mq Φ ρ).map (fun l=>encL (decL l))=v.mq Φ ρ→
   (match v.Ls Φ (fun d=>.inr (dec d)) (fun _ l=>.inl (decL l)) (fun v0 ρ l=>.inr (lp v0 ρ l)) bad ρ with| .inl a=>J (encL a)| .inr y=>R (enc y))→v.holds Φ Pre R ρ gk
 |.lM pc e k,ρ,hf,ho,hr,ha,hv=>⟨ho.1,holds_of tO xE L hL k ρ hf (VC.Mw ho.2) hr ha hv⟩
 |.call p f a pc k,ρ,hf,ho,hr,ha,hv=>by
  refine⟨fun hc=> ?_,fun d hd=> ?_⟩
  ·have h1:=ho.1
   split at h1
   ·exact tO f _ (by assumption)
   ·exact h1 hc
  ·subst hd
   exact holds_of tO xE L hL k _ hf (VC.Mw ho.2) hr ha hv
 |.room pc e n k,ρ,hf,ho,hr,ha,hv=>⟨ho.1,holds_of tO xE L hL k ρ hf (VC.Mw ho.2) hr ha hv⟩
 |.branch e t f,ρ,hf,ho,hr,ha,hv=>by
  simp only[VC.flat,bc]at hf
  simp only[VC.sj,cz]at hr
  simp only[VC.mq,cz]at ha
  have E0:=List.append_inj hr (by simp)
  have ha':=List.append_inj ha (by simp)
  refine⟨fun hb=> ?_,fun hb=> ?_⟩
  ·refine holds_of (bad:=bad) tO xE L hL t ρ hf.1 ?_ E0.1 ha'.1 ?_
   ·have:=ho.1
    split at this
    ·exact VC.AG L t ρ (by assumption)
    ·exact this hb
   ·simp only[VC.Ls]at hv;rw[if_pos hb]at hv;exact hv
  ·refine holds_of (bad:=bad) tO xE L hL f ρ hf.2 ?_ E0.2 ha'.2 ?_
   ·have:=ho.2
    split at this
    ·exact VC.AG L f ρ (by assumption)
    ·exact this hb
   ·simp only[VC.Ls]at hv;rw[if_neg (by rw[hb];simp)]at hv;exact hv
 |.loop v0 es rE body,ρ,_,ho,_,_,hv=>hL v0 es rE body ρ ho hv
 |.again i es,ρ,hf,_,_,ha,hv=>by
  simp only[VC.flat,bc,beq_iff_eq]at hf
  obtain⟨hb,rfl⟩:=hf
  have h1:=xE hb
  simp only[VC.mq,cZ,List.map_nil,eJ,and_true]at ha
  cases gk with
  |nil=>cases h1
  |cons J' r=>
   simp only[List.head?_cons,ae]at h1
   subst h1
   show J' (es.map (den ρ))
   rw[←ha];exact hv
 |.ret e,ρ,_,_,hr,_,hv=>by
  simp only[VC.sj,cZ,List.map_nil,eJ,and_true]at hr
  show R (den ρ e)
  rw[←hr];exact hv
 |.any ..,_,_,ho,_,_,_=>ho.elim
 |.hav ..,_,_,ho,_,_,_=>ho.elim
 |.range ..,_,_,ho,_,_,_=>ho.elim
 |.stuck _,_,_,ho,_,_,_=>ho.elim
theorem VC.Nw{L:VC→(Nat→D)→Prop}{v:VC}{ρ:Nat→D}(h:v.quiet triv=true):v.BU Φ Pre triv L ρ:=by unfold VC.BU;rw[if_pos h];trivial
def VC.Jk(Φ:Nat→List D→D)(Pre:Nat→List D→Prop){B:Type}(enc:B→D)(lp:Nat→(Nat→D)→List D→B)(gk:List (List D→Prop))(v:VC)(ρ:Nat→D):Prop:=
 match v with
 |.loop v0 es rE body=>(VC.loop v0 es rE body).holds Φ Pre (fun d=>d=enc (lp v0 ρ (es.map (den ρ)))) ρ gk
 |_=>True
def VC.aeI(Φ:Nat→List D→D)(Pre:Nat→List D→Prop){B:Type}(enc:B→D)(lp:Nat→(Nat→D)→List D→B)(gk:List (List D→Prop))(v:VC)(ρ:Nat→D):Prop:= ∀J:List D→Prop,VC.Jk Φ Pre enc lp (J::gk) v ρ
theorem VC.KG{B:Type}{dec:D→B}{enc:B→D}{lp:Nat→(Nat→D)→List D→B}{bad:B}{y:B}{v:VC}{ρ:Nat→D}{gk:List (List D→Prop)}
  (tO: ∀f a,triv f=true→Pre f a) (hf:v.flat false=true) (ho:v.BU Φ Pre triv (VC.Jk Φ Pre enc lp gk) ρ)
  (hr:(v.sj Φ ρ).map (fun d=>enc (dec d))=v.sj Φ ρ) (hv:v.Ls Φ dec (fun _ _=>bad) lp bad ρ=y):v.holds Φ Pre (fun d=>d=enc y) ρ gk:=by
 have CI: ∀(v:VC) (ρ:Nat→D),v.flat false=true→v.mq Φ ρ=[] :=by
  intro v
  induction v with
  |lM _ _ k ih=>intro ρ h;exact ih ρ h
  |call _ _ _ _ k ih=>intro ρ h;exact ih _ h
  |room _ _ _ k ih=>intro ρ h;exact ih ρ h
  |branch _ t f ih1 Xw=>
   intro ρ h
   simp only[VC.flat,bc]at h
   simp only[VC.mq,ih1 ρ h.1,Xw ρ h.2,cQ]
  |again i es=>intro ρ h;simp[VC.flat]at h
  |_=>intro ρ _;rfl
 have hev: ∀(v:VC) (ρ:Nat→D),v.flat false=true→v.Ls Φ (fun d=>(.inr (dec d):Unit⊕B)) (fun _ l=>.inl ((fun _=>()) l)) (fun v0 ρ l=>.inr (lp v0 ρ l)) (.inr bad) ρ= .inr (v.Ls Φ dec (fun _ _=>bad) lp bad ρ):=by
  intro v
  induction v with
  |lM _ _ k ih=>intro ρ h;exact ih ρ h
  |call _ _ _ _ k ih=>intro ρ h;exact ih _ h
  |room _ _ _ k ih=>intro ρ h;exact ih ρ h
  |branch e t f ih1 Xw=>
   intro ρ h
   simp only[VC.flat,bc]at h
   simp only[VC.Ls,ih1 ρ h.1,Xw ρ h.2]
   split<;>rfl
  |again i es=>intro ρ h;simp[VC.flat]at h
  |_=>intro ρ _;rfl
 subst hv
 refine VC.holds_of (A:=Unit) (decL:=fun _=>()) (encL:=fun _=> []) (dec:=dec) (enc:=enc) (lp:=lp) (bad:=.inr bad) (J:=fun _=>False) (b:=false) tO (fun h=>by cases h) _ ?_ v ρ hf (VC.DY ho) hr (by rw[CI v ρ hf];rfl) ?_
 ·intro v0 es rE body gN hL hm
  refine VC.iU (fun d hd=> ?_) _ _ _ hL
  rw[hd];exact hm
 ·rw[hev v ρ hf]
theorem VC.NG{A B:Type}{decL:List D→A}{encL:A→List D}{dec:D→B}{enc:B→D}{lp:A→Nat→(Nat→D)→List D→B}{bad:A⊕B}{R:D→Prop}{gk:List (List D→Prop)}{v0:Nat}{es:List E}{rE:List Ty}{body:VC}{ρ:Nat→D}
  (step:A→A⊕B) (F:A→B) (inv:A→Prop) (m:A→Nat) (a0:A) (tO: ∀f a,triv f=true→Pre f a)
  (h0:es.map (den ρ)=encL a0) (hi:inv a0) (Jf: ∀a,decL (encL a)=a)
  (hF: ∀a,inv a→(match step a with| .inl a'=>F a=F a'∧inv a'∧m a'<m a| .inr y=>F a=y))
  (wM:body.flat true=true) (hev: ∀a,inv a→body.Ls Φ (fun d=>.inr (dec d)) (fun _ l=>.inl (decL l)) (fun v0 ρ l=>.inr (lp a v0 ρ l)) bad (gJ ρ v0 (encL a))=step a)
  (hr: ∀a,(body.sj Φ (gJ ρ v0 (encL a))).map (fun d=>enc (dec d))=body.sj Φ (gJ ρ v0 (encL a))) (ha: ∀a,(body.mq Φ (gJ ρ v0 (encL a))).map (fun l=>encL (decL l))=body.mq Φ (gJ ρ v0 (encL a)))
  (fX: ∀a,inv a→dK (.dJ rE) (encL a)→body.BU Φ Pre triv (VC.aeI Φ Pre enc (lp a) gk) (gJ ρ v0 (encL a)))
  (hR:R (enc (F a0))):(VC.loop v0 es rE body).holds Φ Pre R ρ gk:=by
 refine⟨fun xs=> ∃a,inv a∧xs=encL a∧F a=F a0,fun xs=>m (decL xs),⟨a0,hi,h0,rfl⟩,fun xs hx hI=> ?_⟩
 obtain⟨a,Xi,rfl,hFa⟩:=hI
 refine VC.holds_of (decL:=decL) (encL:=encL) (dec:=dec) (enc:=enc) (lp:=lp a) (bad:=bad) (J:=fun ys=>(∃a,inv a∧ys=encL a∧F a=F a0)∧m (decL ys)<m (decL (encL a))) (b:=true) tO (fun _=>rfl) _ ?_ body _ wM (VC.DY (fX a Xi hx)) (hr a) (ha a) ?_
 ·intro v1 es1 aBx ayG Lm hL hm
  refine VC.iU (fun d hd=> ?_) _ _ _ (hL _)
  rw[hd];exact hm
 ·rw[hev a Xi]
  have h1:=hF a Xi
  revert h1
  cases step a with
  |inl a'=>
   intro h1
   exact⟨⟨a',h1.2.1,rfl,h1.1.symm.trans hFa⟩,by rw[Jf,Jf];exact h1.2.2⟩
  |inr y=>
   intro h1
   simp only at h1⊢
   rw[←h1,hFa];exact hR
end
def ik{A B:Type}(step:A→A⊕B)(bad:B):Nat→A→B
 |0,_=>bad
 |n+1,a=>match step a with
  |.inl a'=>ik step bad n a'
  |.inr b=>b
theorem GA{A B:Type}{step:A→A⊕B}{bad:B}{inv:A→Prop}{m:A→Nat}(h: ∀a,inv a→(match step a with| .inl a'=>inv a'∧m a'<m a| .inr _=>True)):
  ∀(k:Nat) (a:A),inv a→m a≤k→ ∀n n',m a<n→m a<n'→ik step bad n a=ik step bad n' a
 |k,a,hi,hk,0,n',h1,h2=>by omega
 |k,a,hi,hk,n+1,0,h1,h2=>by omega
 |0,a,hi,hk,n+1,n'+1,h1,h2=>by
  have h3:=h a hi
  simp only[ik]
  revert h3
  cases step a with
  |inl a'=>intro h3;simp only at h3;omega
  |inr b=>intro _;rfl
 |k+1,a,hi,hk,n+1,n'+1,h1,h2=>by
  have h3:=h a hi
  simp only[ik]
  revert h3
  cases step a with
  |inl a'=>intro h3;simp only at h3;exact GA h k a' h3.1 (by omega) n n' (by omega) (by omega)
  |inr b=>intro _;rfl
theorem NF{A B:Type}{step:A→A⊕B}{bad:B}{inv:A→Prop}{m:A→Nat}(h: ∀a,inv a→(match step a with| .inl a'=>inv a'∧m a'<m a| .inr _=>True))(a:A)(hi:inv a):
  (match step a with| .inl a'=>ik step bad (m a+1) a=ik step bad (m a'+1) a'∧inv a'∧m a'<m a| .inr y=>ik step bad (m a+1) a=y):=by
 have h3:=h a hi
 have e:ik step bad (m a+1) a=(match step a with| .inl a'=>ik step bad (m a) a'| .inr b=>b):=rfl
 rw[e]
 revert h3
 cases step a with
 |inl a'=>intro h3;simp only at h3⊢;exact⟨GA h (m a') a' h3.1 (bn _) _ _ h3.2 (fb _),h3.1,h3.2⟩
 |inr y=>intro _;rfl
theorem mC{A B:Type}{step:A→A⊕B}{bad:B}(I:A→Prop)(Q:B→Prop)(m:A→Nat)(h: ∀a,I a→(match step a with| .inl a'=>I a'∧m a'<m a| .inr b=>Q b)): ∀(n:Nat) (a:A),I a→m a<n→Q (ik step bad n a)
 |0,a,_,hn=>by omega
 |n+1,a,hi,hn=>by
  have h3:=h a hi
  simp only[ik]
  revert h3
  cases step a with
  |inl a'=>intro h3;simp only at h3;exact mC I Q m h n a' h3.1 (by omega)
  |inr b=>intro h3;exact h3
def VC.lat(v0:Nat):VC→Option VC
 |.lM _ _ k| .room _ _ _ k| .call _ _ _ _ k| .any _ _ k| .hav _ _ k=>k.lat v0
 |.branch _ t f=>match t.lat v0 with|some v=>some v|none=>f.lat v0
 |.loop v1 es rE body=>if v1=v0 then some (.loop v1 es rE body) else body.lat v0
 |_=>none
def VC.lp(v0:Nat)(v:VC):VC:=(v.lat v0).getD (.stuck 0)
def VC.lEs:VC→List E
 |.loop _ es _ _=>es
 |_=> []
def VC.aeK:VC→List Ty
 |.loop _ _ rE _=>rE
 |_=> []
def VC.yG:VC→VC
 |.loop _ _ _ b=>b
 |_=>.stuck 0
section
variable{Φ:Nat→List D→D}{Pre:Nat→List D→Prop}{triv:Nat→Bool}
theorem VC.jc{A B:Type}{decL:List D→A}{encL:A→List D}{dec:D→B}{enc:B→D}{lp:A→Nat→(Nat→D)→List D→B}{bad:A⊕B}{bd:B}{R:D→Prop}{gk:List (List D→Prop)}{v:VC}{v0:Nat}{ρ:Nat→D}(hv:v= .loop v0 v.lEs v.aeK v.yG)
  (step:A→A⊕B) (inv:A→Prop) (m:A→Nat) (a0:A) (tO: ∀f a,triv f=true→Pre f a)
  (h0:v.lEs.map (den ρ)=encL a0) (hi:inv a0) (Jf: ∀a,decL (encL a)=a)
  (hs: ∀a,inv a→(match step a with| .inl a'=>inv a'∧m a'<m a| .inr _=>True))
  (wM:v.yG.flat true=true) (hev: ∀a,inv a→v.yG.Ls Φ (fun d=>.inr (dec d)) (fun _ l=>.inl (decL l)) (fun v0 ρ l=>.inr (lp a v0 ρ l)) bad (gJ ρ v0 (encL a))=step a)
  (hr: ∀a,(v.yG.sj Φ (gJ ρ v0 (encL a))).map (fun d=>enc (dec d))=v.yG.sj Φ (gJ ρ v0 (encL a))) (ha: ∀a,(v.yG.mq Φ (gJ ρ v0 (encL a))).map (fun l=>encL (decL l))=v.yG.mq Φ (gJ ρ v0 (encL a)))
  (fX: ∀a,inv a→dK (.dJ v.aeK) (encL a)→v.yG.BU Φ Pre triv (VC.aeI Φ Pre enc (lp a) gk) (gJ ρ v0 (encL a)))
  (hR:R (enc (ik step bd (m a0+1) a0))):v.holds Φ Pre R ρ gk:=by
 rw[hv]
 exact VC.NG step (fun a=>ik step bd (m a+1) a) inv m a0 tO h0 hi Jf (fun a Xi=>NF hs a Xi) wM hev hr ha fX hR
end
section
variable{Φ:Nat→List D→D}{Pre:Nat→List D→Prop}
theorem VC.kH{B:Type}{enc:B→D}{lp:Nat→(Nat→D)→List D→B}{gk:List (List D→Prop)}{v:VC}{ρ:Nat→D}(v0:Nat)(hv:v= .loop v0 v.lEs v.aeK v.yG)
  (h:v.holds Φ Pre (fun d=>d=enc (lp v0 ρ (v.lEs.map (den ρ)))) ρ gk):VC.Jk Φ Pre enc lp gk v ρ:=by
 rw[hv]at h⊢
 exact h
end
end Go.dV
namespace Go.Proofs.Ytjhmkaninmgilaa
open Go Go.RowKit Go.dV Go.Proofs
def at5:Ty:=.agg (.dJ [.int .i64,.int .i64])
def anB:List Ty:=[.int .i64,.int .i64,.int .i64,.list (.int .i64),.list VR,.bool]
def au0:List Ty:=[.int .i64,.int .i64,.int .i64,.int .i64,.list aws,.int .i64,.bool]
def an2:List Ty:=[.int .i64,.int .i64,.int .i64,.bool,.bool,.int .i64,.int .i64,.int .i64]
def HA:List Ty:=[.int .i64,.int .i64,.int .i64] ++au0++an2++[.list at5] ++anB++[.list (.int .i64),.list (.int .i64)]
def C8:Ty:=.agg (.dJ HA)
def eP:Ty:=.agg (.dJ ([.int .i64,.int .i64] ++HA))
def kb:List bD:=[(.int .i64,none),(.int .i64,none),(eP,some (0,78))]
def pj:Ty:=.agg (.dJ [.list (.int .i64),.list (.int .i64)])
def I6:Ty:=.int .i64
def SI:List Ty:=[I6,I6,I6,I6,I6,I6,I6,.bool,I6,I6,I6,I6,.list eP,.list I6,.list I6,.list (.int .u8)] ++HA++[I6,I6,.list VR]
def mj:Ty:=.agg (.dJ SI)
def aoG:List Ty:=[I6,I6]
def yB:List Ty:=[I6,I6,.list I6,.list I6,.list (.int .u8)]
def aaC:Ty:=.agg (.dJ yB)
def ml:Ty:=.agg (.dJ (aoG++yB++[.list eP]))
def Ak:Ty:=.agg (.dJ [I6,I6])
def ams:Ty:=.agg (.dJ [I6,I6,I6,.list I6])
def pl(l:List Ty):List bD:=l.map fun t=>(t,none)
def nD:List bD:=pl [.bool,I6,I6] ++[(eP,some (1,78)),(.ptr (.dJ yB),none),(mj,some (2,49)),(eP,some (3,78)),(Ak,some (4,153))] ++
 pl [I6,.list I6,.list I6,I6,I6] ++[(.box .nil,none)] ++pl yB++pl [I6,I6,I6,I6,I6] ++[(I6,some (5,3))] ++pl (List.replicate 18 I6)++pl [I6,.list ams] ++pl [I6,I6,I6,I6,I6] ++[(.int .u8,some (6,5))]
def L3:Ty:=.box (.dJ [I6,I6,.list eP])
def wZ:Ty:=.box (.dJ (nD.map fun r=>if r=NY then L3 else JC r))
def fq:List Ty:=nD.map JC++kb.map JC
def B5:List (Nat×List (Nat×TypeId)):=[(0,[(3,78),(5,49),(6,78),(7,153),(24,3),(50,5),(1002,78)])]
def ew(k:Nat):Ob:=⟨true::List.replicate k false,[nD,kb],[nD,kb],false⟩
def s79:dQ:=⟨[.list (.int .i64),.int .i64],[(false,[(.int .i64,none)])],none⟩
def ajW:List (Nat×dQ):=(79,s79):: []
def s56:dQ:=⟨[.list (.int .i64),.int .i64],[(false,[(.bool,none)])],none⟩
def aj9:List (Nat×dQ):=(56,s56)::ajW
def s61:dQ:=⟨[.list (.int .i64)],[(false,[(.int .i64,some (1,3))])],none⟩
def aj5:List (Nat×dQ):=(61,s61)::aj9
def s82:dQ:=⟨[.list (.int .i64)],[],some ⟨[],[],[[],[]],false⟩⟩
def ajV:List (Nat×dQ):=(82,s82)::aj5
def s83:dQ:=⟨[.list (.int .i64)],[(false,[(.list (.int .i64),none)])],some ⟨[],[],[[],[]],false⟩⟩
def ajU:List (Nat×dQ):=(83,s83)::ajV
def s55:dQ:=⟨[.list (.int .i64)],[(false,[(.bool,none)])],none⟩
def aka:List (Nat×dQ):=(55,s55)::ajU
def s21:dQ:=⟨[pj],[(false,[(.bool,none)])],none⟩
def akr:List (Nat×dQ):=(21,s21)::aka
def s36:dQ:=⟨[pj,.int .i64],[(false,[(.bool,none)])],none⟩
def aki:List (Nat×dQ):=(36,s36)::akr
def s63:dQ:=⟨[pj],[(false,[(.list (.int .i64),none)])],none⟩
def aj4:List (Nat×dQ):=(63,s63)::aki
def s66:dQ:=⟨[pj,.list (.int .i64)],[(false,[(.bool,none)])],none⟩
def aj3:List (Nat×dQ):=(66,s66)::aj4
def s72:dQ:=⟨[pj,.list (.int .i64)],[(false,[(.int .i64,none)])],none⟩
def ajZ:List (Nat×dQ):=(72,s72)::aj3
def im:dQ:=⟨[pj,pj],[(false,[(.bool,none)])],none⟩
def aj1:List (Nat×dQ):=(70,im)::ajZ
def s20:dQ:=⟨[.int .i64,.int .i64,.int .i64],[(false,[(.bool,none)])],none⟩
def aks:List (Nat×dQ):=(20,s20)::aj1
def s52:dQ:=⟨[.list (.int .u8)],[(false,[(.int .u8,some (1,5))])],none⟩
def akc:List (Nat×dQ):=(52,s52)::aks
def s60:dQ:=⟨[eP],[(false,[(.bool,none)])],none⟩
def aj6:List (Nat×dQ):=(60,s60)::akc
def Tw:dQ:=⟨[.list eP,.fn 60 .nil],[(false,[(.int .i64,none)])],none⟩
def UW:List (Nat×dQ):=(80,Tw)::aj6
def Tx:dQ:=⟨[.list eP,.fn 60 .nil],[(false,[(.bool,none)])],none⟩
def UX:List (Nat×dQ):=(59,Tx)::UW
def s24:dQ:=⟨[.list eP],[(false,[(.bool,none)])],none⟩
def akp:List (Nat×dQ):=(24,s24)::UX
def s26:dQ:=⟨[pj],[(true,[(I6,some (11,3)),(I6,some (12,3))])],none⟩
def akn:List (Nat×dQ):=(26,s26)::akp
def s28:dQ:=⟨[L3],[(false,[(.int .i64,none)]),(false,[(.int .i64,none)])],none⟩
def akm:List (Nat×dQ):=(28,s28)::akn
def s25:dQ:=⟨[L3],[(false,[(.int .i64,none)]),(false,[(.int .i64,none)])],none⟩
def ako:List (Nat×dQ):=(25,s25)::akm
def s50:dQ:=⟨[L3,I6],[(false,[(.int .i64,none)]),(false,[(.int .i64,none)])],none⟩
def ake:List (Nat×dQ):=(50,s50)::ako
def tB:dQ:=⟨[L3,I6,I6],[(false,[(.bool,none)])],none⟩
def ajY:List (Nat×dQ):=(74,tB)::ake
def s65:dQ:=⟨[L3,I6,I6],[(false,[(eP,some (9,78))])],none⟩
def adT:List (Nat×dQ):=(65,s65)::ajY
def s49:dQ:=⟨[wZ,I6],[(true,[(I6,some (11,3)),(I6,some (12,3))])],none⟩
def akf:List (Nat×dQ):=(49,s49)::adT
def s29:dQ:=⟨[wZ],[(true,[(I6,some (11,3)),(I6,some (12,3))])],none⟩
def ad6:List (Nat×dQ):=(29,s29)::akf
def s32:dQ:=⟨[wZ,pj],[(false,[(I6,some (10,3))])],none⟩
def akl:List (Nat×dQ):=(32,s32)::ad6
def s76:dQ:=⟨[wZ,I6],[(false,[(.bool,none)])],none⟩
def adP:List (Nat×dQ):=(76,s76)::akl
def s69:dQ:=⟨[wZ],[(false,[(.bool,none)])],none⟩
def aj2:List (Nat×dQ):=(69,s69)::adP
def AR:dQ:=⟨[wZ],[(false,[(.bool,none)])],none⟩
def adR:List (Nat×dQ):=(68,AR)::aj2
def s38:dQ:=⟨[wZ,C8],[(false,[(.int .i64,none)])],none⟩
def atH:List (Nat×dQ):=(38,s38)::adR
def s12:dQ:=⟨[wZ],[(true,pl [I6,I6,I6,I6,I6,I6,I6] ++[(I6,some (11,3)),(I6,some (12,3))])],none⟩
def s57:dQ:=⟨[.int .i64,.int .i64,.int .i64],[(false,[(.bool,none)])],none⟩
def aaz:List (Nat×dQ):=[(12,s12),(38,s38),(68,AR),(69,s69),(76,s76),(32,s32),(29,s29),(49,s49),(65,s65),(74,tB),(50,s50),(25,s25),(28,s28),(26,s26),(24,s24),(59,Tx),(80,Tw),(60,s60),(52,s52),(20,s20),(70,im),(72,s72),(66,s66),(63,s63),(36,s36),(21,s21),(55,s55),(61,s61),(56,s56),(79,s79)]
def aj8:List (Nat×dQ):=(57,s57)::aaz
def dw:dQ:=⟨[.int .i64,.int .i64,.list (eP)],[(false,[(.bool,none)])],none⟩
def aj7:List (Nat×dQ):=(58,dw)::aj8
def s23:dQ:=⟨[.int .i64,.int .i64,.list eP,.int .i64,.int .i64,.list eP],[(false,[(.int .i64,none)]),(false,[(.bool,none)])],some ⟨[true,false,false,false],[kb],[kb],false⟩⟩
def akq:List (Nat×dQ):=(23,s23)::aj7
def s71:dQ:=⟨[.int .i64,C8,.int .i64,.int .i64,.list eP],[(true,eP.cells.map fun c=>(c,none)),(false,[(.int .i64,none)])],some ⟨[true,false,false],[kb],[kb],false⟩⟩
def aj0:List (Nat×dQ):=(71,s71)::akq
def s51:dQ:=⟨[.int .i64,.int .i64,.int .i64,.list eP],[(false,[(.int .i64,none)])],some ⟨[true,false],[kb],[kb],false⟩⟩
def akd:List (Nat×dQ):=(51,s51)::aj0
def snw:dQ:=⟨[.int .i64,.int .i64],[],some ⟨[false,false],[],[kb],true⟩⟩
def snl:dQ:=⟨[I6,I6],[(false,[(.ptr (.dJ [I6,I6,.list eP]),none)])],none⟩
def aku:dQ:=⟨[.int .i64,.int .i64,.int .i64,.int .i64,.list eP],[(false,[(.list eP,none)])],some ⟨[true,false,false],[kb],[kb],false⟩⟩
def aay:List (Nat×dQ):=(65,aku)::akd
def s53:dQ:=⟨[] ++fq,[],some (ew 0)⟩
def akb:List (Nat×dQ):=(53,s53)::aay
def s35:dQ:=⟨[] ++fq,[],some (ew 0)⟩
def akj:List (Nat×dQ):=(35,s35)::akb
def s64:dQ:=⟨[mj] ++fq,[],some (ew 1)⟩
def adU:List (Nat×dQ):=(64,s64)::akj
def s41:dQ:=⟨[I6,I6] ++fq,[],some (ew 2)⟩
def akh:List (Nat×dQ):=(41,s41)::adU
def s34:dQ:=⟨[] ++fq,[(true,pl [.bool,I6,I6,.list eP,.ptr (.dJ yB),.list mj,.list eP,.list Ak])],some (ew 0)⟩
def ad5:List (Nat×dQ):=(34,s34)::akh
def s39:dQ:=⟨[C8] ++fq,[(true,pl eP.cells),(false,[(.int .i64,none)])],some (ew 1)⟩
def ad3:List (Nat×dQ):=(39,s39)::ad5
def s33:dQ:=⟨[I6] ++fq,[],some (ew 1)⟩
def akk:List (Nat×dQ):=(33,s33)::ad3
def I9:dQ:=⟨[eP],[(false,[(.bool,none)])],none⟩
def ajT:List (Nat×dQ):=(84,I9)::akk
def aaE:dQ:=⟨[.list eP,.fn 84 .nil],[(false,[(.int .i64,none)])],none⟩
def UU:List (Nat×dQ):=(80,aaE)::ajT
def aaF:dQ:=⟨[.list eP,.fn 84 .nil],[(false,[(.bool,none)])],none⟩
def Mn:List (Nat×dQ):=(59,aaF)::UU
def s73:dQ:=⟨[I6] ++fq,[(false,[(.bool,none)])],some (ew 1)⟩
def adQ:List (Nat×dQ):=(73,s73)::Mn
def s40:dQ:=⟨[] ++fq,[],some (ew 0)⟩
def ad2:List (Nat×dQ):=(40,s40)::adQ
def np:dQ:=⟨[] ++fq,[],some (ew 0)⟩
def adS:List (Nat×dQ):=(67,np)::ad2
def s37:dQ:=⟨[pj] ++fq,[],some (ew 1)⟩
def ad4:List (Nat×dQ):=(37,s37)::adS
def s42:dQ:=⟨[mj] ++fq,[],some (ew 1)⟩
def ad0:List (Nat×dQ):=(42,s42)::ad4
def s43:dQ:=⟨[mj] ++fq,[],some (ew 1)⟩
def adZ:List (Nat×dQ):=(43,s43)::ad0
def s44:dQ:=⟨[mj] ++fq,[],some (ew 1)⟩
def adY:List (Nat×dQ):=(44,s44)::adZ
def ZZ:dQ:=⟨[mj] ++fq,[(false,[(.bool,none)])],some (ew 1)⟩
def ajX:List (Nat×dQ):=(75,ZZ)::adY
def akv:dQ:=⟨[.int .i64,.int .i64,.int .i64,.int .i64,.list eP],[(false,[(eP,some (1,78))])],some ⟨[true,false,false],[kb],[kb],false⟩⟩
def Tv:List (Nat×dQ):=(65,akv)::ajX
def s45:dQ:=⟨[mj] ++fq,[],some (ew 1)⟩
def adX:List (Nat×dQ):=(45,s45)::Tv
def pS:dQ:=⟨[mj] ++fq,[],some (ew 1)⟩
def adO:List (Nat×dQ):=(77,pS)::adX
def s78:dQ:=⟨[I6,I6] ++fq,[],some (ew 2)⟩
def adN:List (Nat×dQ):=(78,s78)::adO
def s46:dQ:=⟨[mj] ++fq,[],some (ew 1)⟩
def adW:List (Nat×dQ):=(46,s46)::adN
def s48:dQ:=⟨[mj] ++fq,[],some (ew 1)⟩
def akg:List (Nat×dQ):=(48,s48)::adW
def s27:dQ:=⟨[aaC],[(true,pl [I6,I6] ++[(I6,some (11,3)),(I6,some (12,3)),(.int .u8,some (13,5))])],none⟩
def ad7:List (Nat×dQ):=(27,s27)::akg
def s47:dQ:=⟨[mj] ++fq,[],some {ew 1 with fresh:=true}⟩
def atN:dQ:=⟨[.int .i64,.int .i64],[],some ⟨[false,false],[],[kb],true⟩⟩
def OO:List (Nat×DO):=[(22,⟨[],I6,0,I6,0,some (atN,.ptr (.dJ [I6,I6,.list eP]))⟩)]
def adV:List (Nat×dQ):=(47,s47)::ad7
def s17:dQ:=⟨[mj] ++fq,[(true,pl [.bool,I6,I6,.list eP,.ptr (.dJ yB),.list mj,.list eP,.list Ak])],some {ew 1 with fresh:=true}⟩
def ad8:List (Nat×dQ):=(17,s17)::adV
def s15:dQ:=⟨[I6] ++fq,[(true,pl [.bool,I6,I6,.list eP,.ptr (.dJ yB),.list mj,.list eP,.list Ak])],some (ew 1)⟩
def akt:List (Nat×dQ):=(15,s15)::ad8
def s16:dQ:=⟨[C8] ++fq,[(true,pl eP.cells),(false,[(.int .i64,none)]),(true,pl [.bool,I6,I6,.list eP,.ptr (.dJ yB),.list mj,.list eP,.list Ak])],some (ew 1)⟩
def s81:dQ:=⟨[.list (.int .i64),.list (.int .i64)],[(false,[(.bool,none)])],none⟩
def s62:dQ:=⟨[pj,pj],[(false,[(.bool,none)])],none⟩
def s31:dQ:=⟨[C8,C8],[(false,[(.bool,none)])],none⟩
def s8:dQ:=⟨[.int .i64,.int .i64],[(false,[(.int .i64,none)])],none⟩
noncomputable section
def ajf:VC:=
 .loop 6 [.aT .i64 (0),.aT .i64 (0)] [.int .i64,.int .i64] (
  .branch (.bin (.lt) (.var 7) (.un (.len) (.var 0))) (
   .lM [] (.bin (.and) (.bin (.le) (.aT .i64 (0)) (.var 7)) (.bin (.lt) (.var 7) (.un (.len) (.var 0))))<|
   .branch (.bin (.eq) (.var 1) (.bin (.idx) (.var 0) (.var 7))) (
    .ret (.var 7))
    (
    .again 0 [.var 6,.bin (.add .i64) (.var 7) (.aT .i64 (1))]))
   (
   .ret (.aT .i64 (-1))))
def ajt:VC:=
 .call 5 79 (.cons (.var 0) (.cons (.var 1) (.nil))) [] <|
 .ret (.bin (.ge) (.var 5) (.aT .i64 (0)))
def aju:VC:=
 .loop 5 [.ff false,.aT .i64 (0)] [.bool,.int .i64] (
  .branch (.bin (.lt) (.var 6) (.un (.len) (.var 0))) (
   .lM [] (.bin (.and) (.bin (.le) (.aT .i64 (0)) (.var 6)) (.bin (.lt) (.var 6) (.un (.len) (.var 0))))<|
   .lM [(.bin (.lt) (.bin (.idx) (.var 0) (.var 6)) (.aT .i64 (1)),false)] (.bin (.and) (.bin (.le) (.aT .i64 (0)) (.var 6)) (.bin (.lt) (.var 6) (.un (.len) (.var 0))))<|
   .lM [(.bin (.gt) (.var 6) (.aT .i64 (0)),true),(.bin (.or) (.bin (.lt) (.bin (.idx) (.var 0) (.var 6)) (.aT .i64 (1))) (.bin (.gt) (.bin (.idx) (.var 0) (.var 6)) (.aT .i64 (5))),false)] (.bin (.and) (.bin (.le) (.aT .i64 (0)) (.bin (.sub .i64) (.var 6) (.aT .i64 (1)))) (.bin (.lt) (.bin (.sub .i64) (.var 6) (.aT .i64 (1))) (.un (.len) (.var 0))))<|
   .lM [(.bin (.gt) (.var 6) (.aT .i64 (0)),true),(.bin (.or) (.bin (.lt) (.bin (.idx) (.var 0) (.var 6)) (.aT .i64 (1))) (.bin (.gt) (.bin (.idx) (.var 0) (.var 6)) (.aT .i64 (5))),false)] (.bin (.and) (.bin (.le) (.aT .i64 (0)) (.var 6)) (.bin (.lt) (.var 6) (.un (.len) (.var 0))))<|
   .branch (.bin (.or) (.bin (.or) (.bin (.lt) (.bin (.idx) (.var 0) (.var 6)) (.aT .i64 (1))) (.bin (.gt) (.bin (.idx) (.var 0) (.var 6)) (.aT .i64 (5)))) (.bin (.and) (.bin (.gt) (.var 6) (.aT .i64 (0))) (.bin (.ge) (.bin (.idx) (.var 0) (.bin (.sub .i64) (.var 6) (.aT .i64 (1)))) (.bin (.idx) (.var 0) (.var 6))))) (
    .ret (.ff false))
    (
    .again 0 [.var 5,.bin (.add .i64) (.var 6) (.aT .i64 (1))]))
   (
   .ret (.ff true)))
def ajP:VC:=
 .call 5 55 (.cons (.un (.cell 0) (.var 0)) (.nil)) [] <|
 .call 10 55 (.cons (.un (.cell 1) (.var 0)) (.nil)) [(.un (.not) (.var 5),false)] <|
 .branch (.bin (.or) (.bin (.or) (.un (.not) (.var 5)) (.un (.not) (.var 10))) (.bin (.eq) (.un (.len) (.un (.cell 0) (.var 0))) (.aT .i64 (0)))) (
  .ret (.ff false))
  (
  .loop 23 [.ff false,.aT .i64 (0)] [.bool,.int .i64] (
   .branch (.bin (.lt) (.var 24) (.un (.len) (.un (.cell 1) (.var 0)))) (
    .lM [] (.bin (.and) (.bin (.le) (.aT .i64 (0)) (.var 24)) (.bin (.lt) (.var 24) (.un (.len) (.un (.cell 1) (.var 0)))))<|
    .call 35 56 (.cons (.un (.cell 0) (.var 0)) (.cons (.bin (.idx) (.un (.cell 1) (.var 0)) (.var 24)) (.nil))) [] <|
    .branch (.var 35) (
     .ret (.ff false))
     (
     .again 0 [.var 23,.bin (.add .i64) (.var 24) (.aT .i64 (1))]))
    (
    .ret (.ff true))))
def ajI:VC:=
 .call 7 56 (.cons (.un (.cell 0) (.var 0)) (.cons (.var 1) (.nil))) [] <|
 .ret (.var 7)
def ajp:VC:=
 .call 5 61 (.cons (.un (.cell 0) (.var 0)) (.nil)) [] <|
 .room [] (.bin (.cat) (.var 5) (.un (.cell 1) (.var 0))) 8<|
 .call 11 82 (.cons (.bin (.cat) (.var 5) (.un (.cell 1) (.var 0))) (.nil)) [] <|
 .call 13 83 (.cons (.var 11) (.nil)) [] <|
 .ret (.var 13)
def ajn:VC:=
 .loop 9 [.aT .i64 (0),.aT .i64 (0)] [.int .i64,.int .i64] (
  .branch (.bin (.lt) (.var 10) (.un (.len) (.un (.cell 0) (.var 0)))) (
   .lM [] (.bin (.and) (.bin (.le) (.aT .i64 (0)) (.var 10)) (.bin (.lt) (.var 10) (.un (.len) (.un (.cell 0) (.var 0)))))<|
   .call 20 56 (.cons (.var 1) (.cons (.bin (.idx) (.un (.cell 0) (.var 0)) (.var 10)) (.nil))) [] <|
   .branch (.var 20) (
    .again 0 [.bin (.add .i64) (.var 9) (.aT .i64 (1)),.bin (.add .i64) (.var 10) (.aT .i64 (1))])
    (
    .again 0 [.var 9,.bin (.add .i64) (.var 10) (.aT .i64 (1))]))
   (
   .ret (.bin (.gt) (.bin (.mul .i64) (.aT .i64 (2)) (.var 9)) (.un (.len) (.un (.cell 0) (.var 0))))))
def ajk:VC:=
 .loop 9 [.nil,.aT .i64 (0)] [.list (.int .i64),.int .i64] (
  .branch (.bin (.lt) (.var 10) (.un (.len) (.un (.cell 0) (.var 0)))) (
   .lM [] (.bin (.and) (.bin (.le) (.aT .i64 (0)) (.var 10)) (.bin (.lt) (.var 10) (.un (.len) (.un (.cell 0) (.var 0)))))<|
   .branch (.bin (.and) (.bin (.ge) (.bin (.idx) (.un (.cell 0) (.var 0)) (.var 10)) (.aT .i64 (1))) (.bin (.le) (.bin (.idx) (.un (.cell 0) (.var 0)) (.var 10)) (.un (.len) (.var 1)))) (
    .lM [] (.bin (.and) (.bin (.le) (.aT .i64 (0)) (.bin (.sub .i64) (.bin (.idx) (.un (.cell 0) (.var 0)) (.var 10)) (.aT .i64 (1)))) (.bin (.lt) (.bin (.sub .i64) (.bin (.idx) (.un (.cell 0) (.var 0)) (.var 10)) (.aT .i64 (1))) (.un (.len) (.var 1))))<|
    .room [] (.bin (.cat) (.var 9) (.cons (.bin (.max .i64) (.aT .i64 (0)) (.bin (.idx) (.var 1) (.bin (.sub .i64) (.bin (.idx) (.un (.cell 0) (.var 0)) (.var 10)) (.aT .i64 (1))))) (.nil))) 8<|
    .again 0 [.bin (.cat) (.var 9) (.cons (.bin (.max .i64) (.aT .i64 (0)) (.bin (.idx) (.var 1) (.bin (.sub .i64) (.bin (.idx) (.un (.cell 0) (.var 0)) (.var 10)) (.aT .i64 (1))))) (.nil)),.bin (.add .i64) (.var 10) (.aT .i64 (1))])
    (
    .room [] (.bin (.cat) (.var 9) (.cons (.aT .i64 (0)) (.nil))) 8<|
    .again 0 [.bin (.cat) (.var 9) (.cons (.aT .i64 (0)) (.nil)),.bin (.add .i64) (.var 10) (.aT .i64 (1))]))
   (
   .branch (.bin (.eq) (.un (.len) (.var 9)) (.aT .i64 (0))) (
    .ret (.aT .i64 (0)))
    (
    .call 16 82 (.cons (.var 9) (.nil)) [] <|
    .lM [] (.bin (.ne) (.aT .i64 (2)) (.aT .i64 (0)))<|
    .lM [] (.bin (.and) (.bin (.le) (.aT .i64 (0)) (.bin (.quo .i64) (.bin (.sub .i64) (.un (.len) (.var 16)) (.aT .i64 (1))) (.aT .i64 (2)))) (.bin (.lt) (.bin (.quo .i64) (.bin (.sub .i64) (.un (.len) (.var 16)) (.aT .i64 (1))) (.aT .i64 (2))) (.un (.len) (.var 16))))<|
    .ret (.bin (.idx) (.var 16) (.bin (.quo .i64) (.bin (.sub .i64) (.un (.len) (.var 16)) (.aT .i64 (1))) (.aT .i64 (2)))))))
def ajm:VC:=
 .call 6 21 (.cons (.un (.agg) (.cons (.un (.cell 0) (.var 0)) (.cons (.un (.cell 1) (.var 0)) (.nil)))) (.nil)) [] <|
 .call 10 21 (.cons (.un (.agg) (.cons (.un (.cell 0) (.var 1)) (.cons (.un (.cell 1) (.var 1)) (.nil)))) (.nil)) [(.un (.not) (.var 6),false)] <|
 .branch (.bin (.or) (.un (.not) (.var 6)) (.un (.not) (.var 10))) (
  .ret (.ff false))
  (
  .loop 15 [.aT .i64 (0),.aT .i64 (0)] [.int .i64,.int .i64] (
   .branch (.bin (.lt) (.var 16) (.aT .i64 (6))) (
    .call 22 36 (.cons (.un (.agg) (.cons (.un (.cell 0) (.var 0)) (.cons (.un (.cell 1) (.var 0)) (.nil)))) (.cons (.var 16) (.nil))) [] <|
    .call 25 36 (.cons (.un (.agg) (.cons (.un (.cell 0) (.var 1)) (.cons (.un (.cell 1) (.var 1)) (.nil)))) (.cons (.var 16) (.nil))) [] <|
    .branch (.un (.not) (.bin (.beq) (.var 22) (.var 25))) (
     .again 0 [.bin (.add .i64) (.var 15) (.aT .i64 (1)),.bin (.add .i64) (.var 16) (.aT .i64 (1))])
     (
     .again 0 [.var 15,.bin (.add .i64) (.var 16) (.aT .i64 (1))]))
    (
    .ret (.bin (.le) (.var 15) (.aT .i64 (1))))))
def ajQ:VC:=
 .ret (.bin (.and) (.bin (.ge) (.var 0) (.var 1)) (.bin (.le) (.var 0) (.var 2)))
def ajv:VC:=
 .branch (.bin (.eq) (.un (.len) (.var 0)) (.aT .i64 (0))) (
  .any 3 (.bool)<|
  .branch (.var 3) (
   .ret (.nil))
   (
   .room [] (.bin (.cat) (.nil) (.var 0)) 1<|
   .ret (.bin (.cat) (.nil) (.var 0))))
  (
  .any 3 (.bool)<|
  .room [] (.bin (.cat) (.nil) (.var 0)) 1<|
  .ret (.bin (.cat) (.nil) (.var 0)))
def atw:VC:=
 .call 11 21 (.cons (.un (.agg) (.cons (.un (.cell 27) (.var 0)) (.cons (.un (.cell 28) (.var 0)) (.nil)))) (.nil)) [(.bin (.eq) (.un (.cell 2) (.var 0)) (.aT .i64 (2)),true)] <|
 .ret (.bin (.and) (.bin (.eq) (.un (.cell 2) (.var 0)) (.aT .i64 (2))) (.un (.not) (.var 11)))
def UP:VC:=
 .loop 6 [.aT .i64 (0),.aT .i64 (0)] [.int .i64,.int .i64] (
  .branch (.bin (.lt) (.var 7) (.un (.len) (.var 0))) (
   .lM [] (.bin (.and) (.bin (.le) (.aT .i64 (0)) (.var 7)) (.bin (.lt) (.var 7) (.un (.len) (.var 0))))<|
   .call 16 60 (.cons (.bin (.idx) (.var 0) (.var 7)) (.nil)) [] <|
   .branch (.var 16) (
    .ret (.var 7))
    (
    .again 0 [.var 6,.bin (.add .i64) (.var 7) (.aT .i64 (1))]))
   (
   .ret (.aT .i64 (-1))))
def UR:VC:=
 .call 5 80 (.cons (.var 0) (.cons (.var 1) (.nil))) [] <|
 .ret (.bin (.ge) (.var 5) (.aT .i64 (0)))
def ajN:VC:=
 .call 3 59 (.cons (.var 0) (.cons (.un (.fnc 60) (.nil)) (.nil))) [] <|
 .ret (.un (.not) (.var 3))
def ajL:VC:=
 .call 5 61 (.cons (.un (.cell 0) (.var 0)) (.nil)) [] <|
 .call 8 61 (.cons (.un (.cell 1) (.var 0)) (.nil)) [] <|
 .ret (.un (.agg) (.cons (.var 5) (.cons (.var 8) (.nil))))
def ajK:VC:=
 .ret (.un (.fx) (.cons (.un (.cell 0) (.un (.agg) (.var 0))) (.cons (.un (.cell 1) (.un (.agg) (.var 0))) (.nil))))
def ajM:VC:=
 .branch (.bin (.eq) (.un (.len) (.un (.cell 2) (.un (.agg) (.var 0)))) (.aT .i64 (0))) (
  .call 10 28 (.cons (.var 0) (.nil)) [] <|
  .ret (.un (.fx) (.cons (.un (.cell 0) (.var 10)) (.cons (.un (.cell 1) (.var 10)) (.nil)))))
  (
  .lM [] (.bin (.and) (.bin (.le) (.aT .i64 (0)) (.bin (.sub .i64) (.un (.len) (.un (.cell 2) (.un (.agg) (.var 0)))) (.aT .i64 (1)))) (.bin (.lt) (.bin (.sub .i64) (.un (.len) (.un (.cell 2) (.un (.agg) (.var 0)))) (.aT .i64 (1))) (.un (.len) (.un (.cell 2) (.un (.agg) (.var 0))))))<|
  .ret (.un (.fx) (.cons (.un (.cell 0) (.bin (.idx) (.un (.cell 2) (.un (.agg) (.var 0))) (.bin (.sub .i64) (.un (.len) (.un (.cell 2) (.un (.agg) (.var 0)))) (.aT .i64 (1))))) (.cons (.un (.cell 1) (.bin (.idx) (.un (.cell 2) (.un (.agg) (.var 0))) (.bin (.sub .i64) (.un (.len) (.un (.cell 2) (.un (.agg) (.var 0)))) (.aT .i64 (1))))) (.nil)))))
def ajx:VC:=
 .branch (.bin (.lt) (.var 1) (.un (.cell 0) (.un (.agg) (.var 0)))) (
  .ret (.un (.fx) (.cons (.aT .i64 (0)) (.cons (.aT .i64 (23)) (.nil)))))
  (
  .branch (.bin (.eq) (.var 1) (.un (.cell 0) (.un (.agg) (.var 0)))) (
   .ret (.un (.fx) (.cons (.un (.cell 1) (.un (.agg) (.var 0))) (.cons (.aT .i64 (0)) (.nil)))))
   (
   .branch (.bin (.gt) (.bin (.sub .i64) (.var 1) (.un (.cell 0) (.un (.agg) (.var 0)))) (.un (.len) (.un (.cell 2) (.un (.agg) (.var 0))))) (
    .ret (.un (.fx) (.cons (.aT .i64 (0)) (.cons (.aT .i64 (3)) (.nil)))))
    (
    .lM [] (.bin (.and) (.bin (.le) (.aT .i64 (0)) (.bin (.sub .i64) (.bin (.sub .i64) (.var 1) (.un (.cell 0) (.un (.agg) (.var 0)))) (.aT .i64 (1)))) (.bin (.lt) (.bin (.sub .i64) (.bin (.sub .i64) (.var 1) (.un (.cell 0) (.un (.agg) (.var 0)))) (.aT .i64 (1))) (.un (.len) (.un (.cell 2) (.un (.agg) (.var 0))))))<|
    .ret (.un (.fx) (.cons (.un (.cell 1) (.bin (.idx) (.un (.cell 2) (.un (.agg) (.var 0))) (.bin (.sub .i64) (.bin (.sub .i64) (.var 1) (.un (.cell 0) (.un (.agg) (.var 0)))) (.aT .i64 (1))))) (.cons (.aT .i64 (0)) (.nil)))))))
def aji:VC:=
 .call 5 25 (.cons (.var 0) (.nil)) [] <|
 .ret (.bin (.or) (.bin (.gt) (.var 2) (.un (.cell 1) (.var 5))) (.bin (.and) (.bin (.eq) (.var 2) (.un (.cell 1) (.var 5))) (.bin (.ge) (.var 1) (.un (.cell 0) (.var 5)))))
def ajo:VC:=
 .branch (.bin (.or) (.bin (.or) (.bin (.lt) (.var 2) (.aT .i64 (1))) (.bin (.le) (.var 1) (.un (.cell 0) (.un (.agg) (.var 0))))) (.bin (.ge) (.bin (.sub .i64) (.bin (.sub .i64) (.var 1) (.un (.cell 0) (.un (.agg) (.var 0)))) (.aT .i64 (1))) (.un (.len) (.un (.cell 2) (.un (.agg) (.var 0)))))) (
  .ret (.nil))
  (
  .branch (.bin (.lt) (.var 2) (.bin (.sub .i64) (.un (.len) (.un (.cell 2) (.un (.agg) (.var 0)))) (.bin (.sub .i64) (.bin (.sub .i64) (.var 1) (.un (.cell 0) (.un (.agg) (.var 0)))) (.aT .i64 (1))))) (
   .lM [] (.bin (.and) (.bin (.le) (.aT .i64 (0)) (.bin (.sub .i64) (.bin (.sub .i64) (.var 1) (.un (.cell 0) (.un (.agg) (.var 0)))) (.aT .i64 (1)))) (.bin (.and) (.bin (.le) (.bin (.sub .i64) (.bin (.sub .i64) (.var 1) (.un (.cell 0) (.un (.agg) (.var 0)))) (.aT .i64 (1))) (.bin (.add .i64) (.bin (.sub .i64) (.bin (.sub .i64) (.var 1) (.un (.cell 0) (.un (.agg) (.var 0)))) (.aT .i64 (1))) (.var 2))) (.bin (.le) (.bin (.add .i64) (.bin (.sub .i64) (.bin (.sub .i64) (.var 1) (.un (.cell 0) (.un (.agg) (.var 0)))) (.aT .i64 (1))) (.var 2)) (.un (.len) (.un (.cell 2) (.un (.agg) (.var 0)))))))<|
   .room [] (.bin (.cat) (.nil) (.bin (.drop) (.bin (.take) (.un (.cell 2) (.un (.agg) (.var 0))) (.bin (.add .i64) (.bin (.sub .i64) (.bin (.sub .i64) (.var 1) (.un (.cell 0) (.un (.agg) (.var 0)))) (.aT .i64 (1))) (.var 2))) (.bin (.sub .i64) (.bin (.sub .i64) (.var 1) (.un (.cell 0) (.un (.agg) (.var 0)))) (.aT .i64 (1))))) 320<|
   .ret (.bin (.cat) (.nil) (.bin (.drop) (.bin (.take) (.un (.cell 2) (.un (.agg) (.var 0))) (.bin (.add .i64) (.bin (.sub .i64) (.bin (.sub .i64) (.var 1) (.un (.cell 0) (.un (.agg) (.var 0)))) (.aT .i64 (1))) (.var 2))) (.bin (.sub .i64) (.bin (.sub .i64) (.var 1) (.un (.cell 0) (.un (.agg) (.var 0)))) (.aT .i64 (1))))))
   (
   .lM [] (.bin (.and) (.bin (.le) (.aT .i64 (0)) (.bin (.sub .i64) (.bin (.sub .i64) (.var 1) (.un (.cell 0) (.un (.agg) (.var 0)))) (.aT .i64 (1)))) (.bin (.and) (.bin (.le) (.bin (.sub .i64) (.bin (.sub .i64) (.var 1) (.un (.cell 0) (.un (.agg) (.var 0)))) (.aT .i64 (1))) (.un (.len) (.un (.cell 2) (.un (.agg) (.var 0))))) (.bin (.le) (.un (.len) (.un (.cell 2) (.un (.agg) (.var 0)))) (.un (.len) (.un (.cell 2) (.un (.agg) (.var 0)))))))<|
   .room [] (.bin (.cat) (.nil) (.bin (.drop) (.bin (.take) (.un (.cell 2) (.un (.agg) (.var 0))) (.un (.len) (.un (.cell 2) (.un (.agg) (.var 0))))) (.bin (.sub .i64) (.bin (.sub .i64) (.var 1) (.un (.cell 0) (.un (.agg) (.var 0)))) (.aT .i64 (1))))) 320<|
   .ret (.bin (.cat) (.nil) (.bin (.drop) (.bin (.take) (.un (.cell 2) (.un (.agg) (.var 0))) (.un (.len) (.un (.cell 2) (.un (.agg) (.var 0))))) (.bin (.sub .i64) (.bin (.sub .i64) (.var 1) (.un (.cell 0) (.un (.agg) (.var 0)))) (.aT .i64 (1)))))))
def adI:VC:=Qh Try.prog adT [] s49 Try.f49
def atB:VC:=
 .call 6 25 (.cons (.un (.cell 13) (.un (.agg) (.var 0))) (.nil)) [] <|
 .call 14 49 (.cons (.var 0) (.cons (.un (.cell 0) (.var 6)) (.nil))) [] <|
 .ret (.un (.agg) (.cons (.un (.cell 0) (.var 14)) (.cons (.un (.cell 1) (.var 14)) (.nil))))
def adL:VC:=Qh Try.prog ad6 [] s32 Try.f32
def att:VC:=
 .call 4 29 (.cons (.var 0) (.nil)) [] <|
 .call 5 63 (.cons (.un (.agg) (.cons (.un (.cell 0) (.var 4)) (.cons (.un (.cell 1) (.var 4)) (.nil)))) (.nil)) [] <|
 .call 7 56 (.cons (.var 5) (.cons (.var 1) (.nil))) [] <|
 .ret (.var 7)
def adH:VC:=Qh Try.prog adP [] s69 Try.f69
def atu:VC:=
 .call 10 50 (.cons (.un (.cell 13) (.un (.agg) (.var 0))) (.cons (.un (.cell 19) (.un (.agg) (.var 0))) (.nil))) [] <|
 .ret (.bin (.and) (.bin (.eq) (.un (.cell 1) (.var 10)) (.aT .i64 (0))) (.bin (.eq) (.un (.cell 0) (.var 10)) (.un (.cell 11) (.un (.agg) (.var 0)))))
def ajH:VC:=Qh Try.prog adR [] s38 Try.f38
def atD:VC:=
 .call 6 28 (.cons (.un (.cell 13) (.un (.agg) (.var 0))) (.nil)) [] <|
 .call 16 25 (.cons (.un (.cell 13) (.un (.agg) (.var 0))) (.nil)) [] <|
 .call 41 29 (.cons (.var 0) (.nil)) [] <|
 .ret (.un (.agg) (.dJ (fl [[.un (.cell 20) (.un (.agg) (.var 0))],[.un (.cell 21) (.un (.agg) (.var 0))],[.un (.cell 0) (.un (.part 11 2) (.un (.agg) (.var 0)))],[.un (.cell 1) (.un (.part 11 2) (.un (.agg) (.var 0)))],[.un (.cell 19) (.un (.agg) (.var 0))],[.un (.cell 0) (.var 16)],[.un (.cell 0) (.var 6)],[.un (.cell 0) (.var 41)],[.un (.cell 1) (.var 41)]])))
def ajs:VC:=
 .ret (.bin (.and) (.bin (.ge) (.var 0) (.var 1)) (.bin (.le) (.var 0) (.var 2)))
def ajr:VC:=
 .call 5 57 (.cons (.var 0) (.cons (.aT .i64 (0)) (.cons (.aT .i64 (1099511627776)) (.nil)))) [] <|
 .call 9 57 (.cons (.var 1) (.cons (.aT .i64 (0)) (.cons (.aT .i64 (1099511627776)) (.nil)))) [(.un (.not) (.var 5),false)] <|
 .branch (.bin (.or) (.un (.not) (.var 5)) (.un (.not) (.var 9))) (
  .ret (.ff false))
  (
  .loop 15 [.ff false,.var 0,.var 1,.aT .i64 (0)] [.bool,.int .i64,.int .i64,.int .i64] (
   .branch (.bin (.lt) (.var 18) (.un (.len) (.var 2))) (
    .lM [] (.bin (.and) (.bin (.le) (.aT .i64 (0)) (.var 18)) (.bin (.lt) (.var 18) (.un (.len) (.var 2))))<|
    .call 42 57 (.cons (.un (.cell 0) (.bin (.idx) (.var 2) (.var 18))) (.cons (.aT .i64 (1)) (.cons (.aT .i64 (1099511627776)) (.nil)))) [(.bin (.or) (.bin (.ne) (.bin (.sub .i64) (.un (.cell 0) (.bin (.idx) (.var 2) (.var 18))) (.aT .i64 (1))) (.var 16)) (.bin (.lt) (.un (.cell 1) (.bin (.idx) (.var 2) (.var 18))) (.var 17)),false)] <|
    .call 48 57 (.cons (.un (.cell 1) (.bin (.idx) (.var 2) (.var 18))) (.cons (.aT .i64 (0)) (.cons (.aT .i64 (1099511627776)) (.nil)))) [(.bin (.or) (.bin (.or) (.bin (.ne) (.bin (.sub .i64) (.un (.cell 0) (.bin (.idx) (.var 2) (.var 18))) (.aT .i64 (1))) (.var 16)) (.bin (.lt) (.un (.cell 1) (.bin (.idx) (.var 2) (.var 18))) (.var 17))) (.un (.not) (.var 42)),false)] <|
    .branch (.bin (.or) (.bin (.or) (.bin (.or) (.bin (.ne) (.bin (.sub .i64) (.un (.cell 0) (.bin (.idx) (.var 2) (.var 18))) (.aT .i64 (1))) (.var 16)) (.bin (.lt) (.un (.cell 1) (.bin (.idx) (.var 2) (.var 18))) (.var 17))) (.un (.not) (.var 42))) (.un (.not) (.var 48))) (
     .ret (.ff false))
     (
     .again 0 [.var 15,.un (.cell 0) (.bin (.idx) (.var 2) (.var 18)),.un (.cell 1) (.bin (.idx) (.var 2) (.var 18)),.bin (.add .i64) (.var 18) (.aT .i64 (1))]))
    (
    .ret (.ff true))))
def ajO:VC:=
 .call 11 58 (.cons (.var 0) (.cons (.var 1) (.cons (.var 2) (.nil)))) [] <|
 .branch (.un (.not) (.var 11)) (
  .ret (.un (.fx) (.cons (.un (.fx) (.cons (.aT .i64 (0)) (.cons (.ff false) (.nil)))) (.cons (.un (.agg) (.cons (.var 3) (.cons (.var 4) (.cons (.var 5) (.nil))))) (.nil)))))
  (
  .call 15 50 (.cons (.un (.so) (.cons (.var 3) (.cons (.var 4) (.cons (.var 5) (.nil))))) (.cons (.var 0) (.nil))) [] <|
  .branch (.bin (.or) (.bin (.ne) (.un (.cell 1) (.var 15)) (.aT .i64 (0))) (.bin (.ne) (.un (.cell 0) (.var 15)) (.var 1))) (
   .ret (.un (.fx) (.cons (.un (.fx) (.cons (.aT .i64 (0)) (.cons (.ff false) (.nil)))) (.cons (.un (.agg) (.cons (.var 3) (.cons (.var 4) (.cons (.var 5) (.nil))))) (.nil)))))
   (
   .loop 31 (fl [[.aT .i64 (0)],[.ff false],[.aT .i64 (0)],vr 3 3]) [.int .i64,.bool,.int .i64,.int .i64,.int .i64,.list (.agg (.cons (.int .i64) (.cons (.int .i64) (.cons (.int .i64) (.cons (.int .i64) (.cons (.int .i64) (.cons (.int .i64) (.cons (.int .i64) (.cons (.int .i64) (.cons (.int .i64) (.cons (.list (.agg (.cons (.int .i64) (.cons (.int .i64) (.cons (.int .i64) (.nil)))))) (.cons (.int .i64) (.cons (.bool) (.cons (.int .i64) (.cons (.int .i64) (.cons (.int .i64) (.cons (.bool) (.cons (.bool) (.cons (.int .i64) (.cons (.int .i64) (.cons (.int .i64) (.cons (.list (.agg (.cons (.int .i64) (.cons (.int .i64) (.nil))))) (.cons (.int .i64) (.cons (.int .i64) (.cons (.int .i64) (.cons (.list (.int .i64)) (.cons (.list (.agg (.cons (.int .i64) (.cons (.int .i64) (.cons (.int .i64) (.cons (.int .i64) (.cons (.int .i64) (.cons (.int .i64) (.cons (.int .i64) (.cons (.int .i64) (.cons (.int .i64) (.cons (.bool) (.cons (.int .i64) (.nil)))))))))))))) (.cons (.bool) (.cons (.list (.int .i64)) (.cons (.list (.int .i64)) (.nil)))))))))))))))))))))))))))))))] (
    .branch (.bin (.lt) (.var 33) (.un (.len) (.var 2))) (
     .lM [] (.bin (.and) (.bin (.le) (.aT .i64 (0)) (.var 33)) (.bin (.lt) (.var 33) (.un (.len) (.var 2))))<|
     .call 49 50 (.cons (.un (.so) (.cons (.var 34) (.cons (.var 35) (.cons (.var 36) (.nil))))) (.cons (.un (.cell 0) (.bin (.idx) (.var 2) (.var 33))) (.nil))) [] <|
     .branch (.bin (.and) (.bin (.eq) (.un (.cell 1) (.var 49)) (.aT .i64 (0))) (.bin (.eq) (.un (.cell 0) (.var 49)) (.un (.cell 1) (.bin (.idx) (.var 2) (.var 33))))) (
      .again 0 (fl [[.var 31],[.var 32],[.bin (.add .i64) (.var 33) (.aT .i64 (1))],vr 34 3]))
      (
      .lM [] (.bin (.and) (.bin (.le) (.aT .i64 (0)) (.bin (.sub .i64) (.bin (.sub .i64) (.un (.cell 0) (.bin (.idx) (.var 2) (.var 33))) (.var 34)) (.aT .i64 (1)))) (.bin (.le) (.bin (.sub .i64) (.bin (.sub .i64) (.un (.cell 0) (.bin (.idx) (.var 2) (.var 33))) (.var 34)) (.aT .i64 (1))) (.un (.len) (.var 36))))<|
      .lM [] (.bin (.and) (.bin (.le) (.aT .i64 (0)) (.var 33)) (.bin (.and) (.bin (.le) (.var 33) (.un (.len) (.var 2))) (.bin (.le) (.un (.len) (.var 2)) (.un (.len) (.var 2)))))<|
      .room [] (.bin (.cat) (.bin (.take) (.var 36) (.bin (.sub .i64) (.bin (.sub .i64) (.un (.cell 0) (.bin (.idx) (.var 2) (.var 33))) (.var 34)) (.aT .i64 (1)))) (.bin (.drop) (.bin (.take) (.var 2) (.un (.len) (.var 2))) (.var 33))) 320<|
      .lM [] (.bin (.lt) (.aT .i64 (0)) (.un (.len) (.bin (.drop) (.bin (.take) (.var 2) (.un (.len) (.var 2))) (.var 33))))<|
      .ret (.un (.fx) (.cons (.un (.fx) (.cons (.un (.cell 0) (.bin (.idx) (.var 2) (.var 33))) (.cons (.ff true) (.nil)))) (.cons (.un (.agg) (.cons (.var 34) (.cons (.var 35) (.cons (.bin (.cat) (.bin (.take) (.var 36) (.bin (.sub .i64) (.bin (.sub .i64) (.un (.cell 0) (.bin (.idx) (.var 2) (.var 33))) (.var 34)) (.aT .i64 (1)))) (.bin (.drop) (.bin (.take) (.var 2) (.un (.len) (.var 2))) (.var 33))) (.nil))))) (.nil))))))
     (
     .ret (.un (.fx) (.cons (.un (.fx) (.cons (.aT .i64 (0)) (.cons (.ff true) (.nil)))) (.cons (.un (.agg) (.cons (.var 34) (.cons (.var 35) (.cons (.var 36) (.nil))))) (.nil))))))))
def ajl:VC:=
 .call 9 25 (.cons (.un (.so) (.cons (.var 2) (.cons (.var 3) (.cons (.var 4) (.nil))))) (.nil)) [] <|
 .call 20 57 (.cons (.var 0) (.cons (.aT .i64 (1)) (.cons (.aT .i64 (1099511627776)) (.nil)))) [(.bin (.lt) (.var 0) (.un (.cell 1) (.var 9)),false)] <|
 .branch (.bin (.or) (.bin (.lt) (.var 0) (.un (.cell 1) (.var 9))) (.un (.not) (.var 20))) (
  .ret (.un (.fx) (.cons (.un (.fx) (.cons (.un (.agg) (.dJ (fl [rp 9 (.aT .i64 (0)),[.nil],[.aT .i64 (0)],[.ff false],rp 3 (.aT .i64 (0)),rp 2 (.ff false),rp 3 (.aT .i64 (0)),[.nil],rp 3 (.aT .i64 (0)),rp 2 (.nil),[.ff false],rp 2 (.nil)]))) (.cons (.aT .i64 (1)) (.nil)))) (.cons (.un (.agg) (.cons (.var 2) (.cons (.var 3) (.cons (.var 4) (.nil))))) (.nil)))))
  (
  .branch (.bin (.ge) (.un (.cell 0) (.var 9)) (.aT .i64 (1099511627776))) (
   .ret (.un (.fx) (.cons (.un (.fx) (.cons (.un (.agg) (.dJ (fl [rp 9 (.aT .i64 (0)),[.nil],[.aT .i64 (0)],[.ff false],rp 3 (.aT .i64 (0)),rp 2 (.ff false),rp 3 (.aT .i64 (0)),[.nil],rp 3 (.aT .i64 (0)),rp 2 (.nil),[.ff false],rp 2 (.nil)]))) (.cons (.aT .i64 (2)) (.nil)))) (.cons (.un (.agg) (.cons (.var 2) (.cons (.var 3) (.cons (.var 4) (.nil))))) (.nil)))))
   (
   .room [] (.bin (.cat) (.var 4) (.cons (.un (.agg) (.dJ (fl [[.bin (.add .i64) (.un (.cell 0) (.var 9)) (.aT .i64 (1))],[.var 0],cr 0 27 (.var 1)]))) (.nil))) 320<|
   .ret (.un (.fx) (.cons (.un (.fx) (.cons (.un (.agg) (.dJ (fl [[.bin (.add .i64) (.un (.cell 0) (.var 9)) (.aT .i64 (1))],[.var 0],cr 0 27 (.var 1)]))) (.cons (.aT .i64 (0)) (.nil)))) (.cons (.un (.agg) (.cons (.var 2) (.cons (.var 3) (.cons (.bin (.cat) (.var 4) (.cons (.un (.agg) (.dJ (fl [[.bin (.add .i64) (.un (.cell 0) (.var 9)) (.aT .i64 (1))],[.var 0],cr 0 27 (.var 1)]))) (.nil))) (.nil))))) (.nil))))))
def ajw:VC:=
 .call 6 25 (.cons (.un (.so) (.cons (.var 1) (.cons (.var 2) (.cons (.var 3) (.nil))))) (.nil)) [] <|
 .branch (.bin (.gt) (.var 0) (.un (.cell 0) (.var 6))) (
  .ret (.un (.fx) (.cons (.aT .i64 (3)) (.cons (.un (.agg) (.cons (.var 1) (.cons (.var 2) (.cons (.var 3) (.nil))))) (.nil)))))
  (
  .branch (.bin (.le) (.var 0) (.var 1)) (
   .ret (.un (.fx) (.cons (.aT .i64 (0)) (.cons (.un (.agg) (.cons (.var 1) (.cons (.var 2) (.cons (.var 3) (.nil))))) (.nil)))))
   (
   .call 25 50 (.cons (.un (.so) (.cons (.var 1) (.cons (.var 2) (.cons (.var 3) (.nil))))) (.cons (.var 0) (.nil))) [] <|
   .lM [] (.bin (.and) (.bin (.le) (.aT .i64 (0)) (.bin (.sub .i64) (.var 0) (.var 1))) (.bin (.and) (.bin (.le) (.bin (.sub .i64) (.var 0) (.var 1)) (.un (.len) (.var 3))) (.bin (.le) (.un (.len) (.var 3)) (.un (.len) (.var 3)))))<|
   .room [] (.bin (.cat) (.nil) (.bin (.drop) (.bin (.take) (.var 3) (.un (.len) (.var 3))) (.bin (.sub .i64) (.var 0) (.var 1)))) 320<|
   .ret (.un (.fx) (.cons (.aT .i64 (0)) (.cons (.un (.agg) (.cons (.var 0) (.cons (.un (.cell 0) (.var 25)) (.cons (.bin (.cat) (.nil) (.bin (.drop) (.bin (.take) (.var 3) (.un (.len) (.var 3))) (.bin (.sub .i64) (.var 0) (.var 1)))) (.nil))))) (.nil))))))
def ajc:VC:=
 .call 4 57 (.cons (.var 0) (.cons (.aT .i64 (0)) (.cons (.aT .i64 (1099511627776)) (.nil)))) [] <|
 .call 8 57 (.cons (.var 1) (.cons (.aT .i64 (0)) (.cons (.aT .i64 (1099511627776)) (.nil)))) [(.un (.not) (.var 4),false)] <|
 .branch (.bin (.or) (.bin (.or) (.un (.not) (.var 4)) (.un (.not) (.var 8))) (.un (.not) (.bin (.beq) (.bin (.eq) (.var 0) (.aT .i64 (0))) (.bin (.eq) (.var 1) (.aT .i64 (0)))))) (
  .stuck 11)
  (
  .ret (.un (.fx) (.cons (.un (.fx) (.nil)) (.cons (.un (.agg) (.cons (.var 0) (.cons (.var 1) (.cons (.nil) (.nil))))) (.nil)))))
def ajd:VC:=
 .call 4 57 (.cons (.var 0) (.cons (.aT .i64 (0)) (.cons (.aT .i64 (1099511627776)) (.nil)))) [] <|
 .call 8 57 (.cons (.var 1) (.cons (.aT .i64 (0)) (.cons (.aT .i64 (1099511627776)) (.nil)))) [(.un (.not) (.var 4),false)] <|
 .branch (.bin (.or) (.bin (.or) (.un (.not) (.var 4)) (.un (.not) (.var 8))) (.un (.not) (.bin (.beq) (.bin (.eq) (.var 0) (.aT .i64 (0))) (.bin (.eq) (.var 1) (.aT .i64 (0)))))) (
  .ret (.gW))
  (
  .stuck 11)
def aaw:VC:=
 .branch (.bin (.or) (.bin (.or) (.bin (.lt) (.var 1) (.aT .i64 (1))) (.bin (.le) (.var 0) (.var 2))) (.bin (.ge) (.bin (.sub .i64) (.bin (.sub .i64) (.var 0) (.var 2)) (.aT .i64 (1))) (.un (.len) (.var 4)))) (
  .ret (.un (.fx) (.cons (.nil) (.cons (.un (.agg) (.cons (.var 2) (.cons (.var 3) (.cons (.var 4) (.nil))))) (.nil)))))
  (
  .branch (.bin (.lt) (.var 1) (.bin (.sub .i64) (.un (.len) (.var 4)) (.bin (.sub .i64) (.bin (.sub .i64) (.var 0) (.var 2)) (.aT .i64 (1))))) (
   .lM [] (.bin (.and) (.bin (.le) (.aT .i64 (0)) (.bin (.sub .i64) (.bin (.sub .i64) (.var 0) (.var 2)) (.aT .i64 (1)))) (.bin (.and) (.bin (.le) (.bin (.sub .i64) (.bin (.sub .i64) (.var 0) (.var 2)) (.aT .i64 (1))) (.bin (.add .i64) (.bin (.sub .i64) (.bin (.sub .i64) (.var 0) (.var 2)) (.aT .i64 (1))) (.var 1))) (.bin (.le) (.bin (.add .i64) (.bin (.sub .i64) (.bin (.sub .i64) (.var 0) (.var 2)) (.aT .i64 (1))) (.var 1)) (.un (.len) (.var 4)))))<|
   .room [] (.bin (.cat) (.nil) (.bin (.drop) (.bin (.take) (.var 4) (.bin (.add .i64) (.bin (.sub .i64) (.bin (.sub .i64) (.var 0) (.var 2)) (.aT .i64 (1))) (.var 1))) (.bin (.sub .i64) (.bin (.sub .i64) (.var 0) (.var 2)) (.aT .i64 (1))))) 320<|
   .ret (.un (.fx) (.cons (.bin (.cat) (.nil) (.bin (.drop) (.bin (.take) (.var 4) (.bin (.add .i64) (.bin (.sub .i64) (.bin (.sub .i64) (.var 0) (.var 2)) (.aT .i64 (1))) (.var 1))) (.bin (.sub .i64) (.bin (.sub .i64) (.var 0) (.var 2)) (.aT .i64 (1))))) (.cons (.un (.agg) (.cons (.var 2) (.cons (.var 3) (.cons (.var 4) (.nil))))) (.nil)))))
   (
   .lM [] (.bin (.and) (.bin (.le) (.aT .i64 (0)) (.bin (.sub .i64) (.bin (.sub .i64) (.var 0) (.var 2)) (.aT .i64 (1)))) (.bin (.and) (.bin (.le) (.bin (.sub .i64) (.bin (.sub .i64) (.var 0) (.var 2)) (.aT .i64 (1))) (.un (.len) (.var 4))) (.bin (.le) (.un (.len) (.var 4)) (.un (.len) (.var 4)))))<|
   .room [] (.bin (.cat) (.nil) (.bin (.drop) (.bin (.take) (.var 4) (.un (.len) (.var 4))) (.bin (.sub .i64) (.bin (.sub .i64) (.var 0) (.var 2)) (.aT .i64 (1))))) 320<|
   .ret (.un (.fx) (.cons (.bin (.cat) (.nil) (.bin (.drop) (.bin (.take) (.var 4) (.un (.len) (.var 4))) (.bin (.sub .i64) (.bin (.sub .i64) (.var 0) (.var 2)) (.aT .i64 (1))))) (.cons (.un (.agg) (.cons (.var 2) (.cons (.var 3) (.cons (.var 4) (.nil))))) (.nil))))))
def atx:VC:=
 .ret (.un (.fx) (.cons (.un (.fx) (.nil)) (.cons (.un (.agg) (.dJ (fl [[.ff true],vr 1 12,[.un (.so) (.nil)],vr 14 37]))) (.cons (.un (.agg) (.cons (.var 51) (.cons (.var 52) (.cons (.var 53) (.nil))))) (.nil)))))
def aty:VC:=
 .ret (.un (.fx) (.cons (.un (.fx) (.nil)) (.cons (.un (.agg) (.dJ (fl [vr 0 13,[.un (.so) (.nil)],vr 14 8,rp 2 (.aT .i64 (0)),vr 24 27]))) (.cons (.un (.agg) (.cons (.var 51) (.cons (.var 52) (.cons (.var 53) (.nil))))) (.nil)))))
def atv:VC:=
 .room [] (.bin (.cat) (.var 6) (.cons (.un (.agg) (.dJ (fl [[.un (.cell 0) (.var 0)],[.var 9],[.un (.cell 2) (.var 0)],[.var 12],cr 4 42 (.var 0)]))) (.nil))) 536<|
 .ret (.un (.fx) (.cons (.un (.fx) (.nil)) (.cons (.un (.agg) (.dJ (fl [vr 1 5,[.bin (.cat) (.var 6) (.cons (.un (.agg) (.dJ (fl [[.un (.cell 0) (.var 0)],[.var 9],[.un (.cell 2) (.var 0)],[.var 12],cr 4 42 (.var 0)]))) (.nil))],vr 7 7,[.un (.so) (.nil)],vr 15 37]))) (.cons (.un (.agg) (.cons (.var 52) (.cons (.var 53) (.cons (.var 54) (.nil))))) (.nil)))))
def ajF:VC:=qw Try.prog adU [] s41 Try.f41
def atz:VC:=
 .ret (.un (.fx) (.cons (.un (.agg) (.dJ (fl [[.var 0],[.var 11],[.var 12],vr 3 5]))) (.cons (.un (.agg) (.dJ (fl [[.ff false],rp 2 (.aT .i64 (0)),[.nil],[.gW],rp 3 (.nil),vr 8 5,[.un (.so) (.nil)],vr 14 37]))) (.cons (.un (.agg) (.cons (.var 51) (.cons (.var 52) (.cons (.var 53) (.nil))))) (.nil)))))
def ajG:VC:=qw Try.prog ad5 [] s39 Try.f39
def ajJ:VC:=qw Try.prog ad3 [(0,{drop:=[4006001]})] s33 Try.f33
def ats:VC:=
 .ret (.bin (.eq) (.un (.cell 2) (.var 0)) (.aT .i64 (2)))
def UO:VC:=
 .loop 6 [.aT .i64 (0),.aT .i64 (0)] [.int .i64,.int .i64] (
  .branch (.bin (.lt) (.var 7) (.un (.len) (.var 0))) (
   .lM [] (.bin (.and) (.bin (.le) (.aT .i64 (0)) (.var 7)) (.bin (.lt) (.var 7) (.un (.len) (.var 0))))<|
   .call 16 84 (.cons (.bin (.idx) (.var 0) (.var 7)) (.nil)) [] <|
   .branch (.var 16) (
    .ret (.var 7))
    (
    .again 0 [.var 6,.bin (.add .i64) (.var 7) (.aT .i64 (1))]))
   (
   .ret (.aT .i64 (-1))))
def UQ:VC:=
 .call 5 80 (.cons (.var 0) (.cons (.var 1) (.nil))) [] <|
 .ret (.bin (.ge) (.var 5) (.aT .i64 (0)))
def ajj:VC:=qw Try.prog Mn [] s73 Try.f73
def adJ:VC:=qw Try.prog adQ [(1000000,{drop:=[18]}),(3,{own:=[(4,3)]}),(5,{drop:=[4005005]})] s40 Try.f40
def X1:VC:=qw Try.prog ad2 [(3,{boxes:=B5}),(9,{boxes:=B5}),(5,{drop:=[4006004]})] np Try.f67
def adK:VC:=qw Try.prog adS [(8,{boxes:=B5})] s37 Try.f37
def ajE:VC:=qw Try.prog ad4 [] s42 Try.f42
def ajD:VC:=qw Try.prog ad0 [] s43 Try.f43
def ajC:VC:=qw Try.prog adZ [] s44 Try.f44
def ajh:VC:=qw Try.prog adY [] ZZ Try.f75
def aax:VC:=
 .branch (.bin (.or) (.bin (.or) (.bin (.lt) (.var 1) (.aT .i64 (1))) (.bin (.le) (.var 0) (.var 2))) (.bin (.ge) (.bin (.sub .i64) (.bin (.sub .i64) (.var 0) (.var 2)) (.aT .i64 (1))) (.un (.len) (.var 4)))) (
  .ret (.un (.fx) (.cons (.nil) (.cons (.un (.agg) (.cons (.var 2) (.cons (.var 3) (.cons (.var 4) (.nil))))) (.nil)))))
  (
  .branch (.bin (.lt) (.var 1) (.bin (.sub .i64) (.un (.len) (.var 4)) (.bin (.sub .i64) (.bin (.sub .i64) (.var 0) (.var 2)) (.aT .i64 (1))))) (
   .lM [] (.bin (.and) (.bin (.le) (.aT .i64 (0)) (.bin (.sub .i64) (.bin (.sub .i64) (.var 0) (.var 2)) (.aT .i64 (1)))) (.bin (.and) (.bin (.le) (.bin (.sub .i64) (.bin (.sub .i64) (.var 0) (.var 2)) (.aT .i64 (1))) (.bin (.add .i64) (.bin (.sub .i64) (.bin (.sub .i64) (.var 0) (.var 2)) (.aT .i64 (1))) (.var 1))) (.bin (.le) (.bin (.add .i64) (.bin (.sub .i64) (.bin (.sub .i64) (.var 0) (.var 2)) (.aT .i64 (1))) (.var 1)) (.un (.len) (.var 4)))))<|
   .room [] (.bin (.cat) (.nil) (.bin (.drop) (.bin (.take) (.var 4) (.bin (.add .i64) (.bin (.sub .i64) (.bin (.sub .i64) (.var 0) (.var 2)) (.aT .i64 (1))) (.var 1))) (.bin (.sub .i64) (.bin (.sub .i64) (.var 0) (.var 2)) (.aT .i64 (1))))) 320<|
   .ret (.un (.fx) (.cons (.bin (.cat) (.nil) (.bin (.drop) (.bin (.take) (.var 4) (.bin (.add .i64) (.bin (.sub .i64) (.bin (.sub .i64) (.var 0) (.var 2)) (.aT .i64 (1))) (.var 1))) (.bin (.sub .i64) (.bin (.sub .i64) (.var 0) (.var 2)) (.aT .i64 (1))))) (.cons (.un (.agg) (.cons (.var 2) (.cons (.var 3) (.cons (.var 4) (.nil))))) (.nil)))))
   (
   .lM [] (.bin (.and) (.bin (.le) (.aT .i64 (0)) (.bin (.sub .i64) (.bin (.sub .i64) (.var 0) (.var 2)) (.aT .i64 (1)))) (.bin (.and) (.bin (.le) (.bin (.sub .i64) (.bin (.sub .i64) (.var 0) (.var 2)) (.aT .i64 (1))) (.un (.len) (.var 4))) (.bin (.le) (.un (.len) (.var 4)) (.un (.len) (.var 4)))))<|
   .room [] (.bin (.cat) (.nil) (.bin (.drop) (.bin (.take) (.var 4) (.un (.len) (.var 4))) (.bin (.sub .i64) (.bin (.sub .i64) (.var 0) (.var 2)) (.aT .i64 (1))))) 320<|
   .ret (.un (.fx) (.cons (.bin (.cat) (.nil) (.bin (.drop) (.bin (.take) (.var 4) (.un (.len) (.var 4))) (.bin (.sub .i64) (.bin (.sub .i64) (.var 0) (.var 2)) (.aT .i64 (1))))) (.cons (.un (.agg) (.cons (.var 2) (.cons (.var 3) (.cons (.var 4) (.nil))))) (.nil))))))
def ajB:VC:=qw Try.prog Tv [] s45 Try.f45
def adG:VC:=qw Try.prog adX [(4,{boxes:=B5})] pS Try.f77
def ajg:VC:=qw Try.prog adO [(1,{drop:=[4006001]})] s78 Try.f78
def ajA:VC:=qw Try.prog adN [(3,{drop:=[5106003]})] s46 Try.f46
def ajy:VC:=qw Try.prog adW [(5,{drop:=[5106003]})] s48 Try.f48
def atC:VC:=
 .call 5 26 (.cons (.un (.agg) (.cons (.un (.cell 2) (.var 0)) (.cons (.un (.cell 3) (.var 0)) (.nil)))) (.nil)) [] <|
 .call 8 52 (.cons (.un (.cell 4) (.var 0)) (.nil)) [] <|
 .ret (.un (.agg) (.dJ (fl [[.un (.cell 0) (.var 0)],[.un (.cell 1) (.var 0)],[.un (.cell 0) (.var 5)],[.un (.cell 1) (.var 5)],[.var 8]])))
def ajz:VC:=afw Try.prog ad7 OO [(21,{drop:=[9000000010]})] s47 Try.f47
def ajR:VC:=qw Try.prog adV [] s17 Try.f17
def adM:VC:=qw Try.prog ad8 [(6,{boxes:=B5})] s15 Try.f15
def aje:VC:=
 .branch (.bin (.ne) (.un (.len) (.var 0)) (.un (.len) (.var 1))) (
  .ret (.ff false))
  (
  .loop 9 [.ff false,.aT .i64 (0)] [.bool,.int .i64] (
   .branch (.bin (.lt) (.var 10) (.un (.len) (.var 0))) (
    .lM [] (.bin (.and) (.bin (.le) (.aT .i64 (0)) (.var 10)) (.bin (.lt) (.var 10) (.un (.len) (.var 0))))<|
    .lM [] (.bin (.and) (.bin (.le) (.aT .i64 (0)) (.var 10)) (.bin (.lt) (.var 10) (.un (.len) (.var 1))))<|
    .branch (.bin (.ne) (.bin (.idx) (.var 0) (.var 10)) (.bin (.idx) (.var 1) (.var 10))) (
     .ret (.ff false))
     (
     .again 0 [.var 9,.bin (.add .i64) (.var 10) (.aT .i64 (1))]))
    (
    .ret (.ff true))))
def ajq:VC:=
 .call 9 81 (.cons (.un (.cell 0) (.var 0)) (.cons (.un (.cell 0) (.var 1)) (.nil))) [] <|
 .call 15 81 (.cons (.un (.cell 1) (.var 0)) (.cons (.un (.cell 1) (.var 1)) (.nil))) [] <|
 .ret (.bin (.and) (.var 9) (.var 15))
def atA:VC:=
 .call 9 62 (.cons (.un (.agg) (.cons (.un (.cell 25) (.var 0)) (.cons (.un (.cell 26) (.var 0)) (.nil)))) (.cons (.un (.agg) (.cons (.un (.cell 25) (.var 1)) (.cons (.un (.cell 26) (.var 1)) (.nil)))) (.nil))) [] <|
 .ret (.bin (.and) (.bin (.and) (.bin (.and) (.bin (.and) (.bin (.and) (.var 9) (.bin (.eq) (.un (.cell 0) (.var 0)) (.un (.cell 0) (.var 1)))) (.bin (.eq) (.un (.cell 1) (.var 0)) (.un (.cell 1) (.var 1)))) (.bin (.eq) (.un (.cell 2) (.var 0)) (.un (.cell 2) (.var 1)))) (.bin (.eq) (.un (.cell 3) (.var 0)) (.un (.cell 3) (.var 1)))) (.bin (.eq) (.un (.cell 8) (.var 0)) (.un (.cell 8) (.var 1))))
def vc8:VC:=
 .branch (.bin (.lt) (.var 0) (.aT .i64 (0))) (
  .lM [] (.bin (.ne) (.var 1) (.aT .i64 (0)))<|
  .ret (.bin (.rem .i64) (.un (.neg .i64) (.bin (.add .i64) (.var 0) (.aT .i64 (1)))) (.var 1)))
  (
  .lM [] (.bin (.ne) (.var 1) (.aT .i64 (0)))<|
  .ret (.bin (.rem .i64) (.var 0) (.var 1)))
attribute [irreducible] adI adL adH ajH ajF ajG ajJ ajj adJ X1 adK ajE ajD ajC ajh ajB adG ajg ajA ajy ajz ajR adM
end
end Go.Proofs.Ytjhmkaninmgilaa
