/- Part 3 of the proof of RaftOne; no condition. -/
import Derived.Test.YtjhmkaninmgilaaS02
import Derived.Deep.LoopGhost
import Derived.Sort.LoopGhostIn
import Derived.RangeFuncNested
import Derived.OrdersIn
set_option linter.unusedVariables false
set_option linter.unusedSimpArgs false
set_option maxHeartbeats 4000000
namespace Go.dV
open Go Go.RowKit
abbrev qy:=TypeId×Bool
inductive Slot where
 |tmp (t:Nat)
 |cell (id i:Nat)
 deriving DecidableEq
structure Jh where
 own:List (Nat×TypeId):=[]
 boxes:List (Nat×List (Nat×TypeId)):=[]
 drop:List Nat:=[]
def Jh.ex(a:Jh):Bool:=a.drop.contains 1000002
structure Head where
 v0:Nat
 jg:List (Slot×Ty×Option qy)
 st:St
 keep:List Tag
def Head.size(h:Head):Nat:=h.jg.length
def JW:Ty→Option (Ty×TypeId)
 |.fx (.fn T kt)=>some (kt,T)
 |_=>none
def l5(v:Nat)(ty:Ty):Option qy→SC
 |none=>match JW ty with
  |some (kt,T)=>.xD (.var v) kt T
  |none=>.iW (.var v) ty
 |some (_,false)=>.own (v,0) (.var v) ty
 |some (_,true)=>.xo (v,1000) ty
def m8(v:Nat)(T:qy):Tag:=(v,if T.2 then 1000 else 0)
theorem Ng(v:Nat)(T:qy):(m8 v T).ex=T.2:=by obtain⟨T,_|_⟩:=T<;>rfl
def nN(ty:Ty):Option qy→Ty
 |none=>match JW ty with
  |some (kt,_)=>.list kt
  |none=>ty
 |some _=>.list ty
def mX(σ:St):Slot→Option SC
 |.tmp t=>match σ.tm t with
  |some ([],.one c)=>some c
  |_=>none
 |.cell id i=>match σ.hp id with
  |some (_,cs)=>cs[i]?
  |none=>none
def n7(σ:St)(x:Slot×Ty×Option qy):Option (E×Option Tag):=
 match mX σ x.1 with
 |some c=>
  match x.2.2 with
  |none=>match JW x.2.1 with
   |some (kt,T)=>match c with
    |.xD e kt' T'=>if kt'=kt∧T'=T then some (e,none) else none
    |_=>none
   |none=>match asData c with
    |some (e,t)=>if t=x.2.1 then some (e,none) else none
    |none=>none
  |some T=>match c with
   |.po t=>if t=x.2.1 then some (.nil,none) else none
   |.own g _ t=>match σ.live g with
    |some (e,T',t')=>if t=x.2.1∧T'=T.1∧t'=x.2.1∧T.2=false∧g.ex=false then some (e,some g) else none
    |none=>none
   |.xo g t=>match σ.live g with
    |some (e,T',t')=>if t=x.2.1∧T'=T.1∧t'=x.2.1∧T.2=true∧g.ex=true then some (e,some g) else none
    |none=>none
   |_=>none
 |none=>none
def uT(σ:St):List (Slot×Ty×Option qy)→Option (List (E×Option Tag))
 | [] =>some []
 |x::r=>match n7 σ x,uT σ r with
  |some y,some ys=>some (y::ys)
  |_,_=>none
def qL(s:Slot):List (Slot×Ty×Option qy)→Nat→Option (Nat×Ty×Option qy)
 | [],_=>none
 |x::r,j=>if x.1=s then some (j,x.2) else qL s r (j+1)
def SC.ids(n:Nat):SC→Bool
 |.own g _ _=>g.1<n
 |.r9 id _=>id<n
 |.xo g _=>g.1<n
 |.xC g _ _ _=>g.1<n
 |.Hp id=>id<n
 |_=>true
def SV.ids(n:Nat):SV→Bool
 |.one c=>c.ids n
 |.agg l=>l.all (SC.ids n)
 |.fx l=>l.all fun x=>x.2.all (SC.ids n)
def aoO(n:Nat)(h:Head)(σ:St):Bool:=(List.range n).all fun t=>
 match h.st.tm t with
 |none=>true
 |some (c,s)=>match qL (.tmp t) h.jg 0 with
  |some (j,ty,T)=>decide (c=[] ∧s= .one (l5 (h.v0+j) ty T))
  |none=>decide (σ.tm t=some (c,s))&&s.lt h.v0&&s.ids h.v0&&c.all fun x=>x.1.lt h.v0
def vg(h:Head)(id:Nat):Nat→List SC→List SC→Bool
 |_,[],[] =>true
 |i,c::r,c'::r'=>(match qL (.cell id i) h.jg 0 with
  |some (j,ty,T)=>decide (c=l5 (h.v0+j) ty T)
  |none=>decide (c'=c)&&c.lt h.v0&&c.ids h.v0&&c.scalar)&&vg h id (i+1) r r'
 |_,_,_=>false
def aoP(h:Head)(σ:St):Bool:=(List.range h.v0).all fun id=>
 match h.st.hp id with
 |none=>true
 |some (ro,cs)=>match σ.hp id with
  |some (Ji,tI)=>ro==Ji&&vg h id 0 cs tI
  |none=>false
def Zy(h:Head)(σ:St)(tags:List (Option Tag)):Bool:=h.keep.all fun g=>
 match h.st.live g with
 |none=>true
 |some x=>decide (σ.live g=some x)&&decide (g.1<h.v0)&&x.1.lt h.v0&& !tags.contains (some g)
def Kb(n:Nat)(h:Head)(σ:St):Option (List E):=
 match uT σ h.jg with
 |some vs=>
  let tags:=vs.map (·.2)
  if aoO n h σ&&aoP h σ&&Zy h σ tags&&mB tags&&(h.jg.all fun x=>(nN x.2.1 x.2.2).scalar&&(x.2.2.isNone||decide (0<x.2.1.cells.length))) then some (vs.map (·.1)) else none
 |none=>none
structure M7(n:Nat)(h:Head):Prop where
 tm: ∀t,n≤t→h.st.tm t=none
 hp: ∀id,h.v0≤id→h.st.hp id=none
 live: ∀g x,h.st.live g=some x→g∈h.keep∨ ∃j ty T,h.jg[j]? =some (ty,T)∧ ∃T',T.2=some T'∧g=m8 (h.v0+j) T'∧x=(.var (h.v0+j),T'.1,T.1)
def assigned:Code→List Nat
 |.region _ ops _=>ops.toList.filterMap (·.dst)
 |.seq a b=>assigned a++assigned b
 |.cond _ a b=>assigned a++assigned b
 |.block _ c| .loop c| .scope c=>assigned c
 |_=> []
def dedup:List Nat→List Nat
 | [] => []
 |x::r=>if r.contains x then dedup r else x::dedup r
def wH(ex:Bool)(id:Nat)(owns:List (Nat×TypeId)):Nat→List SC→List (Slot×Ty×Option qy)
 |_,[] => []
 |i,c::r=>
  (match lk owns i,c with
   |some T,.po t=> [(.cell id i,t,some (T,ex))]
   |some T,.own _ _ t=> [(.cell id i,t,some (T,false))]
   |some T,.xo _ t=> [(.cell id i,t,some (T,true))]
   |_,.xD _ kt T=> [(.cell id i,.fx (.fn T kt),none)]
   |_,c=>match asData c with
    |some (_,t)=> [(.cell id i,t,none)]
    |none=> [])++wH ex id owns (i+1) r
def GD(jg:List (Slot×Ty×Option qy))(v0 id:Nat):Nat→List SC→List SC
 |_,[] => []
 |i,c::r=>(match qL (.cell id i) jg 0 with
  |some (j,ty,T)=>l5 (v0+j) ty T
  |none=>c)::GD jg v0 id (i+1) r
def HH:SC→List Tag
 |.own g _ _=> [g]
 |.xo g _=> [g]
 |_=> []
def afF:SV→List Tag
 |.one c=>HH c
 |.agg l=>l.flatMap HH
 |.fx l=>l.flatMap fun x=>x.2.flatMap HH
def vS(v0:Nat):Nat→List (Slot×Ty×Option qy)→List (Tag×(E×TypeId×Ty))
 |_,[] => []
 |j,(_,ty,T)::r=>(match T with
  |some T=> [(m8 (v0+j) T,(E.var (v0+j),T.1,ty))]
  |none=> [])++vS v0 (j+1) r
def KN(ex:Bool)(σ:St)(owns:List (Nat×TypeId))(id:Nat):List (Slot×Ty×Option qy):=
 match σ.hp id with
 |some (false,cs)=>wH ex id owns 0 cs++cs.flatMap fun c=>match c with
  |.Hp m=>(match σ.hp m with|some (false,ms)=>wH ex m [] 0 ms|_=> [])
  |.r9 m 0=>(match σ.hp m with|some (false,ms)=>wH ex m (owns.filterMap fun x=>if 1000≤x.1 then some (x.1-1000,x.2) else none) 0 ms|_=> [])
  |_=> []
 |_=> []
def xM(n:Nat)(ann:Jh)(A0:List Nat)(σ:St)(v0:Nat):Head:=
 let A:=dedup A0
 let ts:=A.filterMap fun t=>
  if ann.drop.contains t then none else
  match σ.tm t with
  |some ([],.one c)=>match lk ann.own t,c with
   |some T,.po ty=>some (Slot.tmp t,ty,some (T,ann.ex))
   |some T,.own _ _ ty=>some (Slot.tmp t,ty,some (T,false))
   |some T,.xo _ ty=>some (Slot.tmp t,ty,some (T,true))
   |_,c=>match asData c with
    |some (_,ty)=>some (Slot.tmp t,ty,none)
    |none=>none
  |_=>none
 let bs:=ann.boxes.flatMap fun x=>
  match σ.tm x.1 with
  |some ([],.one (.r9 id 0))=>KN ann.ex σ x.2 id
  |some ([],.one (.Hp id))=>KN ann.ex σ x.2 id
  |_=> []
 let jg:=ts++bs
 let gone:=(jg.filterMap fun x=>n7 σ x).filterMap (·.2)
 let keep:=(((List.range n).flatMap fun t=>match σ.tm t with|some (_,s)=>afF s|none=> [])++
  ((List.range v0).flatMap fun id=>match σ.hp id with|some (_,cs)=>cs.flatMap HH|none=> [])).filter fun g=> !gone.contains g
 let nl:=vS v0 0 jg
 {v0,jg,keep,
  st:={
   tm:=fun t=>if t<n then(if A.contains t then(match qL (.tmp t) jg 0 with|some (j,ty,T)=>some ([],.one (l5 (v0+j) ty T))|none=>none) else σ.tm t) else none
   hp:=fun id=>if id<v0 then(match σ.hp id with|some (ro,cs)=>some (ro,GD jg v0 id 0 cs)|none=>none) else none
   live:=fun g=>match lk nl g with|some x=>some x|none=>if keep.contains g then σ.live g else none}}
theorem Bm: ∀{l:List (Slot×Ty×Option qy)} {v0 k:Nat} {g:Tag} {x:E×TypeId×Ty},lk (vS v0 k l) g=some x→ ∃j ty T,l[j]? =some (ty,T)∧ ∃T',T.2=some T'∧g=m8 (v0+(k+j)) T'∧x=(.var (v0+(k+j)),T'.1,T.1)
 | [],_,_,_,_,h=>by cases h
 |(s,ty,T)::r,v0,k,g,x,h=>by
  have step: ∀{y},lk (vS v0 (k+1) r) g=some y→ ∃j ty' T',((s,ty,T)::r)[j]? =some (ty',T')∧ ∃T'',T'.2=some T''∧g=m8 (v0+(k+j)) T''∧y=(.var (v0+(k+j)),T''.1,T'.1):=by
   intro y hy
   obtain⟨j,ty',T',h1,h3⟩:=Bm hy
   refine⟨j+1,ty',T',by simpa using h1,?_⟩
   rw[show k+(j+1)=k+1+j by omega];exact h3
  cases T with
  |none=>simp only[vS,eI]at h;exact step h
  |some T0=>
   simp only[vS,er,eI,lk]at h
   split at h
   ·rename_i hg
    injection h with h
    exact⟨0,s,(ty,some T0),rfl,T0,rfl,hg,h.symm⟩
   ·exact step h
theorem QY(n:Nat)(ann:Jh)(A:List Nat)(σ:St)(v0:Nat):M7 n (xM n ann A σ v0) where
 tm t ht:=by simp only[xM];rw[if_neg (by omega)]
 hp id fD:=by
  have h:v0≤id:=fD
  simp only[xM];rw[if_neg (by omega)]
 live g x hx:=by
  simp only[xM]at hx
  split at hx
  ·rename_i y hy
   injection hx with hx;subst hx
   obtain⟨j,ty,T,h1,h3⟩:=Bm hy
   rw[ay]at h3
   exact .inr ⟨j,ty,T,h1,h3⟩
  ·split at hx
   ·rename_i hk
    exact .inl (by simpa [xM]using hk)
   ·cases hx
def gJ(ρ:Nat→D)(v0:Nat)(xs:List D):Nat→D:=fun i=>if v0≤i∧i<v0+xs.length then xs.getD (i-v0) .top else ρ i
theorem OW{ρ:Nat→D}{v0:Nat}{xs:List D}{i:Nat}(h:i<v0):gJ ρ v0 xs i=ρ i:=by unfold gJ;rw[if_neg (by omega)]
theorem YF{ρ:Nat→D}{v0:Nat}{xs:List D}{j:Nat}{d:D}(h:xs[j]? =some d):gJ ρ v0 xs (v0+j)=d:=by
 have hl:j<xs.length:=(aH.1 h).1
 unfold gJ
 rw[if_pos ⟨by omega,by omega⟩,show v0+j-v0=j by omega]
 exact hZ h
theorem qR{s:Slot}: ∀{l:List (Slot×Ty×Option qy)} {k j:Nat} {y:Ty×Option qy},qL s l k=some (j,y)→k≤j∧l[j-k]? =some (s,y)
 | [],_,_,_,h=>by cases h
 |x::r,k,j,y,h=>by
  simp only[qL]at h
  split at h
  ·rename_i hx
   obtain⟨rfl,rfl⟩:=jC h
   refine⟨bn _,?_⟩
   rw[Nat.sub_self,←hx];rfl
  ·obtain⟨h1,h2⟩:=qR h
   refine⟨by omega,?_⟩
   rw[show j-k=(j-(k+1))+1 by omega]
   simpa using h2
theorem zt{σ:St}: ∀{l:List (Slot×Ty×Option qy)} {vs:List (E×Option Tag)},uT σ l=some vs→vs.length=l.length∧ ∀(j:Nat) x y,l[j]? =some x→vs[j]? =some y→n7 σ x=some y
 | [],vs,h=>by simp only[uT,ae]at h;subst h;exact⟨rfl,by intro j x y hj;simp at hj⟩
 |x::r,vs,h=>by
  simp only[uT]at h
  split at h
  ·rename_i y ys h1 h2
   injection h with h;subst h
   obtain⟨k1,k2⟩:=zt h2
   refine⟨by simp[k1],fun j x' y' hx hy=> ?_⟩
   cases j with
   |zero=>simp at hx hy;subst hx;subst hy;exact h1
   |succ j=>exact k2 j x' y' (by simpa using hx) (by simpa using hy)
  ·cases h
section
variable{C:Cx}{G:Gh}{w w0:World}{S0:iu}{σ:St}{a:Act}{n:Nat}
theorem tJ.shrink{c:SC}{v:Value}{v0:Nat}{C':Cx}{G':Gh}(h:tJ C w G c v)(bP:c.lt v0=true)(fD:c.ids v0=true)(wL: ∀i,i<v0→C'.ρ i=C.ρ i)(hN:v0≤C'.N)(hM: ∀i,i<v0→C'.M i)
  (hS:G'.S=G.S) (Lo: ∀i,i<v0→G'.β i=G.β i) (iI: ∀g:Tag,g.1<v0→G'.τ g=G.τ g):tJ C' w G' c v:=by
 have dn: ∀{e:E},e.lt v0=true→den C'.ρ e=den C.ρ e:=fun he=>dU wL he
 have up: ∀{e:E},e.lt v0=true→e.lt C'.N=true:=by
  intro e
  induction e with
  |var i=>intro he;simp only[E.lt,bQ]at he⊢;omega
  |aT|ff|Fo|gW|nil=>intro _;rfl
  |cons a b rG rF=>intro he;simp only[E.lt,bc]at he⊢;exact⟨rG he.1,rF he.2⟩
  |un o e ih=>intro he;exact ih he
  |bin o a b rG rF=>intro he;simp only[E.lt,bc]at he⊢;exact⟨rG he.1,rF he.2⟩
  |ite c a b PB rG rF=>intro he;simp only[E.lt,bc]at he⊢;exact⟨⟨PB he.1.1,rG he.1.2⟩,rF he.2⟩
 cases c with
 |iW e t=>exact⟨up bP,by rw[dn bP,hS];exact h.2.1,by rw[dn bP];exact h.2.2⟩
 |po t=>exact h
 |own g e t=>
  have hg:g.1<v0:=by simpa [SC.ids]using fD
  obtain⟨_,_,h3,h4,h5⟩:=h
  exact⟨hM _ hg,up bP,by rw[dn bP,hS];exact h3,by rw[dn bP];exact h4,by rw[iI g hg];exact h5⟩
 |clip e t=>
  obtain⟨_,h3,h4,b,h5⟩:=h
  exact⟨up bP,by rw[dn bP,hS];exact h3,by rw[dn bP];exact h4,b,by rw[dn bP];exact h5⟩
 |r9 id off=>
  have hg:id<v0:=by simpa [SC.ids]using fD
  exact⟨hM _ hg,by rw[Lo id hg];exact h.2⟩
 |C7 l i t off=>
  simp only[SC.lt,bc]at bP
  obtain⟨_,_,b,o,u,hv,hh,hc⟩:=h
  have e1:den C'.ρ (.bin .idx l i)=den C.ρ (.bin .idx l i):=dn (by simp[E.lt,bP])
  exact⟨up bP.1,up bP.2,b,o,u,hv,by rw[e1];exact hh,by rw[e1,hS];exact hc⟩
 |CX e fs off=>
  obtain⟨_,b,l,u,hd,hh,hv,hc⟩:=h
  exact⟨up bP,b,l,u,by rw[dn bP];exact hd,hh,hv,by rw[hS];exact hc⟩
 |xo g t=>
  have hg:g.1<v0:=by simpa [SC.ids]using fD
  exact⟨hM _ hg,by rw[iI g hg];exact h.2.1,h.2.2⟩
 |xC g i t off=>
  have hg:g.1<v0:=by simpa [SC.ids]using fD
  obtain⟨_,_,b,cap,n,h1,h2,h3,h4⟩:=h
  have lP:i.lt v0=true:=bP
  exact⟨hM _ hg,up lP,b,cap,n,by rw[iI g hg];exact h1,by rw[dn lP];exact h2,by rw[dn lP];exact h3,by rw[dn lP];exact h4⟩
 |Hp id=>
  have hg:id<v0:=by simpa [SC.ids]using fD
  exact⟨hM _ hg,by rw[Lo id hg];exact h.2⟩
 |L1=>exact h
 |xD e kt T=>exact h.elim
theorem SV.I7{s:SV}{v:Value}{v0:Nat}{C':Cx}{G':Gh}(h:Ab C w G s v)(bP:s.lt v0=true)(fD:s.ids v0=true)
  (mf: ∀{c:SC} {u:Value},tJ C w G c u→c.lt v0=true→c.ids v0=true→tJ C' w G' c u):Ab C' w G' s v:=by
 cases s with
 |one c=>exact mf h bP fD
 |agg l=>
  obtain⟨vs,h1,h2,h3⟩:=h
  simp only[SV.lt,SV.ids,cn]at bP fD
  exact⟨vs,h1,h2,fun i c u hc hu=>mf (h3 i c u hc hu) (bP c (ca hc)) (fD c (ca hc))⟩
 |fx l=>
  obtain⟨vs,h1,h2,h3⟩:=h
  simp only[SV.lt,SV.ids,cn]at bP fD
  refine⟨vs,h1,h2,fun i x u hx hu=> ?_⟩
  have hm:=ca hx
  have h4:=h3 i x u hx hu
  unfold nJ at h4⊢
  split
  ·rename_i wW
   rw[if_pos wW]at h4
   obtain⟨us,h5,h6,h7⟩:=h4
   exact⟨us,h5,h6,fun i c u hc hu=>mf (h7 i c u hc hu) (bP x hm c (ca hc)) (fD x hm c (ca hc))⟩
  ·rename_i wW
   rw[if_neg wW]at h4
   obtain⟨c,h5,h6⟩:=h4
   exact⟨c,h5,mf h6 (bP x hm c (by rw[h5];simp)) (fD x hm c (by rw[h5];simp))⟩
theorem zC{h:Head}{id:Nat}: ∀{k:Nat} {l l':List SC},vg h id k l l'=true→l.length=l'.length∧ ∀(i:Nat) c c',l[i]? =some c→l'[i]? =some c'→
  (∃j ty T,qL (.cell id (k+i)) h.jg 0=some (j,ty,T)∧c=l5 (h.v0+j) ty T)∨(c'=c∧c.lt h.v0=true∧c.ids h.v0=true∧c.scalar=true)
 |k,[],[],_=>⟨rfl,by intro i c c' hi;simp at hi⟩
 |k,c::r,c'::r',hf=>by
  simp only[vg,bc]at hf
  obtain⟨h1,h2⟩:=hf
  obtain⟨k1,k2⟩:=zC h2
  refine⟨by simp[k1],fun i x x' hx lv=> ?_⟩
  cases i with
  |zero=>
   simp at hx lv;subst hx;subst lv
   split at h1
   ·rename_i j ty T hs
    exact .inl ⟨j,ty,T,hs,by simpa using h1⟩
   ·simp only[bc,bQ]at h1
    exact .inr ⟨h1.1.1.1,h1.1.1.2,h1.1.2,h1.2⟩
  |succ i=>
   have:=k2 i x x' (by simpa using hx) (by simpa using lv)
   rw[show k+(i+1)=k+1+i by omega];exact this
 |_,[],_::_,h=>by cases h
 |_,_::_,[],h=>by cases h
def akV(G:Gh)(σ:St)(b:Nat):Prop:=(∃id y,σ.hp id=some y∧b=G.β id)∨ ∃g y,σ.live g=some y∧(G.τ g).ownBlock=some b
theorem Rf{h:Head}{es:List E}{ρ0:Nat→D}(hs:iq n w0 S0 C G σ a w)(cI:M7 n h)(lz:Kb n h σ=some es)(aeM: ∀i,i<h.v0→ρ0 i=C.ρ i)(o9: ∀i b,S0.si i=some b→i<h.v0):
  es.length=h.size∧(∀(j:Nat) x e,h.jg[j]? =some x→es[j]? =some e→Has (nN x.2.1 x.2.2) (den C.ρ e))∧
  ∃G',(G'.S=G.S∧G'.β=G.β∧ ∀b,akV G' h.st b→akV G σ b)∧iq n w0 S0 ⟨gJ ρ0 h.v0 (es.map (den C.ρ)),h.v0+h.size,fun i=>i<h.v0+h.size⟩ G' h.st a w:=by
 unfold Kb at lz
 split at lz
 ·rename_i vs RZ
  simp only at lz
  split at lz
  ·rename_i hc
   injection lz with lz
   simp only[bc]at hc
   obtain⟨⟨⟨⟨yd,ug⟩,Ch⟩,uj⟩,Hc⟩:=hc
   obtain⟨zX,hvg⟩:=zt RZ
   have Fu:es.length=h.size:=by rw[←lz,aw,zX];rfl
   have alK: ∀(j:Nat) x,vs[j]? =some x→es[j]? =some x.1:=by intro j x hx;rw[←lz,ah,hx];rfl
   let gN:=gJ ρ0 h.v0 (es.map (den C.ρ))
   let C':Cx:=⟨gN,h.v0+h.size,fun i=>i<h.v0+h.size⟩
   let τ':Tag→Value:=fun g=>if h.v0≤g.1 then(match vs[g.1-h.v0]? with|some (_,some g')=>G.τ g'|_=>.slice none 0 0) else G.τ g
   let G':Gh:=⟨G.S,G.β,τ'⟩
   have wL: ∀i,i<h.v0→C'.ρ i=C.ρ i:=fun i hi=>(OW hi).trans (aeM i hi)
   have iI: ∀g:Tag,g.1<h.v0→G'.τ g=G.τ g:=fun g hg=>if_neg (by omega)
   have C0: ∀(j:Nat) x,vs[j]? =some x→ ∀q:Nat,G'.τ (h.v0+j,q)=(match x.2 with|some g'=>G.τ g'|none=>.slice none 0 0):=by
    intro j x hx q
    show(if h.v0≤h.v0+j then _ else _)=_
    rw[if_pos (by omega)]
    simp only[Nat.add_sub_cancel_left,hx]
    obtain⟨e,_|g'⟩:=x<;>rfl
   have shrink: ∀{c:SC} {u:Value},tJ C w G c u→c.lt h.v0=true→c.ids h.v0=true→tJ C' w G' c u:=fun h1 h2 h3=>h1.shrink h2 h3 wL (cP _ _) (fun i hi=>ar hi (cP _ _)) rfl (fun _ _=>rfl) iI
   have gA: ∀(j:Nat) x,vs[j]? =some x→den C'.ρ (.var (h.v0+j))=den C.ρ x.1:=by
    intro j x hx
    show gJ ρ0 h.v0 _ _=_
    exact YF (by rw[ah,alK j x hx];rfl)
   have aff: ∀{j:Nat} {x},h.jg[j]? =some x→h.v0+j<h.v0+h.size:=by
    intro j x hx;have:=(aH.1 hx).1;unfold Head.size;omega
   have Ss: ∀{j:Nat} {x},h.jg[j]? =some x→ ∃y,vs[j]? =some y∧n7 σ x=some y:=by
    intro j x hx
    have hj:j<vs.length:=by rw[zX];exact(aH.1 hx).1
    exact⟨vs[j],aW hj,hvg j x _ hx (aW hj)⟩
   have slot: ∀{j:Nat} {s:Slot} {ty:Ty} {T:Option qy} {c:SC} {u:Value},h.jg[j]? =some (s,ty,T)→mX σ s=some c→tJ C w G c u→tJ C' w G' (l5 (h.v0+j) ty T) u∧
     ∀x,vs[j]? =some x→Has (nN ty T) (den C.ρ x.1):=by
    intro j s ty T c u hj mf hr
    obtain⟨y,hy,jo⟩:=Ss hj
    have hd:=gA j y hy
    have bP:=aff hj
    unfold n7 at jo
    simp only[mf]at jo
    cases T with
    |none=>
     simp only at jo
     split at jo
     ·split at jo
      ·exact hr.elim
      ·cases jo
     rename_i LC
     split at jo
     ·rename_i e t av6
      split at jo
      ·rename_i Jp
       injection jo with jo;subst jo;subst Jp
       obtain⟨q1,q2,q3⟩:=mE av6 hr
       simp only[l5,nN,LC]
       refine⟨⟨by simp only[E.lt,bQ];exact bP,by rw[hd];exact q2,by rw[hd];exact q3⟩,fun x hx=> ?_⟩
       rw[hy]at hx;injection hx with hx;subst hx;exact q3
      ·cases jo
     ·cases jo
    |some T0=>
     simp only at jo
     have ir:0<ty.cells.length:=by
      have:=cn.1 Hc _ (ca hj)
      simp at this;exact this.2
     obtain⟨T0,x0⟩:=T0
     split at jo
     ·rename_i t
      split at jo
      ·rename_i Jp
       injection jo with jo;subst jo
       have h0:Has (.list ty) (.list []):=bK.2 ⟨[],rfl,ft _,by simp⟩
       have hu:u= .slice none 0 0:=hr
       refine⟨?_,fun x hx=> ?_⟩
       ·cases x0 with
        |false=>
         refine⟨bP,by simp only[E.lt,bQ];exact bP,?_,by rw[hd];exact h0,by rw[C0 j _ hy];exact hu⟩
         rw[hd,hu];exact .nil none 0
        |true=>exact⟨bP,by rw[C0 j _ hy];exact hu,_,_,_,hu⟩
       ·rw[hy]at hx;injection hx with hx;subst hx;exact h0
      ·cases jo
     ·rename_i g e0 t
      split at jo
      ·rename_i e T' t' cJ
       split at jo
       ·rename_i qt
        obtain⟨rfl,rfl,rfl,jL,ou⟩:=qt
        have jL:x0=false:=jL
        subst jL
        injection jo with jo;subst jo
        have dm:=hs.m.own _ _ _ _ cJ
        have jf:=dm.rep ir ou
        obtain⟨_,_,_,_,hu⟩:=hr
        refine⟨⟨bP,by simp only[E.lt,bQ];exact bP,by rw[hd,hu];exact jf,by rw[hd];exact dm.has,by rw[C0 j _ hy];exact hu⟩,fun x hx=> ?_⟩
        rw[hy]at hx;injection hx with hx;subst hx;exact dm.has
       ·cases jo
      ·cases jo
     ·rename_i g t
      split at jo
      ·rename_i e T' t' cJ
       split at jo
       ·rename_i qt
        obtain⟨rfl,rfl,rfl,jL,ou⟩:=qt
        have jL:x0=true:=jL
        subst jL
        injection jo with jo;subst jo
        have dm:=hs.m.own _ _ _ _ cJ
        obtain⟨_,hu,aeY⟩:=hr
        refine⟨⟨bP,by rw[C0 j _ hy];exact hu,aeY⟩,fun x hx=> ?_⟩
        rw[hy]at hx;injection hx with hx;subst hx;exact dm.has
       ·cases jo
      ·cases jo
     ·cases jo
   have YI: ∀(j:Nat) x e,h.jg[j]? =some x→es[j]? =some e→Has (nN x.2.1 x.2.2) (den C.ρ e):=by
    rintro j ⟨s,ty,T⟩ e hj he
    obtain⟨y,hy,jo⟩:=Ss hj
    have hye:y.1=e:=by have:=alK j y hy;rw[he]at this;injection this with this;exact this.symm
    have aeY: ∃c,mX σ s=some c:=by
     unfold n7 at jo
     cases hq:mX σ s with
     |none=>simp[hq]at jo
     |some c=>exact⟨c,rfl⟩
    obtain⟨c,hc⟩:=aeY
    by_cases hmc: ∃e0 kt0 T0,c= .xD e0 kt0 T0
    ·obtain⟨e0,kt0,T0,rfl⟩:=hmc
     have eW: ∃id ro,σ.hp id=some (ro,[SC.xD e0 kt0 T0])∨ ∃u,tJ C w G (.xD e0 kt0 T0) u:=by
      cases s with
      |tmp t=>
       simp only[mX]at hc
       split at hc
       ·rename_i c' ht'
        injection hc with hc;subst hc
        obtain⟨v,_,_,_,h4⟩:=hs.t t _ _ ht'
        simp only[aU,bW,if_true]at h4
        exact⟨0,false,.inr ⟨v,h4⟩⟩
       ·cases hc
      |cell id i=>
       simp only[mX]at hc
       split at hc
       ·rename_i ro cs fD
        obtain⟨_,_,fZ,_⟩:=hs.m.box _ _ _ fD
        cases mI:mapOf cs with
        |none=>
         obtain⟨G4,T',_,hr⟩:=fZ.cells mI
         have iJ:i<G4.length:=by rw[hr.1];exact(aH.1 hc).1
         exact⟨0,false,.inr ⟨_,hr.2 i _ _ hc (aW iJ)⟩⟩
        |some z=>
         unfold mapOf at mI
         split at mI
         ·cases i with
          |zero=>simp at hc;obtain⟨rfl,rfl,rfl⟩:=hc;exact⟨id,ro,.inl fD⟩
          |succ i=>simp at hc
         ·cases mI
       ·cases hc
     obtain⟨id,ro,fD|⟨u,hu⟩⟩:=eW
     ·obtain⟨_,_,fZ,_⟩:=hs.m.box _ _ _ fD
      obtain⟨_,xz,_⟩:=fZ
      unfold n7 at jo
      simp only[hc]at jo
      cases T with
      |none=>
       simp only at jo
       split at jo
       ·rename_i kt T1 LC
        split at jo
        ·rename_i qt
         obtain⟨rfl,rfl⟩:=qt
         injection jo with jo
         simp only[nN,LC]
         rw[←hye,←jo];exact xz
        ·cases jo
       ·simp[asData]at jo
      |some T1=>simp at jo
     ·exact hu.elim
    have avr: ∃u,tJ C w G c u:=by
     cases s with
     |tmp t=>
      simp only[mX]at hc
      split at hc
      ·rename_i c' ht'
       injection hc with hc;subst hc
       obtain⟨v,_,_,_,h4⟩:=hs.t t _ _ ht'
       simp only[aU,bW,if_true]at h4
       exact⟨v,h4⟩
      ·cases hc
     |cell id i=>
      simp only[mX]at hc
      split at hc
      ·rename_i ro cs fD
       obtain⟨_,_,fZ,_⟩:=hs.m.box _ _ _ fD
       have E2:mapOf cs=none:=by
        unfold mapOf
        split
        ·cases i with
         |zero=>simp at hc;exact absurd ⟨_,_,_,hc.symm⟩ hmc
         |succ i=>simp at hc
        ·rfl
       obtain⟨G4,T',_,hr⟩:=fZ.cells E2
       have iJ:i<G4.length:=by rw[hr.1];exact(aH.1 hc).1
       exact⟨_,hr.2 i c _ hc (aW iJ)⟩
      ·cases hc
    obtain⟨u,hu⟩:=avr
    rw[←hye]
    exact(slot hj hc hu).2 y hy
   refine⟨Fu,YI,G',?_⟩
   have Ht: ∀id ro cs,h.st.hp id=some (ro,cs)→id<h.v0∧ ∃tI,σ.hp id=some (ro,tI)∧vg h id 0 cs tI=true:=by
    intro id ro cs hx
    have fD:id<h.v0:=by
     rcases Nat.lt_or_ge id h.v0 with h1|h1
     ·exact h1
     ·rw[cI.hp id h1]at hx;cases hx
    have:=cn.1 ug id (cW.2 fD)
    simp only[hx]at this
    split at this
    ·rename_i Ji tI afh
     simp only[bc,beq_iff_eq]at this
     exact⟨fD,tI,by rw[afh,this.1],this.2⟩
    ·cases this
   have H4: ∀g x,h.st.live g=some x→(g.1<h.v0∧σ.live g=some x∧x.1.lt h.v0=true∧(∀(j:Nat) y,vs[j]? =some y→y.2≠some g))∨
     (∃j s ty T0 y,h.jg[j]? =some (s,ty,some T0)∧vs[j]? =some y∧g=m8 (h.v0+j) T0∧x=(.var (h.v0+j),T0.1,ty)∧(y.2=none∧y.1= .nil∨ ∃g',y.2=some g'∧σ.live g'=some (y.1,T0.1,ty)∧g'.ex=T0.2)):=by
    intro g x hx
    rcases cI.live g x hx with hk|⟨j,s,T,hj,T0,hT,hg,Lp⟩
    ·have:=cn.1 Ch g hk
     simp only[hx,bc,bQ,gj]at this
     refine .inl ⟨this.1.1.2,this.1.1.1,this.1.2,fun j y hy he=> ?_⟩
     have mN:some g∈vs.map (·.2):=bB.2 ⟨y,ca hy,he⟩
     have h2:=this.2
     rw[List.contains_eq_mem]at h2
     simp[mN]at h2
    ·obtain⟨ty,T⟩:=T
     simp only at hT Lp
     subst hT
     obtain⟨y,hy,jo⟩:=Ss hj
     refine .inr ⟨j,s,ty,T0,y,hj,hy,hg,Lp,?_⟩
     unfold n7 at jo
     simp only at jo
     split at jo
     ·split at jo
      ·split at jo
       ·injection jo with jo;subst jo;exact .inl ⟨rfl,rfl⟩
       ·cases jo
      ·rename_i g0 e0 t _
       split at jo
       ·rename_i e T' t' hl
        split at jo
        ·rename_i qt
         obtain⟨rfl,rfl,rfl,jL,ou⟩:=qt
         injection jo with jo;subst jo
         exact .inr ⟨g0,rfl,hl,ou.trans jL.symm⟩
        ·cases jo
       ·cases jo
      ·rename_i g0 t _
       split at jo
       ·rename_i e T' t' hl
        split at jo
        ·rename_i qt
         obtain⟨rfl,rfl,rfl,jL,ou⟩:=qt
         injection jo with jo;subst jo
         exact .inr ⟨g0,rfl,hl,ou.trans jL.symm⟩
        ·cases jo
       ·cases jo
      ·cases jo
     ·cases jo
   have CJ: ∀g x b,h.st.live g=some x→(G'.τ g).ownBlock=some b→ ∃g0 x0,σ.live g0=some x0∧(G.τ g0).ownBlock=some b∧((g.1<h.v0∧g0=g)∨ ∃j y s ty T0,h.jg[j]? =some (s,ty,some T0)∧vs[j]? =some y∧y.2=some g0∧g=m8 (h.v0+j) T0):=by
    intro g x b hx hb
    rcases H4 g x hx with⟨h1,h2,h3,_⟩|⟨j,s,ty,T0,y,hj,hy,hg,Lp,gY⟩
    ·rw[iI g h1]at hb;exact⟨g,x,h2,hb,.inl ⟨h1,rfl⟩⟩
    ·rw[hg]at hb
     unfold m8 at hb
     rw[C0 j y hy]at hb
     rcases gY with⟨hn,_⟩|⟨g',z6,hl,_⟩
     ·rw[hn]at hb;cases hb
     ·rw[z6]at hb;exact⟨g',_,hl,hb,.inr ⟨j,y,s,ty,T0,hj,hy,z6,hg⟩⟩
   refine⟨⟨rfl,rfl,?_⟩,?_,?_,hs.sz,hs.defers⟩
   ·rintro b (⟨id,y,hy,rfl⟩|⟨g,y,hy,hb⟩)
    ·obtain⟨_,ci,h2,_⟩:=Ht id y.1 y.2 hy
     exact .inl ⟨id,_,h2,rfl⟩
    ·obtain⟨g0,x0,l0,b0,_⟩:=CJ g y b hy hb
     exact .inr ⟨g0,x0,l0,b0⟩
   ·
    refine⟨hs.m.below,hs.m.kW,hs.m.keep,?_,hs.m.mQ,hs.m.dO,hs.m.iN,?_,?_,?_,?_,?_,?_,?_,fun lE g=> ?_,hs.m.wz⟩
    rotate_right
    ·show Cl (kA w0 S0) w G.S (if h.v0≤g.1 then(match vs[g.1-h.v0]? with|some (_,some g')=>G.τ g'|_=>.slice none 0 0) else G.τ g)
     split
     ·split
      ·exact hs.m.fresh lE _
      ·intro a0 n0 Tq ym
       exact .inl rfl
     ·exact hs.m.fresh lE g
    ·intro i b hi
     exact⟨ar (o9 i b hi) (cP _ _),(hs.m.si i b hi).2⟩
    ·intro id x hx
     obtain⟨h1,_⟩:=Ht id x.1 x.2 hx
     exact ar h1 (cP _ _)
    ·intro id ro cs hx
     obtain⟨h1,tI,h2,h3⟩:=Ht id ro cs hx
     obtain⟨b1,b2,fZ,b5⟩:=hs.m.box id ro tI h2
     obtain⟨k1,k2⟩:=zC h3
     cases mI:mapOf tI with
     |some z=>
      unfold mapOf at mI
      split at mI
      ·rename_i e0 kt0 T0
       obtain⟨c,qt⟩:=bO.1 k1
       subst qt
       obtain⟨g1,g2,g3⟩:=fZ
       rcases k2 0 c (.xD e0 kt0 T0) rfl rfl with⟨j,ty,T1,hsi,rfl⟩|⟨he,bP,kz,mf⟩
       ·obtain⟨_,hj⟩:=qR hsi
        rw[Nat.sub_zero,ay]at hj
        obtain⟨y,hy,jo⟩:=Ss hj
        have hd:=gA j y hy
        unfold n7 at jo
        have hso:mX σ (.cell id 0)=some (.xD e0 kt0 T0):=by simp only[mX,h2];rfl
        simp only[hso]at jo
        cases T1 with
        |none=>
         simp only at jo
         split at jo
         ·rename_i kt T2 LC
          split at jo
          ·rename_i qt
           obtain⟨rfl,rfl⟩:=qt
           injection jo with jo
           rw[←jo]at hd
           simp only[l5,LC]
           exact⟨b1,rfl,⟨by simp only[E.lt,bQ];exact aff hj,by rw[hd];exact g2,by rw[hd];exact g3⟩,b5⟩
          ·cases jo
         ·simp[asData]at jo
        |some T1=>simp at jo
       ·subst he
        have Jf:den C'.ρ e0=den C.ρ e0:=dU wL bP
        have hup:e0.lt (h.v0+h.size)=true:=by
         have: ∀{e:E},e.lt h.v0=true→e.lt (h.v0+h.size)=true:=by
          intro e
          induction e with
          |var i=>intro he;simp only[E.lt,bQ]at he⊢;omega
          |aT|ff|Fo|gW|nil=>intro _;rfl
          |cons a b rG rF=>intro he;simp only[E.lt,bc]at he⊢;exact⟨rG he.1,rF he.2⟩
          |un o e ih=>intro he;exact ih he
          |bin o a b rG rF=>intro he;simp only[E.lt,bc]at he⊢;exact⟨rG he.1,rF he.2⟩
          |ite c a b PB rG rF=>intro he;simp only[E.lt,bc]at he⊢;exact⟨⟨PB he.1.1,rG he.1.2⟩,rF he.2⟩
         exact this bP
        exact⟨b1,b2,⟨hup,by rw[Jf];exact g2,by rw[Jf];exact g3⟩,b5⟩
      ·cases mI
     |none=>
     obtain⟨us,T,b3,b4⟩:=fZ.cells mI
     have Pv: ∀(i:Nat) c,cs[i]? =some c→c.scalar=true∧ ∀u,us[i]? =some u→tJ C' w G' c u:=by
      intro i c hc
      have iJ:i<tI.length:=by rw[←k1];exact(aH.1 hc).1
      have Hi:tI[i]? =some tI[i] :=aW iJ
      rcases k2 i c _ hc Hi with⟨j,ty,T1,hsi,rfl⟩|⟨he,bP,kz,mf⟩
      ·obtain⟨_,hj⟩:=qR hsi
       rw[Nat.sub_zero]at hj
       rw[ay]at hj
       have mf:=cn.1 Hc _ (ca hj)
       simp only[bc]at mf
       refine⟨?_,fun u hu=>(slot hj (by simp only[mX,h2];exact Hi) (b4.2 i _ u Hi hu)).1⟩
       cases T1 with
       |none=>
        cases LC:JW ty with
        |none=>simp only[l5,nN,LC]at mf⊢;exact mf.1
        |some z=>simp only[l5,LC];rfl
       |some T1=>obtain⟨T1,_|_⟩:=T1<;>rfl
      ·refine⟨mf,fun u hu=>shrink ?_ bP kz⟩
       have:=b4.2 i _ u Hi hu
       rw[he]at this;exact this
     refine⟨b1,?_,kY.mk (vs:=us) (T:=T) b3 ⟨by rw[b4.1,k1],fun i c u hc hu=>(Pv i c hc).2 u hu⟩,?_⟩
     ·rw[cn]
      intro c hc
      obtain⟨i,hi⟩:=aE hc
      exact(Pv i c hi).1
     ·rw[k1];exact b5
    ·intro i j x y hi hj he
     obtain⟨_,ci,h2,_⟩:=Ht i x.1 x.2 hi
     obtain⟨_,cj,h3,_⟩:=Ht j y.1 y.2 hj
     exact hs.m.inj i j _ _ h2 h3 he
    ·intro g e T t hx
     rcases H4 g _ hx with⟨h1,h2,h3,_⟩|⟨j,s,ty,T0,y,hj,hy,hg,Lp,gY⟩
     ·have ho:=hs.m.own g e T t h2
      have Jf:den C'.ρ e=den C.ρ e:=dU wL h3
      have lP:e.lt (h.v0+h.size)=true:=by
       have:=(shrink (c:=.iW e .bool) (u:=.bool true))
       clear this
       revert h3
       clear hx h2 ho Jf
       induction e with
       |var i=>intro he;simp only[E.lt,bQ]at he⊢;omega
       |aT|ff|Fo|gW|nil=>intro _;rfl
       |cons a b rG rF=>intro he;simp only[E.lt,bc]at he⊢;exact⟨rG he.1,rF he.2⟩
       |un o e ih=>intro he;exact ih he
       |bin o a b rG rF=>intro he;simp only[E.lt,bc]at he⊢;exact⟨rG he.1,rF he.2⟩
       |ite c a b PB rG rF=>intro he;simp only[E.lt,bc]at he⊢;exact⟨⟨PB he.1.1,rG he.1.2⟩,rF he.2⟩
      obtain⟨xs,l,q1,q2,q3,q4⟩:=ho.own
      refine⟨ar h1 (cP _ _),lP,by rw[Jf];exact ho.has,xs,l,by rw[Jf];exact q1,?_,?_,q4⟩
      ·rw[iI g h1];exact q2
      ·rw[iI g h1];exact q3
     ·simp only[ai]at Lp
      obtain⟨rfl,rfl,rfl⟩:=Lp
      have hd:=gA j y hy
      have bP:=aff hj
      subst hg
      have Yd:G'.τ (m8 (h.v0+j) T0)=(match y.2 with|some g'=>G.τ g'|none=>.slice none 0 0):=C0 j y hy _
      have hsx:=Ng (h.v0+j) T0
      rcases gY with⟨hn,Hs⟩|⟨g',z6,hl,hgx⟩
      ·refine⟨bP,by simpa [E.lt]using bP,by rw[hd,Hs];exact bK.2 ⟨[],rfl,ft _,by simp⟩,[],[],by rw[hd,Hs];rfl,?_,?_,by simp⟩
       ·rw[Yd,hn];exact eR w _ _ _
       ·rw[Yd,hn];intro b hb;cases hb
      ·have ho:=hs.m.own _ _ _ _ hl
       obtain⟨xs,l,q1,q2,q3,q4⟩:=ho.own
       refine⟨bP,by simpa [E.lt]using bP,by rw[hd];exact ho.has,xs,l,by rw[hd];exact q1,?_,?_,q4⟩
       ·rw[Yd,z6];exact q2
       ·rw[Yd,z6,hsx,←hgx];exact q3
    ·intro g x b hx hb
     obtain⟨g0,x0,h1,h2,_⟩:=CJ g x b hx hb
     exact hs.m.gS g0 x0 b h1 h2
    ·intro g g' x y b hx hy hb ju
     obtain⟨g0,x0,l0,b0,c0⟩:=CJ g x b hx hb
     obtain⟨g1,x1,l1,b1,c1⟩:=CJ g' y b hy ju
     have he:=hs.m.kM g0 g1 x0 x1 b l0 l1 b0 b1
     subst he
     rcases c0 with⟨h1,rfl⟩|⟨j,z,s,ty,T0,hj,hz,hz2,hg⟩<;>rcases c1 with⟨h2,h3⟩|⟨j',z',s',ty',T0',BT,NZ,ak0,z6⟩
     ·exact h3
     ·rcases H4 g0 x hx with⟨_,_,_,tV⟩|⟨j0,_,_,_,_,_,_,hg0,_,_⟩
      ·exact absurd ak0 (tV j' z' NZ)
      ·rw[hg0]at h1;simp[m8]at h1;omega
     ·subst h3
      rcases H4 g0 y hy with⟨_,_,_,tV⟩|⟨j0,_,_,_,_,_,_,hg0,_,_⟩
      ·exact absurd hz2 (tV j z hz)
      ·rw[hg0]at h2;simp[m8]at h2;omega
     ·have:=tv uj j j' g0 (by rw[ah,hz];simp[hz2]) (by rw[ah,NZ];simp[ak0])
      subst this
      rw[hj]at BT;injection BT with BT;simp only[ai,ae]at BT
      rw[hg,z6,BT.2.2]
    ·intro g id x y b hx hy hb
     obtain⟨g0,x0,l0,b0,_⟩:=CJ g x b hx hb
     obtain⟨_,ci,h2,_⟩:=Ht id y.1 y.2 hy
     exact hs.m.eV g0 id x0 _ b l0 h2 b0
   ·
    intro t c s rH
    have htn:t<n:=by
     rcases Nat.lt_or_ge t n with h1|h1
     ·exact h1
     ·rw[cI.tm t h1]at rH;cases rH
    have:=cn.1 yd t (cW.2 htn)
    simp only[rH]at this
    split at this
    ·rename_i j ty T hsi
     simp only[bQ]at this
     obtain⟨rfl,rfl⟩:=this
     obtain⟨_,hj⟩:=qR hsi
     rw[Nat.sub_zero]at hj
     obtain⟨y,hy,jo⟩:=Ss hj
     have hc: ∃c,σ.tm t=some ([],.one c)∧mX σ (.tmp t)=some c:=by
      unfold n7 at jo
      cases hq:mX σ (.tmp t) with
      |none=>simp[hq]at jo
      |some c=>
       refine⟨c,?_,rfl⟩
       simp only[mX]at hq
       split at hq
       ·rename_i c' h';injection hq with hq;subst hq;exact h'
       ·cases hq
     obtain⟨c,qZ,wP⟩:=hc
     obtain⟨v,h1,_,_,h4⟩:=hs.t t _ _ qZ
     simp only[aU,bW,if_true]at h4
     have hr:=(slot hj wP h4).1
     refine⟨v,h1,by simp,?_,by simp only[aU,bW,if_true];exact hr⟩
     cases T with
     |none=>
      cases LC:JW ty with
      |none=>simp only[l5,LC]at hr⊢;exact hr.1
      |some z=>simp only[l5,LC]at hr;exact hr.elim
     |some T0=>
      obtain⟨T0,_|_⟩:=T0
      ·exact hr.2.1
      ·rfl
    ·simp only[bc,bQ]at this
     obtain⟨⟨⟨h1,h2⟩,h3⟩,h4⟩:=this
     obtain⟨v,q1,q2,q3,q4⟩:=hs.t t c s h1
     have PT: ∀x∈c,x.1.lt h.v0=true:=cn.1 h4
     have up: ∀{e:E},e.lt h.v0=true→e.lt (h.v0+h.size)=true:=by
      intro e
      induction e with
      |var i=>intro he;simp only[E.lt,bQ]at he⊢;omega
      |aT|ff|Fo|gW|nil=>intro _;rfl
      |cons a b rG rF=>intro he;simp only[E.lt,bc]at he⊢;exact⟨rG he.1,rF he.2⟩
      |un o e ih=>intro he;exact ih he
      |bin o a b rG rF=>intro he;simp only[E.lt,bc]at he⊢;exact⟨rG he.1,rF he.2⟩
      |ite c a b PB rG rF=>intro he;simp only[E.lt,bc]at he⊢;exact⟨⟨PB he.1.1,rG he.1.2⟩,rF he.2⟩
     have upC: ∀{c:SC},c.lt h.v0=true→c.lt (h.v0+h.size)=true:=by
      intro c hc;cases c<;>simp only[SC.lt,bc]at hc⊢ <;>first|exact up hc|exact⟨up hc.1,up hc.2⟩
     have mV:aU C'.ρ c=aU C.ρ c:=by
      unfold aU
      rw[dB,cn,cn]
      constructor
      ·intro H x hx;rw[←dU wL (PT x hx)];exact H x hx
      ·intro H x hx;rw[dU wL (PT x hx)];exact H x hx
     refine⟨v,q1,fun x hx=>up (PT x hx),?_,?_⟩
     ·cases s with
      |one c=>exact upC h2
      |agg l=>simp only[SV.lt,cn]at h2⊢;exact fun c hc=>upC (h2 c hc)
      |fx l=>simp only[SV.lt,cn]at h2⊢;exact fun x hx c hc=>upC (h2 x hx c hc)
     ·show if aU C'.ρ c=true then _ else _
      rw[mV]
      split
      ·rename_i qt;rw[if_pos qt]at q4
       exact SV.I7 q4 h2 h3 shrink
      ·rename_i qt;rw[if_neg qt]at q4;exact q4
  ·cases lz
 ·cases lz
theorem KM{h:Head}{es:List E}{ρ0:Nat→D}(hs:iq n w0 S0 C G σ a w)(cI:M7 n h)(lz:Kb n h σ=some es)(aeM: ∀i,i<h.v0→ρ0 i=C.ρ i)(o9: ∀i b,S0.si i=some b→i<h.v0):
  es.length=h.size∧(∀(j:Nat) x e,h.jg[j]? =some x→es[j]? =some e→Has (nN x.2.1 x.2.2) (den C.ρ e))∧
  ∃G',iq n w0 S0 ⟨gJ ρ0 h.v0 (es.map (den C.ρ)),h.v0+h.size,fun i=>i<h.v0+h.size⟩ G' h.st a w:=by
 obtain⟨h1,h2,G',_,h3⟩:=Rf hs cI lz aeM o9
 exact⟨h1,h2,G',h3⟩
end
theorem E.zl{n m:Nat}(h:n≤m): ∀{e:E},e.lt n=true→e.lt m=true:=by
 intro e
 induction e with
 |var i=>intro he;simp only[E.lt,bQ]at he⊢;omega
 |aT|ff|Fo|gW|nil=>intro _;rfl
 |cons a b rG rF=>intro he;simp only[E.lt,bc]at he⊢;exact⟨rG he.1,rF he.2⟩
 |un o e ih=>intro he;exact ih he
 |bin o a b rG rF=>intro he;simp only[E.lt,bc]at he⊢;exact⟨rG he.1,rF he.2⟩
 |ite c a b PB rG rF=>intro he;simp only[E.lt,bc]at he⊢;exact⟨⟨PB he.1.1,rG he.1.2⟩,rF he.2⟩
theorem I2{ρ gN:Nat→D}{n:Nat}(h: ∀i,i<n→gN i=ρ i){c:dI}(hc:(c.all fun x=>x.1.lt n)=true):aU gN c=aU ρ c:=by
 unfold aU
 rw[cn]at hc
 rw[dB,cn,cn]
 constructor
 ·intro H x hx;rw[←dU h (hc x hx)];exact H x hx
 ·intro H x hx;rw[dU h (hc x hx)];exact H x hx
structure JU where
 k:Nat
 g:Tag
 e:E
 T:TypeId
 dst:Option Nat
 unit:Bool
def abP(n:Nat):Option Nat→Bool
 |some d=>decide (d<n)
 |none=>true
def aer(P:Program)(cs:o3)(n:Nat)(σ:St)(o:Oper):Option JU:=
 match o.guard,o.op with
 |none,.call {callee:=.value f,args,argTypes}=>
  match gu P σ [] f 0,args.toList with
  |some (.one (.iW _ (.fn k .nil))),[x] =>
   match lk cs.l k,gu P σ [] x (argTypes.getD 0 0) with
   |some sig,some (.one (.own g _ _))=>
    match sig.ob,σ.live g with
    |some ob,some (e,T,t)=>
     if ob.Ae=true∧t= .int .i64∧abP n o.dst=true then some ⟨k,g,e,T,o.dst,sig.res.isEmpty⟩ else none
    |_,_=>none
   |_,_=>none
  |_,_=>none
 |_,_=>none
def Wq(P:Program)(cs:o3)(σ:St)(o:Oper):Bool:=
 match o.op with
 |.call {callee:=.value f,.. }=>match gu P σ [] f 0 with
  |some (.one (.iW _ (.fn k .nil)))=>match lk cs.l k with
   |some sig=>match sig.ob with
    |some ob=>ob.Ae
    |none=>false
   |none=>false
  |_=>false
 |_=>false
def TB(P:Program)(cs:o3)(σ:St)(ops:Array Oper)(draw:Bool):Option Nat:=
 if draw||cs.fr !=0 then none else(List.range ops.size).find? fun i=>match ops[i]? with
  |some o=>Wq P cs σ o
  |none=>false
theorem V8{P:Program}{cs:o3}{σ:St}{ops:Array Oper}{draw:Bool}{c:Nat}(h:TB P cs σ ops draw=some c):draw=false∧cs.fr=0∧c<ops.size:=by
 unfold TB at h
 split at h
 ·cases h
 ·rename_i hd
  simp only[fB,not_or,Bool.not_eq_true,bne_iff_ne,ne_eq,Decidable.not_not]at hd
  exact⟨hd.1,hd.2,by simpa using List.mem_of_find?_eq_some h⟩
def agZ:SC→Bool
 |.iW _ (.int _)=>true
 |.iW _ .bool=>true
 |_=>false
def abJ(x:JU)(p:Nat)(tm:Nat→Option (dI×SV))(t:Nat):Option (dI×SV):=
 if x.dst=some t then(if x.unit then none else some ([],.one (.own (p,0) (.var p) (.int .i64))))
 else match tm t with
  |some (c,.one s)=>if agZ s then some (c,.one s) else match s with
    |.own g' _ _=>if g'=x.g∧x.unit=true∧c=[] then some ([],.one (.own (p,0) (.var p) (.int .i64))) else none
    |_=>none
  |_=>none
def JU.after(x:JU)(σ:St)(p:Nat):St:=
 ⟨abJ x p σ.tm,fun _=>none,fun y=>if y=(p,0) then some (.var p,x.T,.int .i64) else none⟩
theorem vu{l:List D}(h: ∀x∈l,Has (.int .i64) x): ∃zs:List Int,l=zs.map (D.int .i64):=by
 induction l with
 |nil=>exact⟨[],rfl⟩
 |cons d l ih=>
  obtain⟨zs,rfl⟩:=ih fun x hx=>h x (aI _ hx)
  obtain⟨n,rfl,_⟩:=dA.1 (h d (bI ..))
  exact⟨n::zs,rfl⟩
theorem Ru{w w':World}{b o:Nat}(h:w'.heap[b]? =w.heap[b]?):w'.cell? ⟨b,o,none⟩=w.cell? ⟨b,o,none⟩:=by
 simp only[World.cell?,h]
theorem Vg{w:World}{base:Nat}{T:TypeId}{v:Value}{m:Nat}{xs:List Value}(h:w.ownsRow base T 1 v m xs){b:Nat}(hb:v.ownBlock=some b):b<w.heap.size:=by
 rcases h.2 with⟨rfl,_⟩|⟨g,cap,cur,rfl,_,hg,_⟩
 ·cases hb
 ·simp only[Value.ownBlock,ae]at hb
  subst hb
  exact(aK.1 hg).1
section
variable{P:Program}{w w0:World}{S0:iu}{ρ:Nat→D}{p:Nat}{G:Gh}{σ:St}{a:Act}{n:Nat}
theorem j7.ints{C:Cx}{g:Tag}{e:E}{T:TypeId}(h:j7 C w 0 G g e T (.int .i64)): ∃zs:List Int,den C.ρ e= .list (zs.map (D.int .i64))∧w.ownsRow 0 T 1 (G.τ g) zs.length (zs.map (Value.int .i64)):=by
 obtain⟨xs,l,hl,dm,_,hr⟩:=h.own
 have hh:=h.has
 rw[hl]at hh
 obtain⟨_,h1,_,h2⟩:=bK.1 hh
 injection h1 with h1;subst h1
 obtain⟨zs,rfl⟩:=vu h2
 refine⟨zs,hl,?_⟩
 have e1:xs=zs.map (Value.int .i64):=by
  apply gi
  intro i
  have hlen:xs.length=zs.length:=by
   have h:xs.length=(zs.map (D.int .i64)).length*1:=dm.1
   rw[aw,cd]at h;exact h
  by_cases hi:i<zs.length
  ·have hx:xs[i]? =some xs[i] :=aW (by omega)
   have hz:(zs.map (D.int .i64))[i]? =some (.int .i64 zs[i]):=by simp[hi]
   have:=hr i _ 0 xs[i] (.int .i64 zs[i]) hz rfl (by show xs[i*1+0]? =_;rw[cd,ep];exact hx)
   rw[hx,this.cX];simp[hi]
  ·rw[fM (by omega),fM (by simp;omega)]
 have yJ:w.ownsRow 0 T 1 (G.τ g) (zs.map (D.int .i64)).length xs:=dm
 rw[aw]at yJ
 rw[←e1];exact yJ
theorem iq.agn{x:JU}{u v':Value}{ys:List Int}{w':World}(hs:iq n w0 S0 ⟨ρ,p,fun i=>i<p⟩ G σ a w)(wM: ∀b o,S0.kJ b o→ ¬kA w0 S0 b)(hg: ∃e,σ.live x.g=some (e,x.T,.int .i64))
  (eT: ∀d,x.dst=some d→d<n) (qp: ¬S0.fr) (mg: ¬S0.wz) (hh:Has (.list (.int .i64)) (.list (ys.map (D.int .i64)))) (ho:acU w x.T (G.τ x.g) x.unit ys u v' w'):
  ∃G',iq n w0 S0 ⟨fU ρ p (.list (ys.map (D.int .i64))),p+1,fun i=>i<p+1⟩ G' (x.after σ p) (a.put x.dst u) w':=by
 obtain⟨e,hg⟩:=hg
 have fZ: ∀b,v'.ownBlock=some b→kA w0 S0 b:=fun b hb=>hs.m.gS x.g _ b hg (by rw[←ho.CJ];exact hb)
 have abI: ∀b,(G.τ x.g).ownBlock=some b→kA w0 S0 b:=fun b hb=>hs.m.gS x.g _ b hg hb
 have mU: ∀b o,S0.kJ b o→w'.heap[b]? =w.heap[b]? :=fun b o hb=>ho.below.block b (hs.m.dO b o (hs.m.kW b o hb)) (fun h=>wM b o hb (abI b h))
 have CI: ∀i,i<p→(fU ρ p (.list (ys.map (D.int .i64)))) i=ρ i:=fun i hi=>fJ _ _ (by omega)
 have hv:den (fU ρ p (.list (ys.map (D.int .i64)))) (.var p)= .list (ys.map (D.int .i64)):=eB _ _ _
 have jf: ∀(S:bU),(∀b,v'.ownBlock=some b→ ∀o,o<ys.length→S b o)→cH w' S v' (.list (ys.map (D.int .i64))):=by
  intro S hS
  rcases ho.own.2 with⟨rfl,h0⟩|⟨gb,cap,cur,rfl,_,jq,hle,_,iY,LB⟩
  ·have:ys=[] :=au h0
   subst this;exact .nil none 0
  ·cases PC:ys with
   |nil=>exact .nil _ _
   |cons y0 yr=>
    rw[←PC]
    have hlen:(ys.map (D.int .i64)).length=ys.length:=by simp
    have:=cH.list (w:=w') (S:=S) gb 0 cap 1 (ys.map (Value.int .i64)) (ys.map (D.int .i64)) (by omega) (by rw[PC];simp) (by simpa using hle) (by simp)
     (fun i hi=>by rw[ay];exact hS gb rfl i (by simpa using hi))
     (fun i v hi=>by
      rw[cell_of_row w' gb (0+i) cur x.T (0,0) jq,ay]
      have h1:(cur.toList.take (ys.length*1))[i]? =some v:=by rw[LB];exact hi
      rw[aG]at h1
      split at h1
      ·simpa using h1
      ·cases h1)
     (fun i d hd=>by
      simp only[ah,da]at hd
      obtain⟨z,_,rfl⟩:=hd;rfl)
     (fun i d j v c hd hc hx=>by
      simp only[ah,da]at hd
      obtain⟨z,hz,rfl⟩:=hd
      cases j with
      |succ j=>simp[D.cells]at hc
      |zero=>
       simp only[D.cells,dt,ae]at hc;subst hc
       rw[cd,ep,ah,hz]at hx
       simp only[aP,ae]at hx;subst hx
       exact .int _ _)
    rwa [hlen]at this
 let S':bU:=fun b o=>S0.kJ b o∨(v'.ownBlock=some b∧o<ys.length)
 have XR: ∀b,v'.ownBlock=some b→ ∀o,S' b o↔o<ys.length:=fun b hb o=>
  ⟨fun h=>h.elim (fun h=>absurd (fZ b hb) (wM b o h)) (fun h=>h.2),fun h=>.inr ⟨hb,h⟩⟩
 have aoc:=jf S' (fun b hb o h=>(XR b hb o).2 h)
 let G':Gh:=⟨S',G.β,fun y=>if y=(p,0) then v' else G.τ y⟩
 have iI:G'.τ (p,0)=v':=if_pos rfl
 have hM:(fun i=>i<p+1) p:=fb p
 have Yg:(E.var p).lt (p+1)=true:=by simp[E.lt]
 have dm:j7 ⟨fU ρ p (.list (ys.map (D.int .i64))),p+1,fun i=>i<p+1⟩ w' 0 G' (p,0) (.var p) x.T (.int .i64):=by
  refine⟨hM,Yg,by rw[hv];exact hh,ys.map (Value.int .i64),ys.map (D.int .i64),hv,?_,?_,?_⟩
  ·rw[iI,aw];exact ho.own
  ·intro b hb o
   rw[iI]at hb
   rw[aw];exact(XR b hb o).trans ⟨fun h=>⟨rfl,h⟩,And.right⟩
  ·intro i d j v c hd hc hx
   simp only[ah,da]at hd
   obtain⟨z,hz,rfl⟩:=hd
   cases j with
   |succ j=>simp[D.cells]at hc
   |zero=>
    simp only[D.cells,dt,ae]at hc;subst hc
    have e1:(Ty.int .i64).cells.length=1:=rfl
    rw[e1,cd,ep,ah,hz]at hx
    simp only[aP,ae]at hx;subst hx
    exact .int _ _
 have cJ: ∀y z,(x.after σ p).live y=some z→y=(p,0)∧z=(.var p,x.T,.int .i64):=by
  intro y z hy
  simp only[JU.after]at hy
  split at hy
  ·rename_i h;injection hy with hy;exact⟨h,hy.symm⟩
  ·cases hy
 have mf:tJ ⟨fU ρ p (.list (ys.map (D.int .i64))),p+1,fun i=>i<p+1⟩ w' G' (.own (p,0) (.var p) (.int .i64)) v':=
  ⟨hM,Yg,by rw[hv];exact aoc,by rw[hv];exact hh,iI.symm⟩
 refine⟨G',⟨⟨?_,fun b o h=>.inl h,?_,?_,hs.m.mQ,?_,?_,?_,?_,?_,?_,?_,?_,?_,fun h=>absurd h qp,fun h=>absurd h mg⟩,?_,by rw[Act.DW];exact hs.sz,by rw[Act.O5];exact hs.defers⟩⟩
 ·refine⟨ho.below.os.trans hs.m.below.os,ho.below.tape.trans hs.m.below.tape,ho.below.output.trans hs.m.below.output,aR hs.m.below.size ho.below.size,fun k hk yf=> ?_⟩
  rw[ho.below.block k (ar hk hs.m.below.size) (fun h=>(abI k h).elim (fun h=>absurd hk (Nat.not_lt.2 h)) yf),hs.m.below.block k hk yf]
 ·intro b o h
  rw[Ru (mU b o h)];exact hs.m.keep b o h
 ·intro i b hi
  obtain⟨h1,h2⟩:=hs.m.si i b hi
  exact⟨Nat.lt_succ_of_lt h1,h2⟩
 ·rintro b o (h|⟨h,_⟩)
  ·exact ar (hs.m.dO b o (hs.m.kW b o h)) ho.below.size
  ·exact Vg ho.own h
 ·rintro b o (h|⟨h,_⟩)
  ·exact .inl h
  ·exact .inr (fZ b h)
 ·intro id y hy;cases hy
 ·intro id ro cs hy;cases hy
 ·intro i j y z hy;cases hy
 ·intro g' e' T' t' hy
  obtain⟨rfl,h2⟩:=cJ _ _ hy
  simp only[ai]at h2
  obtain⟨rfl,rfl,rfl⟩:=h2
  exact dm
 ·intro g' z b hy hb
  obtain⟨rfl,_⟩:=cJ _ _ hy
  rw[iI]at hb;exact fZ b hb
 ·intro g1 g2 y z b h1 h2 _ _
  rw[(cJ _ _ h1).1,(cJ _ _ h2).1]
 ·intro g' id y z b _ hy;cases hy
 ·intro t c s ht
  simp only[JU.after,abJ]at ht
  split at ht
  ·rename_i hd
   split at ht
   ·cases ht
   ·rename_i hu
    simp only[ae,ai]at ht
    obtain⟨rfl,rfl⟩:=ht
    have fi:=ho.res
    rw[if_neg hu]at fi
    subst fi
    have bP:t<a.tmps.size:=by rw[hs.sz];exact eT t hd
    refine⟨u,by rw[hd];simp[Act.put,bP],by simp,Yg,?_⟩
    have:aU (fU ρ p (.list (ys.map (D.int .i64)))) ([] :dI)=true:=rfl
    rw[if_pos this];exact mf
  ·rename_i hd
   have alh: ∀v,a.tmps[t]? =some v→(a.put x.dst u).tmps[t]? =some v:=by
    intro v hv
    unfold Act.put
    cases z8:x.dst with
    |none=>exact hv
    |some d=>
     have fY:d≠t:=fun h=>hd (by rw[z8,h])
     simp only
     rw[Array.getElem?_setIfInBounds_ne fY];exact hv
   split at ht
   ·rename_i c' s' oZ
    obtain⟨v,h1,h2,h0,h3⟩:=hs.t t c' _ oZ
    have xG: ∀y∈c',y.1.lt (p+1)=true:=fun y hy=>E.zl (Nat.le_succ p) (h2 y hy)
    have LM:aU (fU ρ p (.list (ys.map (D.int .i64)))) c'=aU ρ c':=I2 CI (cn.2 h2)
    split at ht
    ·rename_i mT
     simp only[ae,ai]at ht
     obtain⟨rfl,rfl⟩:=ht
     obtain⟨e',k',hse⟩: ∃(e':E) (ty:Ty),s'= .iW e' ty∧((∃k,ty= .int k)∨ty= .bool):=by
      cases s' with
      |iW e' ty=>
       cases ty with
       |int k=>exact⟨e',_,rfl,.inl ⟨k,rfl⟩⟩
       |bool=>exact⟨e',_,rfl,.inr rfl⟩
       |_=>cases mT
      |_=>cases mT
     obtain⟨rfl,jA⟩:=hse
     have Fb:e'.lt p=true:=h0
     refine⟨v,alh v h1,xG,E.zl (Nat.le_succ p) Fb,?_⟩
     rw[LM]
     have h3':if aU ρ c'=true then Ab ⟨ρ,p,fun i=>i<p⟩ w G (.one (.iW e' k')) v else v=undef:=h3
     split
     ·rename_i hc
      rw[if_pos hc]at h3'
      obtain⟨_,q2,q3⟩:=h3'
      have Jf:den (fU ρ p (.list (ys.map (D.int .i64)))) e'=den ρ e':=dU CI Fb
      refine⟨E.zl (Nat.le_succ p) Fb,?_,by rw[Jf];exact q3⟩
      rw[Jf]
      rcases jA with⟨k,rfl⟩|rfl
      ·obtain⟨m,hm,_⟩:=dA.1 q3
       have q2':cH w G.S v (den ρ e'):=q2
       have hm':den ρ e'= .int k m:=hm
       rw[hm']at q2'⊢
       rw[q2'.cX];exact .int _ _
      ·obtain⟨m,hm⟩:=dz.1 q3
       have q2':cH w G.S v (den ρ e'):=q2
       have hm':den ρ e'= .bool m:=hm
       rw[hm']at q2'⊢
       rw[q2'.iE];exact .bool _
     ·rename_i hc
      rw[if_neg hc]at h3';exact h3'
    ·split at ht
     ·rename_i g' _ _
      split at ht
      ·rename_i hc
       obtain⟨rfl,hu,rfl⟩:=hc
       simp only[ae,ai]at ht
       obtain⟨rfl,rfl⟩:=ht
       have fi:=ho.res
       rw[if_pos hu]at fi
       subst fi
       have:aU ρ ([] :dI)=true:=rfl
       have h3':=h3
       rw[if_pos this]at h3'
       obtain⟨_,_,_,_,avc⟩:=h3'
       refine⟨v,alh v h1,by simp,Yg,?_⟩
       have:aU (fU ρ p (.list (ys.map (D.int .i64)))) ([] :dI)=true:=rfl
       rw[if_pos this,avc];exact mf
      ·cases ht
     ·cases ht
   ·cases ht
theorem YO{cs:o3}{Φ:Nat→List D→D}{Pre:Nat→List D→Prop}{ops:Array Oper}{o:Oper}{x:JU}(h:aer P cs n σ o=some x)(iF: ∀k sig,lk cs.l k=some sig→bh P k sig (Pre k) (Φ k))
  (hs:iq n w0 S0 ⟨ρ,p,fun i=>i<p⟩ G σ a w) (ks:Pre x.k [den ρ x.e]) (xw: ∀k sig ob,lk cs.l k=some sig→sig.ob=some ob→ob.Ae=true→ ∀b o,S0.kJ b o→ ¬kA w0 S0 b) (qp: ¬S0.fr) (mg: ¬S0.wz):
  ∀(next:Act→World→Prop) (Q:Exit→Act→World→Prop),(∀a' w' G',iq n w0 S0 ⟨fU ρ p (Φ x.k [den ρ x.e]),p+1,fun i=>i<p+1⟩ G' (x.after σ p) a' w'→next a' w')→Region.wanted o (yielded ops a.tmps)=true∧o.wp P a w next Q:=by
 intro next Q hQ
 unfold aer at h
 split at h
 ·rename_i f args argTypes E3 hop
  split at h
  ·rename_i fe k y hf fP
   split at h
   ·rename_i sig g _ _ hk hy
    split at h
    ·rename_i ob e T t fX Ch
     split at h
     ·rename_i hc
      obtain⟨ali,rfl,eT⟩:=hc
      injection h with h;subst h
      have wM:=xw k sig ob hk fX ali
      have dm:=hs.m.own g e T (.int .i64) Ch
      obtain⟨zs,hz,Af⟩:=dm.ints
      have abH:=iF k sig hk
      have PR:a.eval f= .func (.func k) #[] #[] :=by
       obtain⟨_,h2,h3⟩:=cK hs.t (pc:=[]) rfl hf
       obtain⟨l,hl,Hs⟩:=mo.1 h3
       rw[dr.1 Hs]at hl
       rw[hl]at h2
       obtain⟨cv,Hh,hlen,_⟩:=h2.xN
       rw[Hh,au hlen]
      have jo:a.eval y=G.τ g:=(cK hs.t (pc:=[]) rfl hy).2.2.2.2
      have sy:args.map a.eval= #[G.τ g] :=by
       apply dg
       rw[Array.toList_map,fP];simp[jo]
      have fh:(execOp a.eval o).run P w= .ok (.enter k #[G.τ g]) w:=by
       unfold execOp;simp only[hop,resolve,PR,Deferred.ofValue,sy]
       have:=abH.enter #[G.τ g] w
       simpa [invoke]using this
      refine⟨by unfold Region.wanted;rw[E3],?_⟩
      unfold Oper.wp
      rw[fh]
      have NZ:den ρ e= .list (zs.map (D.int .i64)):=hz
      have iR:Has (.list (.int .i64)) (.list (zs.map (D.int .i64))):=by rw[←NZ];exact dm.has
      have lS:Pre k [.list (zs.map (D.int .i64))] :=by rw[←NZ];exact ks
      refine(abH.Mt ob fX ali w T (G.τ g) zs Af iR lS).mono ?_
      rintro e' w' ⟨u,v',ys,rfl,Z3,hh,ku⟩
      simp only
      obtain⟨G',uf⟩:=iq.agn (x:=⟨k,g,e,T,o.dst,sig.res.isEmpty⟩) hs wM ⟨e,Ch⟩ (fun d hd=>by
       have kO:o.dst=some d:=hd
       rw[kO]at eT;simpa [abP]using eT) qp mg hh ku
      refine hQ _ w' G' ?_
      rw[NZ,Z3];exact uf
     ·cases h
    ·cases h
   ·cases h
  ·cases h
 ·cases h
end
structure Iw(P:Program)(f:Nat)(params:List Ty)(res:Ty)(Pre:List D→Prop)(Φ:List D→D):Prop where
 enter: ∀(args:Array Value) (w:World),(callFunc f args).run P w= .ok (.enter f args) w
 calls: ∀(w:World) (S:bU) (vs:List Value) (ds:List D),(∀b o,S b o→b<w.heap.size)→vs.length=ds.length→(∀(i:Nat) v d,vs[i]? =some v→ds[i]? =some d→cH w S v d)→
  dK (.dJ params) ds→Pre ds→
  Calls P f vs.toArray w fun e w'=> ∃v F,e= .returned v∧Below w.heap.size w w'∧(∀b o,F b o→w.heap.size≤b∧b<w'.heap.size∧ ∃cur T,w'.heap[b]? =some (.cells cur T (0,0)))∧cH w' F v (Φ ds)∧Has res (Φ ds)
structure M6(P:Program)(f:Nat)(params:List Ty)(res:Ty):Prop where
 enter: ∀(args:Array Value) (w:World),(callFunc f args).run P w= .ok (.enter f args) w
 calls: ∀(w:World) (S:bU) (vs:List Value) (ds:List D),(∀b o,S b o→b<w.heap.size∧ ∃cur T,w.heap[b]? =some (.cells cur T (0,0)))→vs.length=ds.length→(∀(i:Nat) v d,vs[i]? =some v→ds[i]? =some d→cH w S v d)→
  dK (.dJ params) ds→
  Calls P f vs.toArray w fun e w'=> ∃v S' d,e= .returned v∧hU (fun b=> ∃o,S b o) w w'∧(∀b o,S' b o→(∃o',S b o')∨w.heap.size≤b)∧
   (∀b o,S' b o→b<w'.heap.size∧ ∃cur T,w'.heap[b]? =some (.cells cur T (0,0)))∧cH w' S' v d∧Has res d
abbrev YB:=List (Nat×(List Ty×Ty))
section
variable{P:Program}{w w0:World}{S0:iu}{ρ:Nat→D}{p:Nat}{G:Gh}{σ:St}{a:Act}{n:Nat}
theorem M8{ops:Array Oper}{o:Oper}{i:Nat}{rest:List Nat}{Q:Exit→Act→World→Prop}(ho:ops[i]? =some o)(hg:o.guard=none)(h:o.wp P a w (wpOps P ops Q rest) Q):wpOps P ops Q (i::rest) a w:=by
 simp only[wpOps,ho]
 rw[if_pos (by unfold Region.wanted;rw[hg])]
 exact .inl h
end
def xU:Operand→Bool
 |.const (.slice none 0 0)=>true
 |_=>false
def aeF(P:Program)(n q:Nat)(σ:St)(o:Oper):Option (Nat×E):=
 match o.dst,o.guard,o.op with
 |some t,none,.binOp .eql T x y _=>
  if xU y=true∧t<n then
   match fK P σ [] x T,P.underlying T with
   |some (e,.list _),some (.slice _)=>if e.lt q then some (t,e) else none
   |_,_=>none
  else none
 |_,_,_=>none
def JB(σ:St)(t:Nat)(c:SC):St:=⟨fU σ.tm t (some ([],.one c)),σ.hp,σ.live⟩
section
variable{P:Program}{w w0:World}{S0:iu}{ρ:Nat→D}{p:Nat}{G:Gh}{σ:St}{a:Act}{n:Nat}
theorem zI{t el:TypeId}(hu:P.underlying t=some (.slice el))(p:Option Addr)(m c d:Nat):(Op.equalIn (d+1) t (.slice p m c) (.slice none 0 0)).run P w= .ok p.isNone w:=by
 cases p<;>simp[Op.equalIn,run_underlying hu]
theorem IE{t el:TypeId}(hu:P.underlying t=some (.slice el))(p:Option Addr)(m c:Nat)(x y:Operand):
  (do eqGuard .eql t x y (.slice p m c) (.slice none 0 0);binOp .eql t (.slice p m c) (.slice none 0 0):Sem Value).run P w= .ok (.bool p.isNone) w:=by
 have h1:binOp .eql t (.slice p m c) (.slice none 0 0)=(do pure (.bool (←Op.equalIn (9999+1) t (.slice p m c) (.slice none 0 0)))):=rfl
 have h2:eqGuard .eql t x y (.slice p m c) (.slice none 0 0)=pure ():=rfl
 rw[h1,h2,bA,Sem.run_pure,ct,bA,zI hu];rfl
theorem V4{w:World}{S:bU}{m c:Nat}{l:List D}(h:cH w S (.slice none m c) (.list l)):l.length=0:=by
 generalize hv:Value.slice none m c=v at h
 generalize hd:D.list l=d at h
 cases h<;>first
  |(cases hd;done)
  |(injection hd with hd;subst hd;rfl)
  |cases hv
theorem iq.U7(hs:iq n w0 S0 ⟨ρ,p,fun i=>i<p⟩ G σ a w)(d:D){t:Nat}(ht:t<n){v:Value}{c:SC}(hl:c.lt (p+1)=true)(hc:tJ ⟨fU ρ p d,p+1,fun i=>i<p+1⟩ w G c v):
  iq n w0 S0 ⟨fU ρ p d,p+1,fun i=>i<p+1⟩ G (JB σ t c) (a.put (some t) v) w:=by
 have CI: ∀i,i<p→fU ρ p d i=ρ i:=fun i hi=>fJ _ _ (by omega)
 have cp:dT ⟨ρ,p,fun i=>i<p⟩ w G ⟨fU ρ p d,p+1,fun i=>i<p+1⟩ w G:=
  ⟨fun e he=>⟨dU CI he,E.zl (Nat.le_succ p) he⟩,fun i hi=>Nat.lt_succ_of_lt hi,fun _ _ h=>h,fun _ _ _=>rfl,fun _ _=>rfl,fun _ _=>rfl⟩
 have h1:=hs.jl cp
 refine⟨h1.m.congr rfl rfl,?_,by rw[Act.DW];exact hs.sz,hs.defers⟩
 intro t' c' s rH
 simp only[JB]at rH
 by_cases Jp:t'=t
 ·subst Jp
  simp only[eB,ae,ai]at rH
  obtain⟨rfl,rfl⟩:=rH
  refine⟨v,?_,by simp,hl,?_⟩
  ·have:=hs.sz
   simp[Act.put,this,ht]
  ·simp only[aU,bW,if_true]
   exact hc
 ·rw[fJ _ _ Jp]at rH
  obtain⟨u,q1,q2,q3,q4⟩:=h1.t t' c' s rH
  refine⟨u,?_,q2,q3,q4⟩
  simp only[Act.put]
  rw[Array.getElem?_setIfInBounds_ne (Ne.symm Jp)]
  exact q1
theorem Zj{ops:Array Oper}{c t:Nat}{o:Oper}{e:E}(ho:ops[c]? =some o)(h:aeF P n p σ o=some (t,e))(hs:iq n w0 S0 ⟨ρ,p,fun i=>i<p⟩ G σ a w)(Q:Exit→Act→World→Prop)(rest:List Nat)
  (h1:(den ρ e).aV.length=0→ ∀b:Bool,∀a',iq n w0 S0 ⟨fU ρ p (.bool b),p+1,fun i=>i<p+1⟩ G (JB σ t (.iW (.var p) .bool)) a' w→wpOps P ops Q rest a' w)
  (h2:(den ρ e).aV.length≠0→ ∀a',iq n w0 S0 ⟨fU ρ p (.bool false),p+1,fun i=>i<p+1⟩ G (JB σ t (.iW (.ff false) .bool)) a' w→wpOps P ops Q rest a' w):
  wpOps P ops Q (c::rest) a w:=by
 unfold aeF at h
 split at h
 ·rename_i t0 T x y yt hd hg hop
  split at h
  ·rename_i hny
   obtain⟨hny,htn⟩:=hny
   have hyc:y= .const (.slice none 0 0):=by
    unfold xU at hny
    split at hny
    ·rfl
    ·cases hny
   subst hyc
   split at h
   ·rename_i e' u el hx hu
    split at h
    ·obtain⟨rfl,rfl⟩:=jC h
     obtain⟨x1,x2,x3⟩:=dX hs.t (pc:=[]) rfl hx
     obtain⟨l,hl,_⟩:=bK.1 x3
     have hlr:den ρ e'= .list l:=hl
     have x2':cH w G.S (a.eval x) (.list l):=by rw[←hlr];exact x2
     obtain⟨A,cap,hv⟩:=x2'.qd
     have fh:(execOp a.eval o).run P w= .ok (.value (.bool A.isNone)) w:=by
      have rN:(execOp a.eval o)=(do let v←(do eqGuard .eql T x (.const (.slice none 0 0)) (a.eval x) (a.eval (.const (.slice none 0 0)));binOp .eql T (a.eval x) (a.eval (.const (.slice none 0 0))):Sem Value);pure (.value v)):=by unfold execOp;simp only[hop]
      have he:a.eval (.const (.slice none 0 0))= .slice none 0 0:=rfl
      have h3:=IE (P:=P) (w:=w) hu A l.length cap x (.const (.slice none 0 0))
      rw[rN,he,hv,bA,h3];rfl
     refine M8 ho hg ?_
     rw[Oper.wp,fh]
     show wpOps P ops Q rest (a.put o.dst (.bool A.isNone)) w
     rw[hd]
     by_cases Xg:l.length=0
     ·refine h1 (by rw[hlr];exact Xg) A.isNone _ (hs.U7 _ htn (by simp[SC.lt,E.lt]) ⟨by simp[E.lt],?_,?_⟩)
      ·show cH w G.S _ (fU ρ p (.bool A.isNone) p)
       rw[eB];exact .bool _
      ·show Has .bool (fU ρ p (.bool A.isNone) p)
       rw[eB];exact dz.2 ⟨_,rfl⟩
     ·have hA:A.isNone=false:=by
       cases hA:A with
       |some _=>rfl
       |none=>
        exfalso
        rw[hA]at hv
        rw[hv]at x2'
        exact Xg (V4 x2')
      rw[hA]
      exact h2 (by rw[hlr];exact Xg) _ (hs.U7 _ htn (by simp[SC.lt,E.lt]) ⟨by simp[E.lt],.bool _,dz.2 ⟨_,rfl⟩⟩)
    ·cases h
   ·cases h
  ·cases h
 ·cases h
end
def WP(ro:Option Nat)(P:Program)(c:Code)(Q:Exit→Act→World→Prop)(a:Act)(w:World):Prop:=
 match ro with
 |none=>c.wp P Q a w
 |some l=>c.wpIn (Fence.wide.inRound l) 0 P Q a w
def vV:Op→Bool
 |.defer _=>true
 |_=>false
def gZ:Code→Bool
 |.region _ ops _=>ops.toList.all fun o=> !vV o.op
 |.seq a b=>gZ a&&gZ b
 |.cond _ a b=>gZ a&&gZ b
 |.block _ c| .loop c=>gZ c
 |.skip| .label _| .exit _| .ret=>true
 |_=>false
section
variable{P:Program}{ro:Option Nat}{Q:Exit→Act→World→Prop}{a:Act}{w:World}
theorem Eh{l n:Nat}(h:(Fence.wide.inRound l).depth.isSome=true):1≤n:=by simp[Fence.wide]at h
theorem Qr{o:Oper}{l:Nat}{next:Act→World→Prop}{r:Result Next}(h:o.upon P a next Q r):o.uponIn (Fence.wide.inRound l) 0 P a next Q r:=by
 cases r with
 |ok x w'=>
  cases x<;>simp only[Oper.upon,Oper.uponIn]at h⊢ <;>first
   |exact h
   |exact⟨Eh,CallsIn.inRound l (callsIn_wide.2 h)⟩
   |exact⟨Eh,fun c cs _=>let ⟨v,w2,r1,s⟩:=h c cs;⟨v,w2,r1,stepsIn_wide.2 s⟩⟩
 |halt x w'=>cases x<;>simp only[Oper.upon,Oper.uponIn]at h⊢ <;>exact h
theorem O8{o:Oper}{l:Nat}{next:Act→World→Prop}(uj:vV o.op=false)(h:o.wp P a w next Q):o.wpIn (Fence.wide.inRound l) 0 P a w next Q:=by
 refine⟨fun _ _=>trivial,?_⟩
 rw[Oper.semAt_eq _ _ _ (fun c hc=>by rw[hc]at uj;cases uj)]
 exact Qr h
theorem zf{ops:Array Oper}{l:Nat}(uj:(ops.toList.all fun o=> !vV o.op)=true)(ku: ∀a w,¬Q .outgrown a w): ∀(is:List Nat) (a:Act) (w:World),wpOps P ops Q is a w→wpOpsIn (Fence.wide.inRound l) 0 P ops Q is a w
 | [],a,w,h=>h
 |i::is,a,w,h=>by
  simp only[wpOps,wpOpsIn]at h⊢
  cases ho:ops[i]? with
  |none=>simp only[ho]at h;exact zf uj ku is a w h
  |some o=>
   simp only[ho]at h⊢
   have hd:vV o.op=false:=by
    have:=cn.1 uj o (by simpa using Array.mem_of_getElem? ho)
    simpa using this
   split
   ·rename_i hw
    rw[if_pos hw]at h
    rcases h with h|⟨_,a0,w0,h⟩
    ·have h1:o.wp P a w (wpOpsIn (Fence.wide.inRound l) 0 P ops Q is) Q:=Oper.wp_mono (fun a w h=>zf uj ku is a w h) h
     exact O8 hd h1
    ·exact absurd h (ku _ _)
   ·rename_i hw
    rw[if_neg hw]at h
    exact⟨fun _ _=>trivial,zf uj ku is _ _ h⟩
theorem zp{ops:Array Oper}{l:Nat}{md:Region.Mode}(uj:(ops.toList.all fun o=> !vV o.op)=true)(ku: ∀a w,¬Q .outgrown a w): ∀(fuel:Nat) (bY:Array Bool) (a:Act) (w:World),wpAny P md ops Q fuel bY a w→wpAnyIn (Fence.wide.inRound l) 0 P md ops Q fuel bY a w
 |0,_,_,_,h=>h
 |fuel+1,bY,a,w,h=>by
  refine⟨h.1,fun i hi=> ?_⟩
  have h1:=h.2 i hi
  unfold wpOp at h1
  unfold wpOpIn
  cases ho:ops[i]? with
  |none=>simp only[ho]at h1⊢;exact zp uj ku fuel _ _ _ h1
  |some o=>
   simp only[ho]at h1⊢
   have hd:vV o.op=false:=by
    have:=cn.1 uj o (by simpa using Array.mem_of_getElem? ho)
    simpa using this
   split
   ·rename_i hw
    rw[if_pos hw]at h1
    rcases h1 with h1|⟨_,a0,w0,h1⟩
    ·exact O8 hd (Oper.wp_mono (fun a w h=>zp uj ku fuel _ a w h) h1)
    ·exact absurd h1 (ku _ _)
   ·rename_i hw
    rw[if_neg hw]at h1
    exact⟨fun _ _=>trivial,zp uj ku fuel _ _ _ h1⟩
def Qo(ro:Option Nat)(c:Code)(Q:Exit→Act→World→Prop):Prop:=ro.isSome=true→gZ c=true∧ ∀a w,¬Q .outgrown a w
theorem WP.skip(h:Q .normal a w):WP ro P .skip Q a w:=by
 cases ro with
 |none=>exact wp_skip h
 |some l=>exact wpIn_skip h
theorem WP.label{l:Nat}(h:Q .normal a w):WP ro P (.label l) Q a w:=by
 cases ro with
 |none=>exact wp_label h
 |some l=>exact wpIn_label h
theorem WP.exit{i:Nat}(h:Q (.exit i) a w):WP ro P (.exit i) Q a w:=by
 cases ro with
 |none=>exact wp_exit h
 |some l=>exact wpIn_exit h
theorem WP.ret(h:Q .ret a w):WP ro P .ret Q a w:=by
 cases ro with
 |none=>exact wp_ret h
 |some l=>exact wpIn_ret h
theorem WP.seq{x y:Code}(h:WP ro P x (Exit.then (WP ro P y Q) Q) a w):WP ro P (.seq x y) Q a w:=by
 cases ro with
 |none=>exact wp_seq h
 |some l=>exact wpIn_seq h
theorem WP.cond{c:Operand}{x y:Code}{t:Bool}(hc:a.eval c= .bool t)(h:WP ro P (if t then x else y) Q a w):WP ro P (.cond c x y) Q a w:=by
 cases ro with
 |none=>cases t with
  |true=>exact wp_cond_true hc h
  |false=>exact wp_cond_false hc h
 |some l=>exact wpIn_cond hc h
theorem WP.block{i:Nat}{c:Code}(h:WP ro P c (Exit.inBlock i Q) a w):WP ro P (.block i c) Q a w:=by
 cases ro with
 |none=>exact wp_block h
 |some l=>exact wpIn_block h
theorem WP.loop{c:Code}(I:Nat→Act→World→Prop)(aeE:Nat)(h₀:I aeE a w)
  (round: ∀n a w,I n a w→WP ro P c (Exit.then (fun a' w'=> ∃n',n'<n∧I n' a' w') Q) a w):WP ro P (.loop c) Q a w:=by
 cases ro with
 |none=>exact wp_loop_ghost I aeE h₀ round
 |some l=>exact wpIn_loop_ghost I aeE h₀ round
theorem WP.region{id:Nat}{ops:Array Oper}(hr:Qo ro (.region id ops false) Q)(h:wpOps P ops Q (List.range ops.size) a w):WP ro P (.region id ops false) Q a w:=by
 cases ro with
 |none=>exact wp_region h
 |some l=>
  obtain⟨h1,h2⟩:=hr rfl
  exact wpIn_region (zf h1 h2 _ _ _ h)
theorem WP.Nl{id:Nat}{ops:Array Oper}(hr:Qo ro (.region id ops true) Q)(hm:P.follows .mixedOrders=true)
  (h:wpAny P .any ops Q ops.size (Array.replicate ops.size false) a {w with drawn:=w.drawn+1}):WP ro P (.region id ops true) Q a w:=by
 cases ro with
 |none=>exact wp_region_any hm h
 |some l=>
  obtain⟨h1,h2⟩:=hr rfl
  exact wpIn_region_any hm (zp h1 h2 _ _ _ _ h)
end
section
variable{C:Cx}{w w0 w1 w':World}{G:Gh}{S0 S1:iu}{σ:St}{a:Act}{n:Nat}
structure Ext(w0:World)(S0:iu)(w1:World)(S1:iu):Prop where
 below:hU S0.mu w0 w1
 mu: ∀b,S1.mu b→kA w0 S0 b
 kJ: ∀b o,S0.kJ b o→S1.kJ b o
 UF: ∀b o,S0.kJ b o→w1.cell? ⟨b,o,none⟩=w0.cell? ⟨b,o,none⟩
 UE: ∀b o,S1.kJ b o→S0.kJ b o∨kA w0 S0 b
 si: ∀i b,S0.si i=some b→S1.si i=some b
 aeq: ∀i b,S1.si i=some b→S1.mu b→Mi w0 S0 b
 fr:S0.fr→S1.fr
 wz:S0.wz→S1.wz
 prog:S1.prog=S0.prog
theorem Ext.new(x:Ext w0 S0 w1 S1){b:Nat}(h:kA w1 S1 b):kA w0 S0 b:=by
 rcases h with h|h
 ·exact .inl (aR x.below.size h)
 ·exact x.mu b h
theorem Ext.box(x:Ext w0 S0 w1 S1){b:Nat}(h:Mi w1 S1 b):Mi w0 S0 b:=by
 rcases h with h|⟨h,i,hi⟩
 ·exact .inl (aR x.below.size h)
 ·exact x.aeq i b hi h
theorem Ext.refl(w0:World)(S0:iu):Ext w0 S0 w0 S0:=⟨.refl _ _,fun _ h=>.inr h,fun _ _ h=>h,fun _ _ _=>rfl,fun _ _ h=>.inl h,fun _ _ h=>h,fun i _ h1 h2=>.inr ⟨h2,i,h1⟩,id,id,rfl⟩
theorem Ext.block(x:Ext w0 S0 w1 S1){k:Nat}(hk:k<w0.heap.size)(hm: ¬S0.mu k): ¬S1.mu k:=by
 intro h
 rcases x.mu k h with h|h
 ·omega
 ·exact hm h
theorem Ext.trans{w2:World}{S2:iu}(x:Ext w0 S0 w1 S1)(y:Ext w1 S1 w2 S2):Ext w0 S0 w2 S2 where
 below:=⟨y.below.os.trans x.below.os,y.below.tape.trans x.below.tape,y.below.output.trans x.below.output,aR x.below.size y.below.size,fun k hk hm=>(y.below.block k (ar hk x.below.size) (x.block hk hm)).trans (x.below.block k hk hm)⟩
 mu b h:=x.new (y.mu b h)
 kJ b o h:=y.kJ b o (x.kJ b o h)
 UF b o h:=(y.UF b o (x.kJ b o h)).trans (x.UF b o h)
 UE b o h:=by
  rcases y.UE b o h with h|h
  ·exact x.UE b o h
  ·exact .inr (x.new h)
 si i b h:=y.si i b (x.si i b h)
 aeq i b h1 h2:=x.box (y.aeq i b h1 h2)
 fr h:=y.fr (x.fr h)
 wz h:=y.wz (x.wz h)
 prog:=y.prog.trans x.prog
end
def mark(r:Nat):Deferred:={target:=.collected r,args:= #[]}
structure Dfs(w0:World)(S0:iu):Prop where
 ex: ∃ms:List Nat,S0.dfs=ms.map mark∧ms.Nodup∧ ∀r∈ms,w0.heap[r]? =some (.deferred (some []))∧ ¬S0.mu r
structure ahr(P:Program)(k:Nat)(fs:List Ty)(et:Ty)(Pre:List D→Prop)(Φ:List D→D):Prop where
 enter: ∀(args:Array Value) (w:World),(callFunc k args).run P w= .ok (.enter k args) w
 calls: ∀(w:World) (S:bU) (vs:List Value) (ds:List D),(∀b o,S b o→b<w.heap.size)→vs.length=ds.length→(∀(i:Nat) v d,vs[i]? =some v→ds[i]? =some d→cH w S v d)→dK (.dJ fs) ds→Pre ds→
  ∀(l:Nat) (J:Nat→(Nat→Prop)→World→Prop) (Jx:World→Prop) (X0:Nat→Prop),
   (∀i X W W',J i X W→Below W.heap.size W W'→J i X W')→(∀W W',Jx W→Below W.heap.size W W'→Jx W')→(∀i X W,J i X W→ ∀b,X b→b<W.heap.size)→
   (∀i x v X W,J i X W→(Φ ds).aV[i]? =some x→(∀(W':World) (S':bU),cH W' S' v x)→Has et x→
    YieldAt Fence.wide 0 P l #[v] W fun e W'=>
     (e= .returned (.bool true)∧(∃X',J (i+1) X' W'∧ ∀b,X' b→X b∨W.heap.size≤b)∧hU X W W'∧ ∀b o,S b o→W'.cell? ⟨b,o,none⟩=W.cell? ⟨b,o,none⟩)∨
     (e= .returned (.bool false)∧Jx W'))→
   J 0 X0 w→
   Calls P k (#[.func (.yield l) #[] #[]] ++vs.toArray) w fun e W'=>(∃v,e= .returned v)∧((∃X,J (Φ ds).aV.length X W')∨Jx W')
inductive VC where
 |lM (pc:dI) (e:E) (k:VC)
 |call (p f:Nat) (args:E) (pc:dI) (k:VC)
 |room (pc:dI) (e:E) (bytes:Nat) (k:VC)
 |branch (e:E) (t f:VC)
 |loop (v0:Nat) (es:List E) (rE:List Ty) (body:VC)
 |again (i:Nat) (es:List E)
 |ret (e:E)
 |any (p:Nat) (t:Ty) (k:VC)
 |hav (p:Nat) (fs:List (E×E)) (k:VC)
 |range (v0 f:Nat) (args:E) (es:List E) (rE:List Ty) (et:Ty) (body done:VC)
 |stuck (why:Nat)
def VC.holds(Φ:Nat→List D→D)(Pre:Nat→List D→Prop)(R:D→Prop):VC→(Nat→D)→List (List D→Prop)→Prop
 |.lM pc e k,ρ,gk=>(aU ρ pc=true→(den ρ e).gV=true)∧k.holds Φ Pre R ρ gk
 |.call p f args pc k,ρ,gk=>(aU ρ pc=true→Pre f (den ρ args).aV)∧ ∀d,d=Φ f (den ρ args).aV→k.holds Φ Pre R (fU ρ p d) gk
 |.room pc e bytes k,ρ,gk=>(aU ρ pc=true→(den ρ e).aV.length≤maxLen∧(den ρ e).aV.length*bytes≤140737488355328)∧k.holds Φ Pre R ρ gk
 |.branch e t f,ρ,gk=>((den ρ e).gV=true→t.holds Φ Pre R ρ gk)∧((den ρ e).gV=false→f.holds Φ Pre R ρ gk)
 |.loop v0 es rE body,ρ,gk=> ∃(I:List D→Prop) (m:List D→Nat),I (es.map (den ρ))∧ ∀xs,dK (.dJ rE) xs→I xs→body.holds Φ Pre R (gJ ρ v0 xs) ((fun ys=>I ys∧m ys<m xs)::gk)
 |.again i es,ρ,gk=>match gk[i]? with
  |some J=>J (es.map (den ρ))
  |none=>False
 |.ret e,ρ,_=>R (den ρ e)
 |.any p t k,ρ,gk=> ∀d,Has t d→k.holds Φ Pre R (fU ρ p d) gk
 |.hav p fs k,ρ,gk=> ∀d,(∀x∈fs,(den (fU ρ p d) x.1).aV.length=(den (fU ρ p d) x.2).aV.length)→k.holds Φ Pre R (fU ρ p d) gk
 |.range v0 f args es rE et body done,ρ,gk=>Pre f (den ρ args).aV∧ ∃I:Nat→List D→Prop,I 0 (es.map (den ρ))∧
   (∀i x xs,(Φ f (den ρ args).aV).aV[i]? =some x→Has et x→dK (.dJ rE) xs→I i xs→body.holds Φ Pre R (fU (gJ ρ v0 xs) (v0+rE.length) x) ((fun ys=>I (i+1) ys)::gk))∧
   ∀xs,dK (.dJ rE) xs→I (Φ f (den ρ args).aV).aV.length xs→done.holds Φ Pre R (gJ ρ v0 xs) gk
 |.stuck _,_,_=>False
inductive Ex where
 |normal
 |exit (i:Nat)
 |ret
def Ex.to:Ex→Exit
 |.normal=>.normal
 |.exit i=>.exit i
 |.ret=>.ret
def uG(q:Nat):Item→Bool
 |.Oa _ _=>false
 |.lM pc e=>pc.all (fun x=>x.1.lt q)&&e.lt q
 |.call p _ args pc=>p==q&&args.lt q&&pc.all fun x=>x.1.lt q
 |.room pc e _=>pc.all (fun x=>x.1.lt q)&&e.lt q
def Aq:Nat→List (Nat×Item)→Bool
 |_,[] =>true
 |lo,(q,it)::r=>decide (lo≤q)&&uG q it&&Aq (match it with| .call .. =>q+1|_=>q) r
def vU:List (Nat×Item)→VC→VC
 | [],k=>k
 |(_,.Oa _ _)::r,k=>vU r k
 |(_,.lM pc e)::r,k=>.lM pc e (vU r k)
 |(_,.call p f args pc)::r,k=>.call p f args pc (vU r k)
 |(_,.room pc e b)::r,k=>.room pc e b (vU r k)
def jU:Code→Option Nat
 |.region id _ _=>some id
 |.seq a b=>match jU a with|some i=>some i|none=>jU b
 |.cond _ a b=>match jU a with|some i=>some i|none=>jU b
 |.block _ c| .loop c| .scope c=>jU c
 |_=>none
def JO(σ:St)(x:Slot×Ty×Option qy):St:=
 match x with
 |(.tmp t,.ptr _,none)=>
  match σ.tm t with
  |some ([],.one (.r9 id 0))=>
   match σ.hp id with
   |some (_,cs)=>match iO cs with
    |some (ds,ts)=>⟨fU σ.tm t (some ([],.one (.iW (.un .so (.dJ ds)) (.ptr (.dJ ts))))),fU σ.hp id (some (true,cs)),σ.live⟩
    |none=>σ
   |none=>σ
  |_=>σ
 |_=>σ
def Ka(l:List (Slot×Ty×Option qy))(σ:St):St:=l.foldl JO σ
theorem iq.JO{w0:World}{S0:iu}{C:Cx}{G:Gh}{σ:St}{a:Act}{w:World}{n:Nat}(hs:iq n w0 S0 C G σ a w)(x:Slot×Ty×Option qy): ∃G',iq n w0 S0 C G' (dV.JO σ x) a w:=by
 unfold dV.JO
 split
 ·rename_i t fs
  split
  ·rename_i id ht
   split
   ·rename_i ro cs fD
    split
    ·rename_i ds ts qC
     obtain⟨G',cp,hm,Qd,Lo,_⟩:=hs.m.freeze fD (jV qC)
     refine⟨G',⟨hm.congr rfl rfl,?_,hs.sz,hs.defers⟩⟩
     have ht':=hs.t.later cp
     intro t' c s h
     by_cases XA:t'=t
     ·subst XA
      simp only[eB,ae,ai]at h
      obtain⟨rfl,rfl⟩:=h
      obtain⟨v,hv,_,_,hr⟩:=hs.t t' _ _ ht
      obtain⟨_,_,fZ,_⟩:=hs.m.box _ _ _ fD
      obtain⟨vs,T,jq,pT⟩:=fZ.cells (jV qC)
      obtain⟨m1,m2,m3,m4,m5⟩:=n4 qC pT
      have hd:den C.ρ (.un .so (.dJ ds))= .ptr (ds.map (den C.ρ)):=by simp only[den,gG,U.den,D.aV]
      have zN:v= .pointer (some ⟨G.β id,0,none⟩):=by
       have:aU C.ρ ([] :dI)=true:=rfl
       rw[if_pos this]at hr
       exact hr.2
      refine⟨v,hv,by simp,by simpa [SV.lt,SC.lt,E.lt]using m1,?_⟩
      have:aU C.ρ ([] :dI)=true:=rfl
      rw[if_pos this]
      refine⟨by simpa [E.lt]using m1,?_,?_⟩
      ·rw[hd,zN]
       refine .ptr _ vs _ (by simp[m2]) (fun i hi=>Qd i (by simp[m2,pT.1]at hi;exact hi)) (fun i v hi=> ?_) (fun i v d hi z8=> ?_)
       ·rw[cell_of_row w _ i _ T _ jq];simpa using hi
       ·simp only[ah,da]at z8
        obtain⟨e,he,rfl⟩:=z8
        exact(m4 i v e hi he).keep cp.S cp.cell
      ·rw[hd];exact m9.2 (.inr ⟨_,rfl,m5⟩)
     ·simp only[fJ _ _ XA]at h
      exact ht' t' c s h
    ·exact⟨G,hs⟩
   ·exact⟨G,hs⟩
  ·exact⟨G,hs⟩
 ·exact⟨G,hs⟩
theorem iq.Ka{w0:World}{S0:iu}{C:Cx}{a:Act}{w:World}{n:Nat}: ∀(l:List (Slot×Ty×Option qy)) {G:Gh} {σ:St},iq n w0 S0 C G σ a w→ ∃G',iq n w0 S0 C G' (dV.Ka l σ) a w
 | [],G,_,h=>⟨G,h⟩
 |x::l,_,_,h=>by
  obtain⟨G',h'⟩:=h.JO x
  exact iq.Ka l h'
structure En where
 P:Program
 cs:o3
 n:Nat
 rb:List (Nat×Jh)
 fw:YB
 wl:YB
 its:List (Nat×(List Ty×Ty)):=[]
def UH(σ:St)(P:Program)(x:Operand):Option E:=
 match fK P σ [] x 0 with
 |some (e,.bool)=>some e
 |_=>none
def uR:dI→E
 | [] =>.ff true
 | [(e,true)] =>e
 |(e,true)::r=>.bin .and e (uR r)
 |(e,false)::r=>.bin .and (.un .not e) (uR r)
def tK(N:En)(ops:Array Oper)(p0 M:Nat)(fin:List (Nat×jI)→St→VC):List Nat→List (Nat×jI)→St→VC
 | [],acc,σ=>fin acc σ
 |i::r,acc,σ=>
  match ops[i]? with
  |none=>.stuck 21
  |some o=>
   match Ar N.P N.cs ops σ (p0+i) o with
   |some e=>
    if e.yh.2.lt M&&Aq (p0+i) (e.items.map fun it=>(p0+i,it)) then
     vU (e.items.map fun it=>(p0+i,it)) (tK N ops p0 M fin r (acc++[(i,e)]) (e.app σ))
    else .stuck (1000+i)
   |none=>
    match SH N.cs o with
    |some y=>
     match nnX N.P σ o y,lK (some true) N.P N.cs ops σ (p0+i) o,lK (some false) N.P N.cs ops σ (p0+i) o with
     |some x,some et,some ef=>
      if et.yh.2.lt M&&ef.yh.2.lt M&&x.args.lt (p0+i) then
       .call (p0+i) x.k x.args [] (.branch (PA (p0+i)) (tK N ops p0 M fin r (acc++[(i,ef)]) (ef.app σ)) (tK N ops p0 M fin r (acc++[(i,et)]) (et.app σ)))
      else .stuck (5500+i)
     |_,_,_=>.stuck (2500+i)
    |none=>
    match guardOf ops σ o,(guardOf ops σ o).bind (fun pc=>jP N.P N.cs σ pc o),lK (some true) N.P N.cs ops σ (p0+i) o,lK (some false) N.P N.cs ops σ (p0+i) o with
    |some pc,some x,some et,some ef=>
     if et.yh.2.lt M&&ef.yh.2.lt M&&(pc.all fun y=>y.1.lt (p0+i))&&x.args.lt (p0+i) then
      .branch (uR pc) (.call (p0+i) x.k x.args [] (tK N ops p0 M fin r (acc++[(i,et)]) (et.app σ))) (tK N ops p0 M fin r (acc++[(i,ef)]) (ef.app σ))
     else .stuck (5000+i)
    |_,_,_,_=>.stuck (2000+i)
def Pp(ops:Array Oper):Nat→Nat→Bool
 |0,_=>false
 |f+1,t=>ops.any fun o=>o.dst==some t&&match o.op with
  |.fieldAddr _ (.tmp x) _=>Pp ops f x
  |.indexAddr .. =>true
  |_=>false
def YE(ops:Array Oper):Bool:=decide (0<ops.size)&&match ops[ops.size-1]? with
 |some o=>match o.op with
  |.store _ (.tmp x) _=>Pp ops 10 x
  |_=>false
 |none=>false
def D4(l:YB)(o:Oper):Bool:=match o.op with
 |.call {callee:=.value (.func k),.. }=>(lk l k).isSome
 |_=>false
def aoT(N:En)(ops:Array Oper)(draw:Bool):Option Nat:=
 if draw||N.cs.fr !=0 then none else(List.range ops.size).find? fun c=>decide (c+2<ops.size)&&match ops[c]?,ops[c+2]? with
  |some o,some o2=>D4 N.fw o&&D4 N.wl o2
  |_,_=>false
def au2(o:Oper):Bool:=match o.op with
 |.binOp .eql _ _ y _=>xU y
 |_=>false
def Zq(o:Oper):Bool:=match o.op with
 |.store _ _ (.tmp _)=>true
 |_=>false
def an1(ops:Array Oper):Bool:=match ops[ops.size-1]? with
 |some o=>au2 o
 |none=>false
def ame(N:En)(ops:Array Oper):Bool:=match ops[ops.size-2]?,ops[ops.size-1]? with
 |some o,some o2=>D4 N.wl o&&Zq o2
 |_,_=>false
def Ig(N:En)(ops:Array Oper)(draw:Bool):Option (Nat×Bool):=
 if draw then none else
 if an1 ops=true∧0<ops.size then some (ops.size-1,true)
 else if ame N ops=true∧N.cs.fr=2∧1<ops.size then some (ops.size-2,false)
 else none
theorem Nb{N:En}{ops:Array Oper}{draw b:Bool}{c:Nat}(h:Ig N ops draw=some (c,b)):draw=false∧(if b then c+1=ops.size else c+2=ops.size∧N.cs.fr=2):=by
 unfold Ig at h
 split at h
 ·cases h
 ·rename_i hd
  refine⟨by simpa using hd,?_⟩
  split at h
  ·rename_i h1
   simp only[ae,ai]at h
   obtain⟨rfl,rfl⟩:=h
   simp only[if_true];omega
  ·split at h
   ·rename_i h1
    simp only[ae,ai]at h
    obtain⟨rfl,rfl⟩:=h
    simp only[ak,if_false]
    exact⟨by omega,h1.2.1⟩
   ·cases h
def abO(N:En)(ops:Array Oper):Bool:=ops.toList.all fun o=>match o.dst with|some d=>decide (d<N.n)|none=>true
def Qk(id:Nat)(σ:St)(i:Nat):St:=
 match σ.hp id with
 |some (false,cs)=>match cs[i]? with
  |some (.xo g u)=>match σ.live g with
   |some (e,_,u')=>if u'=u∧g.ex=true∧0<u.cells.length then⟨σ.tm,fU σ.hp id (some (false,cs.set i (.iW e (.list u)))),fun g'=>if g'=g then none else σ.live g'⟩ else σ
   |none=>σ
  |_=>σ
 |_=>σ
def Qi(σ:St)(t:Nat):St:=
 match σ.tm t with
 |some ([],.one (.r9 id 0))=>match σ.hp id with
  |some (_,cs)=>(List.range cs.length).foldl (Qk id) σ
  |none=>σ
 |_=>σ
def Qj(N:En)(r:Nat)(σ:St):St:=if N.cs.fr==0 then(((lk N.rb r).getD {}).drop.filterMap fun x=>if 3000000≤x&&x<4000000 then some (x-3000000) else none).foldl Qi σ else σ
def Tn(N:En)(r:Nat)(σ:St):St:=(((lk N.rb r).getD {}).drop.filterMap fun x=>if 9000000000≤x then some (x-9000000000) else none).foldl (fun σ t=>JO σ (.tmp t,.ptr .nil,none)) σ
def X3(x:Nat):Nat×Nat:=((x-4000000) % 1000,(x-4000000)/1000)
def splitAt(N:En)(r:Nat)(σ:St)(p:Nat):Option (Nat×E×IntKind×Nat):=
 match ((lk N.rb r).getD {}).drop.find? (fun x=>4000000≤x&&x<5000000) with
 |some x=>match σ.tm (X3 x).1 with
  |some ([],.one (.iW e (.int kd)))=>if e.lt p then some ((X3 x).1,e,kd,(X3 x).2) else none
  |_=>none
 |none=>none
def Co(f:St→VC)(σ:St)(t:Nat)(e:E)(kd:IntKind):List Nat→VC
 | [] =>.stuck 9100
 |j::r=>.branch (.bin .eq e (.aT kd j)) (f (JB σ t (.iW (.aT kd j) (.int kd)))) (Co f σ t e kd r)
def Sy(σ:St)(id c:Nat)(cs:List SC)(x:SC):St:=⟨σ.tm,fU σ.hp id (some (false,cs.set c x)),σ.live⟩
def xR(N:En)(r:Nat)(σ:St)(p:Nat):Option (Nat×Nat×List SC×E×IntKind×Nat):=
 match ((lk N.rb r).getD {}).drop.find? (fun x=>5000000≤x&&x<9000000000) with
 |some x=>match σ.tm ((x-5000000) % 1000) with
  |some ([],.one (.r9 id 0))=>match σ.hp id with
   |some (false,cs)=>match cs[(x-5000000)/100000]? with
    |some (.iW e (.int kd))=>if e.lt p then some (id,(x-5000000)/100000,cs,e,kd,((x-5000000)/1000) % 100) else none
    |_=>none
   |_=>none
  |_=>none
 |none=>none
def za(f:St→VC)(σ:St)(id c:Nat)(cs:List SC)(e:E)(kd:IntKind):List Nat→VC
 | [] =>.stuck 9100
 |j::r=>.branch (.bin .eq e (.aT kd j)) (f (Sy σ id c cs (.iW (.aT kd j) (.int kd)))) (za f σ id c cs e kd r)
def Ih(N:En)(r p:Nat)(f:St→VC)(σ:St):VC:=
 match splitAt N r σ p with
 |some (t,e,kd,m)=>Co f σ t e kd (List.range m)
 |none=>match xR N r σ p with
  |some (id,c,cs,e,kd,m)=>za f σ id c cs e kd (List.range m)
  |none=>f σ
def aaH(N:En)(id:Nat)(ops:Array Oper)(draw:Bool)(k:Ex→St→Nat→Nat→VC)(p d:Nat)(σ:St):VC:=
  match Ig N ops draw with
  |some (c,true)=>tK N ops p (p+c) (fun _ ZW=>match (ops[c]?).bind (aeF N.P N.n (p+c) ZW) with
    |some (t,e)=>
     if abO N ops then .branch (.bin .eq (.un .len e) (.aT .i64 0)) (.any (p+c) .bool (k .normal (JB ZW t (.iW (.var (p+c)) .bool)) (p+ops.size) d)) (.any (p+c) .bool (k .normal (JB ZW t (.iW (.ff false) .bool)) (p+ops.size) d))
     else .stuck 9001
    |none=>.stuck 9000) (List.range' 0 c) [] σ
  |some (c,false)=>.stuck 9004
  |none=>
  if N.cs.fr==2&&YE ops then
   .stuck 7000
  else
  match aoT N ops draw with
  |some c=>.stuck 8000
  |none=>
  match TB N.P N.cs σ ops draw with
  |some c=>tK N ops p (p+c) (fun _ ZW=>
    match (ops[c]?).bind (aer N.P N.cs N.n ZW) with
    |some x=>
     if x.e.lt (p+c)&&(ops.toList.all fun o=>match o.dst with|some d=>decide (d<N.n)|none=>true) then
      .call (p+c) x.k (.cons x.e .nil) [] (tK N ops p (p+ops.size) (fun _ WV=>k .normal WV (p+ops.size) d) (List.range' (c+1) (ops.size-(c+1))) [] (x.after ZW (p+c)))
     else .stuck 6001
    |none=>.stuck 6000) (List.range' 0 c) [] σ
  |none=>tK N ops p (p+ops.size) (fun r σ'=>
   if(!draw||(sZ ops r&&acT ops))&&(ops.toList.all fun o=>match o.dst with|some d=>decide (d<N.n)|none=>true) then k .normal σ' (p+ops.size) d
   else .stuck (1000+id)) (List.range ops.size) [] σ
def nH:E→Option Bool
 |.ff b=>some b
 |.un .not e=>(nH e).map (!·)
 |.un .De .gW=>some true
 |.bin .or a b=>match nH a,nH b with
  |some true,_=>some true
  |_,some true=>some true
  |some false,some false=>some false
  |_,_=>none
 |.bin .and a b=>match nH a,nH b with
  |some false,_=>some false
  |_,some false=>some false
  |some true,some true=>some true
  |_,_=>none
 |_=>none
theorem KL{ρ:Nat→D}: ∀{e:E} {b:Bool},nH e=some b→(den ρ e).gV=b:=by
 intro e
 induction e with
 |ff b=>intro b' h;simp only[nH,ae]at h;subst h;rfl
 |un o e ih=>
  intro b h
  cases o<;>try (simp only[nH]at h;done)
  all_goals first
   |(simp only[nH,da]at h
     obtain⟨b',h1,rfl⟩:=h
     rw[show(den ρ (.un .not e)).gV= !(den ρ e).gV from rfl,ih h1])
   |(cases e<;>simp only[nH,ae,reduceCtorEq]at h
     subst h;rfl)
   |(simp[nH]at h)
 |bin o x y ih1 Xw=>
  intro b h
  have eo:(den ρ (.bin .or x y)).gV=((den ρ x).gV||(den ρ y).gV):=rfl
  have ea:(den ρ (.bin .and x y)).gV=((den ρ x).gV&&(den ρ y).gV):=rfl
  cases o<;>try (simp[nH]at h;done)
  all_goals
   simp only[nH]at h
   try rw[eo]
   try rw[ea]
   cases hx:nH x with
   |none=>cases hy:nH y with
    |none=>rw[hx,hy]at h;cases h
    |some by'=>
     rw[hx,hy]at h
     have h2:=Xw hy
     cases by'<;>simp only[ae,reduceCtorEq]at h
     subst h
     simp[h2]
   |some bx=>cases hy:nH y with
    |none=>
     rw[hx,hy]at h
     have h1:=ih1 hx
     cases bx<;>simp only[ae,reduceCtorEq]at h
     subst h
     simp[h1]
    |some by'=>
     rw[hx,hy]at h
     have h1:=ih1 hx
     have h2:=Xw hy
     cases bx<;>cases by'<;>simp only[ae,reduceCtorEq]at h<;>subst h<;>simp[h1,h2]
 |_=>intro b h;simp[nH]at h
def vc(N:En):Code→(Ex→St→Nat→Nat→VC)→St→Nat→Nat→VC
 |.skip,k,σ,p,d=>k .normal σ p d
 |.label _,k,σ,p,d=>k .normal σ p d
 |.exit i,k,σ,p,d=>k (.exit i) σ p d
 |.ret,k,σ,p,d=>k .ret σ p d
 |.region id ops draw,k,σx,p,d=>
  Ih N id p (aaH N id ops draw k p d) (Tn N id (Qj N id σx))
 |.seq a b,k,σ,p,d=>vc N a (fun ex σ p d=>match ex with| .normal=>vc N b k σ p d|e=>k e σ p d) σ p d
 |.cond c x y,k,σ,p,d=>
  match UH σ N.P c with
  |some (.ff true)=>vc N x k σ p d
  |some (.ff false)=>vc N y k σ p d
  |some e=>match nH e with
   |some true=>vc N x k σ p d
   |some false=>vc N y k σ p d
   |none=>if e.lt p then .branch e (vc N x k σ p d) (vc N y k σ p d) else .stuck 1
  |none=>.stuck 2
 |.block i c,k,σ,p,d=>vc N c (fun ex σ p d=>match ex with| .exit j=>if j=i then k .normal σ p d else k (.exit j) σ p d|e=>k e σ p d) σ p d
 |.loop c,k,σ,p,d=>
  if !N.its.isEmpty&& !gZ c then .stuck 35 else
  let h:=xM N.n (((jU c).bind (lk N.rb)).getD {}) ((((jU c).bind (lk N.rb)).getD {}).own.map (·.1)++assigned c) σ p
  match Kb N.n h σ with
  |some es=>.loop p es (h.jg.map fun x=>nN x.2.1 x.2.2) (vc N c (fun ex σ' p' d'=>match ex with
    |.normal=>match Kb N.n h (Ka h.jg σ') with
     |some wY=>.again (d'-1-d) wY
     |none=>.stuck (3000+p)
    |e=>k e σ' p' d') h.st (p+h.size) (d+1))
  |none=>.stuck (4000+p)
 |_,_,_,_,_=>.stuck 3
theorem E.pw{n m:Nat}(h:n≤m): ∀{e:E},e.lt n=true→e.lt m=true:=by
 intro e
 induction e with
 |var i=>intro he;simp only[E.lt,bQ]at he⊢;omega
 |aT|ff|Fo|gW|nil=>intro _;rfl
 |cons a b rG rF=>intro he;simp only[E.lt,bc]at he⊢;exact⟨rG he.1,rF he.2⟩
 |un o e ih=>intro he;exact ih he
 |bin o a b rG rF=>intro he;simp only[E.lt,bc]at he⊢;exact⟨rG he.1,rF he.2⟩
 |ite c a b PB rG rF=>intro he;simp only[E.lt,bc]at he⊢;exact⟨⟨PB he.1.1,rG he.1.2⟩,rF he.2⟩
theorem ln{ρ gN:Nat→D}{n:Nat}(h: ∀i,i<n→gN i=ρ i){c:dI}(hc:(c.all fun x=>x.1.lt n)=true):aU gN c=aU ρ c:=by
 unfold aU
 rw[cn]at hc
 rw[dB,cn,cn]
 constructor
 ·intro H x hx;rw[←dU h (hc x hx)];exact H x hx
 ·intro H x hx;rw[dU h (hc x hx)];exact H x hx
theorem ti{Φ:Nat→List D→D}{Pre:Nat→List D→Prop}{R:D→Prop}{k:VC}{gk:List (List D→Prop)}{N:Nat}{M:Nat→Prop}: ∀{L:List (Nat×Item)} {lo:Nat} {ρ:Nat→D},Aq lo L=true→(∀x∈L,x.1<N)→
  (vU L k).holds Φ Pre R ρ gk→ ∃gN,(∀i,i<lo→gN i=ρ i)∧(∀x∈L,eU ⟨gN,N,M⟩ Φ Pre x.2)∧k.holds Φ Pre R gN gk
 | [],lo,ρ,_,_,h=>⟨ρ,fun _ _=>rfl,by simp,h⟩
 |(q,it)::r,lo,ρ,hb,hN,h=>by
  simp only[Aq,bc,bQ]at hb
  obtain⟨⟨Lr,iw⟩,hr⟩:=hb
  have hN': ∀x∈r,x.1<N:=fun x hx=>hN x (aI _ hx)
  have hq:q<N:=hN (q,it) (bI ..)
  cases it with
  |Oa pc b=>simp[uG]at iw
  |lM pc e=>
   obtain⟨h1,h2⟩:=h
   obtain⟨gN,a1,a2,a3⟩:=ti (lo:=q) hr hN' h2
   simp only[uG,bc]at iw
   refine⟨gN,fun i hi=>a1 i (by omega),fun x hx=> ?_,a3⟩
   rcases aM.1 hx with rfl|hx
   ·exact⟨E.pw (by show q≤N;omega) iw.2,fun hc=>by
     show(den gN e).gV=true
     rw[dU a1 iw.2];exact h1 ((ln a1 iw.1).symm.trans hc)⟩
   ·exact a2 x hx
  |call p f args pc=>
   obtain⟨h1,h2⟩:=h
   simp only[uG,bc,beq_iff_eq]at iw
   obtain⟨⟨rfl,fP⟩,eu⟩:=iw
   obtain⟨gN,a1,a2,a3⟩:=ti (lo:=p+1) hr hN' (h2 _ rfl)
   have agree: ∀i,i<p→gN i=ρ i:=fun i hi=>(a1 i (by omega)).trans (fJ _ _ (by omega))
   refine⟨gN,fun i hi=>agree i (by omega),fun x hx=> ?_,a3⟩
   rcases aM.1 hx with rfl|hx
   ·refine⟨E.pw (by show p≤N;omega) fP,hq,?_,fun hc=> ?_⟩
    ·show gN p=Φ f (den gN args).aV
     rw[a1 p (by omega),eB,dU agree fP]
    ·show Pre f (den gN args).aV
     rw[dU agree fP];exact h1 ((ln agree eu).symm.trans hc)
   ·exact a2 x hx
  |room pc e b=>
   obtain⟨h1,h2⟩:=h
   obtain⟨gN,a1,a2,a3⟩:=ti (lo:=q) hr hN' h2
   simp only[uG,bc]at iw
   refine⟨gN,fun i hi=>a1 i (by omega),fun x hx=> ?_,a3⟩
   rcases aM.1 hx with rfl|hx
   ·exact⟨E.pw (by show q≤N;omega) iw.2,fun hc=>by
     show(den gN e).aV.length≤maxLen∧(den gN e).aV.length*b≤_
     rw[dU a1 iw.2];exact h1 ((ln a1 iw.1).symm.trans hc)⟩
   ·exact a2 x hx
theorem x9{ρ:Nat→D}: ∀{pc:dI},(den ρ (uR pc)).gV=aU ρ pc
 | [] =>rfl
 | [(e,true)] =>by simp[uR,aU]
 | [(e,false)] =>by simp[uR,aU,den,B.den,U.den,D.gV]
 |(e,true)::x::r=>by
  have:=x9 (ρ:=ρ) (pc:=x::r)
  show((den ρ e).gV&&(den ρ (uR (x::r))).gV)=_
  rw[this]
  simp[aU]
 |(e,false)::x::r=>by
  have:=x9 (ρ:=ρ) (pc:=x::r)
  show(!(den ρ e).gV&&(den ρ (uR (x::r))).gV)=_
  rw[this]
  simp[aU]
theorem Ez: ∀{L:List (Nat×Item)} {lo:Nat},Aq lo L=true→ ∀x∈L,uG x.1 x.2=true
 | [],_,_,x,hx=>by simp at hx
 |(q,it)::r,lo,h,x,hx=>by
  simp only[Aq,bc]at h
  rcases aM.1 hx with rfl|hx
  ·exact h.1.2
  ·exact Ez h.2 x hx
theorem IV{Φ:Nat→List D→D}{Pre:Nat→List D→Prop}{ρ gN:Nat→D}{N q:Nat}{M:Nat→Prop}{it:Item}(h:eU ⟨ρ,N,M⟩ Φ Pre it)(hb:uG q it=true)(CI: ∀i,i<q+1→gN i=ρ i):eU ⟨gN,N,M⟩ Φ Pre it:=by
 have Md: ∀i,i<q→gN i=ρ i:=fun i hi=>CI i (by omega)
 cases it with
 |Oa pc b=>simp[uG]at hb
 |lM pc e=>
  simp only[uG,bc]at hb
  refine⟨h.1,fun hc=> ?_⟩
  show(den gN e).gV=true
  rw[dU Md hb.2]
  exact h.2 ((ln Md hb.1).symm.trans hc)
 |call p f args pc=>
  simp only[uG,bc,beq_iff_eq]at hb
  obtain⟨⟨rfl,fP⟩,eu⟩:=hb
  obtain⟨h1,h2,h3,h4⟩:=h
  refine⟨h1,h2,?_,fun hc=> ?_⟩
  ·show gN p=Φ f (den gN args).aV
   rw[CI p (by omega),dU Md fP];exact h3
  ·show Pre f (den gN args).aV
   rw[dU Md fP];exact h4 ((ln Md eu).symm.trans hc)
 |room pc e b=>
  simp only[uG,bc]at hb
  refine⟨h.1,fun hc=> ?_⟩
  show(den gN e).aV.length≤maxLen∧(den gN e).aV.length*b≤_
  rw[dU Md hb.2]
  exact h.2 ((ln Md hb.1).symm.trans hc)
theorem lh{N:En}{Φ:Nat→List D→D}{Pre:Nat→List D→Prop}{R:D→Prop}{ops:Array Oper}{p0 M:Nat}{MM:Nat→Prop}{fin:List (Nat×jI)→St→VC}{gk:List (List D→Prop)}:
  ∀(n s:Nat) (acc:List (Nat×jI)) (σ:St) (ρ:Nat→D),(tK N ops p0 M fin (List.range' s n) acc σ).holds Φ Pre R ρ gk→p0+s+n≤M→
   ∃(gN:Nat→D) (r:List (Nat×jI)) (σ':St),(∀i,i<p0+s→gN i=ρ i)∧uF N.P N.cs ops p0 M r σ σ'∧r.map (·.1)=List.range' s n∧(∀x∈r,∀it∈x.2.items,eU ⟨gN,M,MM⟩ Φ Pre it)∧(fin (acc++r) σ').holds Φ Pre R gN gk
 |0,s,acc,σ,ρ,h,_=>⟨ρ,[],σ,fun _ _=>rfl,.nil σ,rfl,by simp,by rw[cQ];exact h⟩
 |n+1,s,acc,σ,ρ,h,hM=>by
  rw[List.range'_succ]at h⊢
  simp only[tK]at h
  split at h
  ·exact h.elim
  ·rename_i o ho
   split at h
   ·rename_i e he
    split at h
    ·rename_i hc
     simp only[bc]at hc
     obtain⟨bP,hib⟩:=hc
     obtain⟨Lm,a1,a2,a3⟩:=ti (N:=M) (M:=MM) hib (fun x hx=>by
      obtain⟨it,_,rfl⟩:=bB.1 hx
      show p0+s<M;omega) h
     obtain⟨gN,r,σ',b1,b2,b3,b4,b5⟩:=lh n (s+1) _ _ Lm a3 (by omega)
     refine⟨gN,(s,e)::r,σ',fun i hi=>(b1 i (by omega)).trans (a1 i hi),.cons ho ⟨none,he⟩ bP b2,by simp[b3],?_,by simpa using b5⟩
     intro x hx it iw
     rcases aM.1 hx with rfl|hx
     ·have hm:(p0+s,it)∈e.items.map fun it=>(p0+s,it):=bB.2 ⟨it,iw,rfl⟩
      exact IV (a2 _ hm) (Ez hib _ hm) (fun i hi=>b1 i (by show i<p0+(s+1);have:i<p0+s+1:=hi;omega))
     ·exact b4 x hx it iw
    ·exact h.elim
   ·split at h
    ·rename_i y hy
     split at h
     ·rename_i x et ef hx het Xj
      split at h
      ·rename_i hc
       simp only[bc]at hc
       obtain⟨⟨bP,hlf⟩,fP⟩:=hc
       obtain⟨k1,k2⟩:=h
       obtain⟨h1,h2⟩:=k2 _ rfl
       have key: ∀(b:Bool) (e:jI),lK (some b) N.P N.cs ops σ (p0+s) o=some e→e.yh.2.lt M=true→(den (fU ρ (p0+s) (Φ x.k (den ρ x.args).aV)) (PA (p0+s))).gV= !b→
         (tK N ops p0 M fin (List.range' (s+1) n) (acc++[(s,e)]) (e.app σ)).holds Φ Pre R (fU ρ (p0+s) (Φ x.k (den ρ x.args).aV)) gk→
         ∃(gN:Nat→D) (r:List (Nat×jI)) (σ':St),(∀i,i<p0+s→gN i=ρ i)∧uF N.P N.cs ops p0 M r σ σ'∧r.map (·.1)=s::List.range' (s+1) n∧(∀x∈r,∀it∈x.2.items,eU ⟨gN,M,MM⟩ Φ Pre it)∧(fin (acc++r) σ').holds Φ Pre R gN gk:=by
        intro b e he hle LM hh
        obtain⟨gN,r,σ',b1,b2,b3,b4,b5⟩:=lh n (s+1) _ _ _ hh (by omega)
        have ag: ∀i,i<p0+s→gN i=ρ i:=fun i hi=>(b1 i (by omega)).trans (fJ _ _ (by omega))
        refine⟨gN,(s,e)::r,σ',ag,.cons ho ⟨some b,he⟩ hle b2,by simp[b3],?_,by simpa using b5⟩
        intro z hz it iw
        rcases aM.1 hz with rfl|hz
        ·unfold lK at he
         simp only[hy]at he
         split at he
         ·cases he
         split at he
         ·rename_i fs hfs
          rw[hx]at he
          simp only[aP,ae]at he
          have ag6:e.items=[.Oa [(PA (p0+s),!b)] true,.call (p0+s) x.k x.args []] :=by rw[←he];cases b<;>rfl
          rw[ag6]at iw
          have hvp:gN (p0+s)=Φ x.k (den ρ x.args).aV:=by rw[b1 (p0+s) (by omega),eB]
          simp only[aM,fc,or_false]at iw
          rcases iw with rfl|rfl
          ·show aU gN [(PA (p0+s),!b)] =true
           simp only[aU,List.all_cons,bW,Bool.and_true,beq_iff_eq,PA,den,hvp]
           rw[←LM]
           simp only[PA,den,eB]
          ·refine⟨E.pw (by show p0+s≤M;omega) fP,by show p0+s<M;omega,?_,fun _=> ?_⟩
           ·show gN (p0+s)=Φ x.k (den gN x.args).aV
            rw[hvp,dU ag fP]
           ·show Pre x.k (den gN x.args).aV
            rw[dU ag fP];exact k1 rfl
         ·cases he
        ·exact b4 z hz it iw
       cases hb:(den (fU ρ (p0+s) (Φ x.k (den ρ x.args).aV)) (PA (p0+s))).gV with
       |true=>exact key false ef Xj hlf hb (h1 hb)
       |false=>exact key true et het bP hb (h2 hb)
      ·exact h.elim
     ·exact h.elim
    rename_i Sc
    split at h
    ·rename_i pc x et ef hg hx het Xj
     split at h
     ·rename_i hc
      simp only[bc]at hc
      obtain⟨⟨⟨bP,hlf⟩,eu⟩,fP⟩:=hc
      obtain⟨h1,h2⟩:=h
      rw[x9]at h1 h2
      have agree: ∀gN:Nat→D,(∀i,i<p0+s→gN i=ρ i)→aU gN pc=aU ρ pc:=fun gN CI=>ln CI eu
      cases hb:aU ρ pc with
      |true=>
       obtain⟨k1,k2⟩:=h1 hb
       have k3:=k2 _ rfl
       obtain⟨gN,r,σ',b1,b2,b3,b4,b5⟩:=lh n (s+1) _ _ _ k3 (by omega)
       have ag: ∀i,i<p0+s→gN i=ρ i:=fun i hi=>(b1 i (by omega)).trans (fJ _ _ (by omega))
       refine⟨gN,(s,et)::r,σ',ag,.cons ho ⟨some true,het⟩ bP b2,by simp[b3],?_,by simpa using b5⟩
       intro y hy it iw
       rcases aM.1 hy with rfl|hy
       ·rw[hg,cu]at hx
        unfold lK at het
        simp only[Sc,hg,hx]at het
        split at het
        ·cases het
        injection het with het
        rw[←het]at iw
        simp only[aM,fc,or_false]at iw
        rcases iw with rfl|rfl
        ·show aU gN pc=true
         rw[agree gN ag,hb]
        ·refine⟨E.pw (by show p0+s≤M;omega) fP,by show p0+s<M;omega,?_,fun _=> ?_⟩
         ·show gN (p0+s)=Φ x.k (den gN x.args).aV
          rw[b1 (p0+s) (by omega),eB,dU ag fP]
         ·show Pre x.k (den gN x.args).aV
          rw[dU ag fP];exact k1 rfl
       ·exact b4 y hy it iw
      |false=>
       obtain⟨gN,r,σ',b1,b2,b3,b4,b5⟩:=lh n (s+1) _ _ _ (h2 hb) (by omega)
       have ag: ∀i,i<p0+s→gN i=ρ i:=fun i hi=>b1 i (by omega)
       refine⟨gN,(s,ef)::r,σ',ag,.cons ho ⟨some false,Xj⟩ hlf b2,by simp[b3],?_,by simpa using b5⟩
       intro y hy it iw
       rcases aM.1 hy with rfl|hy
       ·unfold lK at Xj
        simp only[Sc,hg]at Xj
        split at Xj
        ·rename_i pc' sig ae2 _
         injection ae2 with ae2;subst ae2
         injection Xj with Xj
         rw[←Xj]at iw
         simp only[aM,fc,or_false]at iw
         subst iw
         show aU gN pc=false
         rw[agree gN ag,hb]
        ·cases Xj
       ·exact b4 y hy it iw
     ·exact h.elim
    ·exact h.elim
section
variable{w0:World}{S0:iu}{C:Cx}{G:Gh}{σ:St}{a:Act}{w:World}{n:Nat}
theorem iq.drew(h:iq n w0 S0 C G σ a w):iq n w0 S0 C G σ a {w with drawn:=w.drawn+1}:=by
 have cp:dT C w G C {w with drawn:=w.drawn+1} G:=⟨fun _ h=>⟨rfl,h⟩,fun _ h=>h,fun _ _ h=>h,fun _ _ _=>rfl,fun _ _=>rfl,fun _ _=>rfl⟩
 refine⟨⟨h.m.below.drew,h.m.kW,h.m.keep,h.m.si,h.m.mQ,h.m.dO,h.m.iN,h.m.pb,?_,h.m.inj,?_,h.m.gS,h.m.kM,h.m.eV,h.m.oW cp rfl (fun _ _ _=>rfl) (fun _ _ h _=>h),h.m.wz⟩,h.t.later cp,h.sz,h.defers⟩
 ·intro id ro cs hx
  obtain⟨h1,h2,h3,h5⟩:=h.m.box id ro cs hx
  exact⟨h1,h2,h3.later cp rfl,h5⟩
 ·intro g e T t hx
  exact(h.m.own g e T t hx).later cp (fun _ _=>rfl) (fun _ _ _ h=>h)
structure afz(N:En)(Φ:Nat→List D→D)(Pre:Nat→List D→Prop)(w0:World)(S0:iu):Prop where
 fl: ∀k sig ob,lk N.cs.l k=some sig→sig.ob=some ob→ob.Ae=true→ ∀b o,S0.kJ b o→ ¬kA w0 S0 b
 cf:Mh N.P N.cs S0 Φ Pre
 wz:N.cs.fr=2→(∀b o,¬S0.kJ b o)∧S0.wz
 dfs:N.its≠ [] →Dfs w0 S0
def Marks(w0:World)(S0 S1:iu):Prop:= ∃ms:List Nat,S1.dfs=ms.map mark++S0.dfs∧ ∀r∈ms,w0.heap.size≤r
theorem Marks.refl(w0:World)(S0:iu):Marks w0 S0 S0:=⟨[],rfl,by simp⟩
theorem Marks.trans{w0 w1:World}{S0 S1 S2:iu}(h:Marks w0 S0 S1)(hw:w0.heap.size≤w1.heap.size)(k:Marks w1 S1 S2):Marks w0 S0 S2:=by
 obtain⟨ms,h1,h2⟩:=h
 obtain⟨ns,k1,k2⟩:=k
 refine⟨ns++ms,by rw[k1,h1];simp,fun r hr=> ?_⟩
 rcases aS.1 hr with hr|hr
 ·exact aR hw (k2 r hr)
 ·exact h2 r hr
structure re(N:En)(Φ:Nat→List D→D)(Pre:Nat→List D→Prop)(c:Code)(w0:World)(S0:iu)(w1:World)(S1:iu):Prop where
 same:N.its=[] ∨gZ c=true→w1=w0∧S1=S0
 ext:Ext w0 S0 w1 S1
 env:afz N Φ Pre w1 S1
 marks:Marks w0 S0 S1
theorem re.refl{N:En}{Φ:Nat→List D→D}{Pre:Nat→List D→Prop}{c:Code}{w0:World}{S0:iu}(h:afz N Φ Pre w0 S0):re N Φ Pre c w0 S0 w0 S0:=⟨fun _=>⟨rfl,rfl⟩,Ext.refl _ _,h,Marks.refl _ _⟩
theorem re.seq{N:En}{Φ:Nat→List D→D}{Pre:Nat→List D→Prop}{x y z:Code}{w0 w1 w2:World}{S0 S1 S2:iu}(hx:gZ z=true→gZ x=true)(hy:gZ z=true→gZ y=true)(h:re N Φ Pre x w0 S0 w1 S1)(k:re N Φ Pre y w1 S1 w2 S2):re N Φ Pre z w0 S0 w2 S2 where
 same hc:=by
  obtain⟨rfl,rfl⟩:=h.same (hc.imp id hx)
  exact k.same (hc.imp id hy)
 ext:=h.ext.trans k.ext
 env:=k.env
 marks:=h.marks.trans h.ext.below.size k.marks
theorem re.sub{N:En}{Φ:Nat→List D→D}{Pre:Nat→List D→Prop}{x z:Code}{w0 w1:World}{S0 S1:iu}(hx:gZ z=true→gZ x=true)(h:re N Φ Pre x w0 S0 w1 S1):re N Φ Pre z w0 S0 w1 S1:=⟨fun hc=>h.same (hc.imp id hx),h.ext,h.env,h.marks⟩
theorem Qo.sub{ro:Option Nat}{z c:Code}{Q Q':Exit→Act→World→Prop}(h:Qo ro z Q)(hp:gZ z=true→gZ c=true)(hq: ∀a w,Q' .outgrown a w→Q .outgrown a w):Qo ro c Q':=fun hr=>⟨hp (h hr).1,fun a w hw=>(h hr).2 a w (hq a w hw)⟩
section
variable{w0:World}{S0:iu}{C:Cx}{G:Gh}{σ:St}{a:Act}{w:World}{n:Nat}
theorem fp.Zw(h:fp w0 S0 C G σ w){g:Tag}{e:E}{T:TypeId}{t:Ty}(hg:σ.live g=some (e,T,t))(hex:g.ex=true)(iY:0<t.cells.length)(qp: ¬S0.fr)(mg: ¬S0.wz):
  ∃G',dT C w G C w G'∧fp w0 S0 C G' {σ with live:=fun g'=>if g'=g then none else σ.live g'} w∧e.lt C.N=true∧cH w G'.S (G.τ g) (den C.ρ e)∧Has (.list t) (den C.ρ e):=by
 have cI:=h.own g e T t hg
 obtain⟨xs,l,hd,dm,hS,hr⟩:=cI.own
 have cp:dT C w G C w {G with S:=fun b o=>G.S b o∨((G.τ g).ownBlock=some b∧o<xs.length)}:=
  ⟨fun _ h=>⟨rfl,h⟩,fun _ h=>h,fun _ _ h=>.inl h,fun _ _ _=>rfl,fun _ _=>rfl,fun _ _=>rfl⟩
 have cJ: ∀{g':Tag} {x:E×TypeId×Ty},(if g'=g then none else σ.live g')=some x→g'≠g∧σ.live g'=some x:=by
  intro g' x hx
  split at hx
  ·cases hx
  ·rename_i fY;exact⟨fY,hx⟩
 refine⟨{G with S:=fun b o=>G.S b o∨((G.τ g).ownBlock=some b∧o<xs.length)},cp,?_,cI.lt,?_,cI.has⟩
 ·refine⟨h.below,fun b o hs=>.inl (h.kW b o hs),h.keep,h.si,h.mQ,?_,?_,h.pb,?_,h.inj,?_,?_,?_,?_,fun hf=>absurd hf qp,fun hz=>absurd hz mg⟩
  ·rintro b o (hs|⟨hb,_⟩)
   ·exact h.dO b o hs
   ·exact(cI.hY b hb).2
  ·rintro b o (hs|⟨hb,_⟩)
   ·exact h.iN b o hs
   ·exact .inr (h.gS g _ b hg hb)
  ·intro i Ji tI hx
   obtain⟨h1,h2,h3,h5⟩:=h.box i Ji tI hx
   refine⟨h1,h2,h3.later cp rfl,?_⟩
   cases Ji with
   |true=>simp only[if_true]at h5⊢;exact fun o ho=>.inl (h5 o ho)
   |false=>
    simp only[ak,if_false]at h5⊢
    rintro o (ho|⟨he,_⟩)
    ·exact h5 o ho
    ·exact h.eV g i _ _ _ hg hx he rfl
  ·intro g' e' T' t' hx
   obtain⟨fY,hx⟩:=cJ hx
   refine(h.own g' e' T' t' hx).later cp (fun _ _=>rfl) (fun b hb o hs=> ?_)
   rcases hs with hs|⟨ju,_⟩
   ·exact hs
   ·exact absurd (h.kM g' g _ _ b hx hg hb ju) fY
  ·intro g' x b hx hb
   exact h.gS g' x b (cJ hx).2 hb
  ·intro g1 g2 x y b hx hy h1 h2
   exact h.kM g1 g2 x y b (cJ hx).2 (cJ hy).2 h1 h2
  ·intro g' i x y b hx hy hb
   exact h.eV g' i x y b (cJ hx).2 hy hb
 ·rw[hd]
  obtain⟨hl,hh⟩:=dm
  rcases hh with⟨hv,hn⟩|⟨b,cap,cur,hv,hb,jq,zZ,Jg,kP,xf⟩
  ·have:l=[] :=au hn
   subst this
   rw[hv];exact .nil none 0
  ·have iR:=cI.has
   rw[hd]at iR
   obtain⟨l',lD,_,hx⟩:=bK.1 iR
   injection lD with lD;subst lD
   by_cases fY:l=[]
   ·subst fY;rw[hv];exact .nil _ cap
   ·have fX:(G.τ g).ownBlock=some b:=by rw[hv];rfl
    rw[hv]at fX⊢
    refine .list b 0 cap t.cells.length xs l iY fY zZ hl (fun i hi=> ?_) (fun i v hi=> ?_) (fun i d kO=> ?_) (fun i d j v c h1 h2 h3=>(hr i d j v c h1 h2 h3).keep (fun _ _ h=>.inl h) (fun _ _ _=>rfl))
    ·rw[ay];exact .inr ⟨fX,hi⟩
    ·rw[ay,cell_of_row w b i cur T (0,0) jq]
     rw[←xf,aG]at hi
     split at hi
     ·simpa using hi
     ·cases hi
    ·exact(cN (hx d (ca kO))).1
theorem iq.Qk(h:iq n w0 S0 C G σ a w)(qp: ¬S0.fr)(mg: ¬S0.wz)(id i:Nat): ∃G',iq n w0 S0 C G' (Qk id σ i) a w:=by
 unfold dV.Qk
 split
 ·rename_i cs fD
  split
  ·rename_i g u N9
   split
   ·rename_i e T u' hg
    split
    ·rename_i hc
     obtain⟨rfl,hex,iY⟩:=hc
     obtain⟨G',cp,hm,bP,jf,iR⟩:=h.m.Zw hg hex iY qp mg
     have iJ:i<cs.length:=(aH.1 N9).1
     have E2:mapOf cs=none:=by
      unfold mapOf
      split
      ·rename_i e' kt T'
       have:i=0:=by simpa using iJ
       subst this
       cases N9
      ·rfl
     have aBF:mapOf (cs.set i (.iW e (.list u')))=none:=by
      unfold mapOf
      split
      ·rename_i e' kt T' heq
       have hl:=congrArg List.length heq
       simp at hl
       have:i=0:=by omega
       subst this
       cases cs with
       |nil=>simp at iJ
       |cons c r=>simp at heq
      ·rfl
     have afh:(⟨σ.tm,σ.hp,fun g'=>if g'=g then none else σ.live g'⟩:St).hp id=some (false,cs):=fD
     refine⟨G',⟨?_,h.t.later cp,h.sz,h.defers⟩⟩
     have hpr: ∀{j:Nat} {x:Bool×List SC},fU σ.hp id (some (false,cs.set i (.iW e (.list u')))) j=some x→ ∃y,σ.hp j=some y:=by
      intro j x hx
      by_cases hj:j=id
      ·exact⟨_,hj▸fD⟩
      ·rw[fJ _ _ hj]at hx;exact⟨_,hx⟩
     refine⟨hm.below,hm.kW,hm.keep,hm.si,hm.mQ,hm.dO,hm.iN,?_,?_,?_,hm.own,hm.gS,hm.kM,?_,hm.fresh,hm.wz⟩
     ·intro j x hx
      obtain⟨y,hy⟩:=hpr hx
      exact hm.pb j y hy
     ·intro j Ji tI hx
      by_cases hj:j=id
      ·subst hj
       have hx:fU σ.hp j (some (false,cs.set i (.iW e (.list u')))) j=some (Ji,tI):=hx
       simp only[eB,ae,ai]at hx
       obtain⟨rfl,rfl⟩:=hx
       obtain⟨b1,b2,b3,b4⟩:=hm.box j _ _ afh
       obtain⟨vs,Tb,jq,pT⟩:=b3.cells E2
       refine⟨b1,?_,.mk jq ⟨by rw[bE];exact pT.1,fun k c v hc hv=> ?_⟩,?_⟩
       ·rw[cn]at b2⊢
        intro x hx
        rcases List.mem_or_eq_of_mem_set hx with hx|rfl
        ·exact b2 x hx
        ·rfl
       ·by_cases hk:k=i
        ·subst hk
         rw[List.getElem?_set_self iJ]at hc
         injection hc with hc;subst hc
         obtain⟨hM,pn,_⟩:=pT.2 k _ v N9 hv
         have iI:G'.τ g=G.τ g:=cp.τ g hM
         exact⟨bP,by rw[pn,iI];exact jf,iR⟩
        ·rw[List.getElem?_set_ne (fun e=>hk e.symm)]at hc
         exact pT.2 k c v hc hv
       ·simp only[ak,if_false]at b4⊢
        exact b4
      ·have hx:σ.hp j=some (Ji,tI):=by
        have hx:fU σ.hp id (some (false,cs.set i (.iW e (.list u')))) j=some (Ji,tI):=hx
        rwa [fJ _ _ hj]at hx
       exact hm.box j Ji tI hx
     ·intro j k x y hx hy he
      obtain⟨x',lv⟩:=hpr hx
      obtain⟨y',om⟩:=hpr hy
      exact hm.inj j k x' y' lv om he
     ·intro g' j x y b hx hy hb
      obtain⟨y',om⟩:=hpr hy
      exact hm.eV g' j x y' b hx om hb
    ·exact⟨G,h⟩
   ·exact⟨G,h⟩
  ·exact⟨G,h⟩
 ·exact⟨G,h⟩
theorem iq.al6(qp: ¬S0.fr)(mg: ¬S0.wz)(id:Nat): ∀(l:List Nat) {G:Gh} {σ:St},iq n w0 S0 C G σ a w→ ∃G',iq n w0 S0 C G' (l.foldl (dV.Qk id) σ) a w
 | [],G,_,h=>⟨G,h⟩
 |t::l,_,_,h=>by
  obtain⟨G',h'⟩:=h.Qk qp mg id t
  exact iq.al6 qp mg id l h'
theorem iq.Qi(h:iq n w0 S0 C G σ a w)(qp: ¬S0.fr)(mg: ¬S0.wz)(t:Nat): ∃G',iq n w0 S0 C G' (Qi σ t) a w:=by
 unfold dV.Qi
 split
 ·split
  ·exact iq.al6 qp mg _ _ h
  ·exact⟨G,h⟩
 ·exact⟨G,h⟩
theorem iq.abN(qp: ¬S0.fr)(mg: ¬S0.wz): ∀(l:List Nat) {G:Gh} {σ:St},iq n w0 S0 C G σ a w→ ∃G',iq n w0 S0 C G' (l.foldl dV.Qi σ) a w
 | [],G,_,h=>⟨G,h⟩
 |t::l,_,_,h=>by
  obtain⟨G',h'⟩:=h.Qi qp mg t
  exact iq.abN qp mg l h'
theorem iq.al5: ∀(l:List Nat) {G:Gh} {σ:St},iq n w0 S0 C G σ a w→ ∃G',iq n w0 S0 C G' (l.foldl (fun σ t=>dV.JO σ (.tmp t,.ptr .nil,none)) σ) a w
 | [],G,_,h=>⟨G,h⟩
 |t::l,_,_,h=>by
  obtain⟨G1,h1⟩:=h.JO (.tmp t,.ptr .nil,none)
  exact iq.al5 l h1
theorem iq.Tn{N:En}(r:Nat)(h:iq n w0 S0 C G σ a w): ∃G',iq n w0 S0 C G' (dV.Tn N r σ) a w:=iq.al5 _ h
theorem iq.Qj{N:En}(r:Nat)(h:iq n w0 S0 C G σ a w)(hf:N.cs.fr=0→ ¬S0.fr∧ ¬S0.wz): ∃G',iq n w0 S0 C G' (Qj N r σ) a w:=by
 unfold dV.Qj
 split
 ·rename_i hq
  obtain⟨h1,h2⟩:=hf (by simpa using hq)
  exact iq.abN h1 h2 _ h
 ·exact⟨G,h⟩
end
theorem fp.setCell(h:fp w0 S0 C G σ w){id c:Nat}{cs:List SC}{x y:SC}(fD:σ.hp id=some (false,cs))(hc:cs[c]? =some x)(hx:x.scalar=true→y.scalar=true)(E2: ∀e kt T,x≠ .xD e kt T)
  (hxy: ∀v,tJ C w G x v→tJ C w G y v):fp w0 S0 C G (Sy σ id c cs y) w:=by
 have hup: ∀i z,(Sy σ id c cs y).hp i=some z→(i=id∧z=(false,cs.set c y))∨(i≠id∧σ.hp i=some z):=by
  intro i z hz
  simp only[Sy]at hz
  by_cases hi:i=id
  ·subst hi;rw[eB]at hz;injection hz with hz;exact .inl ⟨rfl,hz.symm⟩
  ·rw[fJ _ _ hi]at hz;exact .inr ⟨hi,hz⟩
 have kV: ∀i z,(Sy σ id c cs y).hp i=some z→ ∃z',σ.hp i=some z':=by
  intro i z hz
  rcases hup i z hz with⟨rfl,_⟩|⟨_,h⟩
  ·exact⟨_,fD⟩
  ·exact⟨_,h⟩
 refine{below:=h.below,kW:=h.kW,keep:=h.keep,si:=h.si,mQ:=h.mQ,dO:=h.dO,iN:=h.iN,pb:= ?_,box:= ?_,inj:= ?_,own:=h.own,gS:=h.gS,kM:=h.kM,eV:= ?_,fresh:=h.fresh,wz:=h.wz}
 ·intro i z hz
  obtain⟨z',h'⟩:=kV i z hz
  exact h.pb i z' h'
 ·intro i ro tI hz
  rcases hup i _ hz with⟨rfl,h2⟩|⟨_,h2⟩
  ·simp only[ai]at h2
   obtain⟨rfl,rfl⟩:=h2
   obtain⟨b1,b2,b3,b4⟩:=h.box _ _ _ fD
   have hm:mapOf cs=none:=by
    unfold mapOf
    split
    ·rename_i e kt T
     cases c with
     |zero=>simp at hc;exact absurd hc.symm (E2 _ _ _)
     |succ c=>simp at hc
    ·rfl
   obtain⟨vs,T,e1,e2⟩:=b3.cells hm
   have jY:c<cs.length:=(aH.1 hc).1
   refine⟨b1,?_,kY.mk (vs:=vs) (T:=T) e1 ⟨by simpa using e2.1,?_⟩,by simpa using b4⟩
   ·rw[cn]at b2⊢
    intro z hz
    rcases List.mem_or_eq_of_mem_set hz with hz|rfl
    ·exact b2 z hz
    ·exact hx (b2 x (ca hc))
   ·intro i z v hz hv
    rw[cT]at hz
    split at hz
    ·rename_i N9
     subst N9
     injection hz with hz;subst hz
     exact hxy v (e2.2 _ _ _ hc hv)
    ·exact e2.2 _ _ _ hz hv
  ·exact h.box _ _ _ h2
 ·intro i j a b ha hb
  obtain⟨a',ha'⟩:=kV i a ha
  obtain⟨b',ju⟩:=kV j b hb
  exact h.inj i j a' b' ha' ju
 ·intro g i a b bl hg hb
  obtain⟨b',ju⟩:=kV i b hb
  exact h.eV g i a b' bl hg ju
theorem KW{N:En}{Φ:Nat→List D→D}{Pre:Nat→List D→Prop}{R:D→Prop}{r p n:Nat}{f:St→VC}{σ:St}{ρ:Nat→D}{gk:List (List D→Prop)}{w0 w:World}{S0:iu}{G:Gh}{a:Act}{id c m:Nat}{cs:List SC}{e:E}{kd:IntKind}
  (wX:xR N r σ p=some (id,c,cs,e,kd,m)) (hs:iq n w0 S0 ⟨ρ,p,fun i=>i<p⟩ G σ a w): ∀l:List Nat,(za f σ id c cs e kd l).holds Φ Pre R ρ gk→ ∃σ',(f σ').holds Φ Pre R ρ gk∧iq n w0 S0 ⟨ρ,p,fun i=>i<p⟩ G σ' a w:=by
 have hh:σ.hp id=some (false,cs)∧cs[c]? =some (.iW e (.int kd)):=by
  unfold xR at wX
  split at wX
  ·split at wX
   ·split at wX
    ·rename_i ug
     split at wX
     ·rename_i qt
      split at wX
      ·injection wX with wX
       simp only[ai]at wX
       obtain⟨rfl,rfl,rfl,rfl,rfl,_⟩:=wX
       exact⟨ug,qt⟩
      ·cases wX
     ·cases wX
    ·cases wX
   ·cases wX
  ·cases wX
 obtain⟨fD,hc⟩:=hh
 intro l
 induction l with
 |nil=>intro h;exact h.elim
 |cons j r ih=>
  intro h
  unfold za at h
  obtain⟨h1,h2⟩:=h
  cases hb:(den ρ (.bin .eq e (.aT kd j))).gV with
  |false=>exact ih (h2 hb)
  |true=>
   refine⟨_,h1 hb,⟨hs.m.setCell fD hc (fun _=>rfl) (fun _ _ _ h=>by cases h) ?_,hs.t,hs.sz,hs.defers⟩⟩
   rintro v ⟨bP,jf,iR⟩
   obtain⟨z,hz,hzk⟩:=dA.1 iR
   have hzj:z=(j:Int):=by
    have NZ:den ρ e= .int kd z:=hz
    simp only[den,B.den,NZ,D.aq,D.gV]at hb
    simpa using hb
   subst hzj
   refine⟨rfl,?_,dA.2 ⟨(j:Int),rfl,hzk⟩⟩
   rw[hz]at jf
   exact jf
theorem Nf{N:En}{Φ:Nat→List D→D}{Pre:Nat→List D→Prop}{R:D→Prop}{r p n:Nat}{f:St→VC}{σ:St}{ρ:Nat→D}{gk:List (List D→Prop)}{w0 w:World}{S0:iu}{G:Gh}{a:Act}
  (h:(Ih N r p f σ).holds Φ Pre R ρ gk) (hs:iq n w0 S0 ⟨ρ,p,fun i=>i<p⟩ G σ a w): ∃σ',(f σ').holds Φ Pre R ρ gk∧iq n w0 S0 ⟨ρ,p,fun i=>i<p⟩ G σ' a w:=by
 unfold Ih at h
 split at h
 ·rename_i t e kd m wX
  have ht:σ.tm t=some ([],.one (.iW e (.int kd))):=by
   unfold splitAt at wX
   split at wX
   ·rename_i x0 _
    generalize X3 x0=y at wX
    split at wX
    ·rename_i yd
     split at wX
     ·injection wX with wX
      simp only[ai]at wX
      obtain⟨rfl,rfl,rfl,_⟩:=wX
      exact yd
     ·cases wX
    ·cases wX
   ·cases wX
  obtain⟨v,hv,hc,_,hr⟩:=hs.t t _ _ ht
  simp only[aU,bW,if_true]at hr
  obtain⟨bP,jf,iR⟩:=hr
  obtain⟨z,hz,hzk⟩:=dA.1 iR
  have go: ∀l:List Nat,(Co f σ t e kd l).holds Φ Pre R ρ gk→ ∃σ',(f σ').holds Φ Pre R ρ gk∧iq n w0 S0 ⟨ρ,p,fun i=>i<p⟩ G σ' a w:=by
   intro l
   induction l with
   |nil=>intro h;exact h.elim
   |cons j r ih=>
    intro h
    unfold Co at h
    obtain⟨h1,h2⟩:=h
    cases hb:(den ρ (.bin .eq e (.aT kd j))).gV with
    |false=>exact ih (h2 hb)
    |true=>
     have hzj:z=(j:Int):=by
      have NZ:den ρ e= .int kd z:=hz
      simp only[den,B.den,NZ,D.aq,D.gV]at hb
      simpa using hb
     subst hzj
     refine⟨_,h1 hb,⟨hs.m.congr (σ':=JB σ t (.iW (.aT kd j) (.int kd))) rfl rfl,?_,hs.sz,hs.defers⟩⟩
     intro t' c s rH
     have L6:fU σ.tm t (some ([],.one (.iW (.aT kd j) (.int kd)))) t'=some (c,s):=rH
     by_cases Jp:t'=t
     ·subst Jp
      rw[eB]at L6
      injection L6 with L6
      simp only[ai]at L6
      obtain⟨rfl,rfl⟩:=L6
      refine⟨v,hv,by simp,rfl,?_⟩
      simp only[aU,bW,if_true]
      refine⟨rfl,?_,dA.2 ⟨(j:Int),rfl,hzk⟩⟩
      rw[hz]at jf
      exact jf
     ·rw[fJ _ _ Jp]at L6
      exact hs.t t' c s L6
  exact go _ h
 ·split at h
  ·rename_i wX
   exact KW wX hs _ h
  ·exact⟨σ,h,hs⟩
theorem Qq{N:En}{Φ:Nat→List D→D}{Pre:Nat→List D→Prop}{R:D→Prop}(xF:N.P.follows .mixedOrders=true)(iF: ∀k sig,lk N.cs.l k=some sig→bh N.P k sig (Pre k) (Φ k))
  (hfw: ∀k y,lk N.fw k=some y→Iw N.P k y.1 y.2 (fun _=>True) (Φ k)) (W9: ∀k y,lk N.wl k=some y→M6 N.P k y.1 y.2) (alE: ∀k y,lk N.its k=some y→ahr N.P k y.1 y.2 (Pre k) (Φ k)):
  ∀(c:Code) (ro:Option Nat) (k:Ex→St→Nat→Nat→VC) (σ:St) (p d:Nat) (ρ:Nat→D) (gk:List (List D→Prop)) (Q:Exit→Act→World→Prop) (w0:World) (S0:iu),afz N Φ Pre w0 S0→Qo ro c Q→
  (vc N c k σ p d).holds Φ Pre R ρ gk→gk.length=d→(∀i b,S0.si i=some b→i<p)→
  (∀w1 S1,re N Φ Pre c w0 S0 w1 S1→ ∀ex σ' p' d' gN nr a w G,(∀i b,S1.si i=some b→i<p')→p≤p'→(∀i,i<p→gN i=ρ i)→nr.length=d'→(∃l,nr=l++gk)→(k ex σ' p' d').holds Φ Pre R gN nr→iq N.n w1 S1 ⟨gN,p',fun i=>i<p'⟩ G σ' a w→Q ex.to a w)→
  ∀a w G,iq N.n w0 S0 ⟨ρ,p,fun i=>i<p⟩ G σ a w→WP ro N.P c Q a w:=by
 intro c
 induction c with
 |skip=>intro ro k σ p d ρ gk Q w0 S0 hV qB h hd o9 hk a w G hs;exact WP.skip (hk _ _ (re.refl hV) .normal _ _ _ _ _ a w G o9 (bn _) (fun _ _=>rfl) hd ⟨[],rfl⟩ h hs)
 |label l=>intro ro k σ p d ρ gk Q w0 S0 hV qB h hd o9 hk a w G hs;exact WP.label (hk _ _ (re.refl hV) .normal _ _ _ _ _ a w G o9 (bn _) (fun _ _=>rfl) hd ⟨[],rfl⟩ h hs)
 |exit i=>intro ro k σ p d ρ gk Q w0 S0 hV qB h hd o9 hk a w G hs;exact WP.exit (hk _ _ (re.refl hV) (.exit i) _ _ _ _ _ a w G o9 (bn _) (fun _ _=>rfl) hd ⟨[],rfl⟩ h hs)
 |ret=>intro ro k σ p d ρ gk Q w0 S0 hV qB h hd o9 hk a w G hs;exact WP.ret (hk _ _ (re.refl hV) .ret _ _ _ _ _ a w G o9 (bn _) (fun _ _=>rfl) hd ⟨[],rfl⟩ h hs)
 |region id ops draw=>
  intro ro k σ p d ρ gk Q w0 S0 hV qB h hd o9 hk a w G hs
  have wM:=hV.fl
  have wO:=hV.cf
  have hwz:=hV.wz
  replace hk: ∀ex σ' p' d' gN nr a w G,p≤p'→(∀i,i<p→gN i=ρ i)→nr.length=d'→(∃l,nr=l++gk)→(k ex σ' p' d').holds Φ Pre R gN nr→iq N.n w0 S0 ⟨gN,p',fun i=>i<p'⟩ G σ' a w→Q ex.to a w:=
   fun ex σ' p' d' gN nr a w G hp=>hk w0 S0 (re.refl hV) ex σ' p' d' gN nr a w G (fun i b hi=>ar (o9 i b hi) hp) hp
  simp only[vc]at h
  obtain⟨G,hs⟩:=hs.Qj (N:=N) id (fun hz=>⟨fun hf=>by have:=hV.cf.1 hf;omega,fun hf=>by have:=hV.cf.2 hf;omega⟩)
  obtain⟨G,hs⟩:=hs.Tn (N:=N) id
  generalize Tn N id (Qj N id σ)=σ at h hs
  obtain⟨WV,h2,ye⟩:=Nf h hs
  clear h hs
  clear σ
  revert h2 ye
  revert WV
  intro σ h hs
  unfold aaH at h
  split at h
  ·rename_i c hx
   obtain⟨rfl,jY⟩:=Nb hx
   simp only[if_true]at jY
   obtain⟨Lm,r1,ZW,JN,MV,Dm,Ut,LK⟩:=lh (MM:=fun i=>i<p) c 0 [] σ ρ h (by omega)
   rw[ep]at JN
   split at LK
   ·rename_i t e RH
    rw[dP]at RH
    obtain⟨o,ho,RH⟩:=RH
    split at LK
    ·rename_i eT
     simp only[abO]at eT
     have OL: ∀(i:Nat) (o:Oper) (dd:Nat),ops[i]? =some o→o.dst=some dd→dd<N.n:=fun i o dd ho hod=>by
      have:=cn.1 eT o (by simpa using Array.mem_of_getElem? ho)
      rw[hod]at this;simpa using this
     have EZ: ∀y∈r1,y.1<c:=fun y hy=>by
      have:y.1∈List.range' 0 c:=by rw[←Dm];exact bB.2 ⟨y,hy,rfl⟩
      rw[List.mem_range'_1]at this;omega
     have Ur:dT ⟨ρ,p,fun i=>i<p⟩ w G ⟨Lm,p+c,fun i=>i<p⟩ w G:=
      ⟨fun e he=>⟨dU JN he,E.pw (cP _ _) he⟩,fun _ h=>h,fun _ _ h=>h,fun _ _ _=>rfl,fun _ _=>rfl,fun _ _=>rfl⟩
     have BX:qI N.P N.cs ops p N.n S0 ⟨Lm,p+c,fun i=>i<p⟩ Φ Pre r1:=
      ⟨iF,Ut,fun y hy=>by have:=EZ y hy;show p+y.1<p+c;omega,OL,wO⟩
     refine WP.region qB ?_
     have MU:List.range ops.size=r1.map (·.1)++List.range' c (ops.size-c):=by
      rw[Dm,List.range_eq_range']
      have h2:=List.range'_append_1 (s:=0) (m:=c) (n:=ops.size-c)
      rw[ay]at h2
      rw[h2];congr 1;omega
     rw[MU]
     refine mb _ MV BX (hs.jl Ur) (by rw[Dm];exact List.nodup_range') (fun y hy h=>by
      have h':p+y.1<p:=h
      omega) ?_
     intro a1 w1 G1 M1 hM1 hs1
     have aeZ:=hs1.jl (dT.Oz ⟨Lm,p+c,M1⟩ w1 G1 (M':=fun i=>i<p+c) (fun i hi=>by
      rcases hM1 i hi with h|⟨y,hy,rfl⟩
      ·have h':i<p:=h
       show i<p+c;omega
      ·have:=EZ y hy;show p+y.1<p+c;omega))
     have kv:List.range' c (ops.size-c)=[c] :=by rw[show ops.size-c=1 by omega];rfl
     rw[kv]
     obtain⟨g1,g2⟩:=LK
     have wN:(den Lm (.bin .eq (.un .len e) (.aT .i64 0))).gV=decide ((den Lm e).aV.length=0):=by
      show((((den Lm e).aV.length:Nat):Int)==0)=_
      rw[dB];simp
     refine Zj ho RH aeZ Q [] (fun Xg b a2 ye=> ?_) (fun Xg a2 ye=> ?_)
     ·have h3:=g1 (by rw[wN];exact decide_eq_true Xg) (.bool b) (dz.2 ⟨_,rfl⟩)
      have e1:p+c+1=p+ops.size:=by omega
      rw[e1]at ye
      exact hk .normal _ (p+ops.size) d _ gk a2 w1 G1 (cP _ _) (fun i hi=>(fJ _ _ (by omega)).trans (JN i hi)) hd ⟨[],rfl⟩ h3 ye
     ·have h3:=g2 (by rw[wN];exact decide_eq_false Xg) (.bool false) (dz.2 ⟨_,rfl⟩)
      have e1:p+c+1=p+ops.size:=by omega
      rw[e1]at ye
      exact hk .normal _ (p+ops.size) d _ gk a2 w1 G1 (cP _ _) (fun i hi=>(fJ _ _ (by omega)).trans (JN i hi)) hd ⟨[],rfl⟩ h3 ye
    ·exact LK.elim
   ·exact LK.elim
  ·rename_i c hx
   exact h.elim
  split at h
  ·rename_i hwe
   exact h.elim
  split at h
  ·rename_i c hx
   exact h.elim
  split at h
  ·rename_i c hx
   obtain⟨rfl,Ym,jY⟩:=V8 hx
   have qp: ¬S0.fr:=fun lE=>by have:=wO.1 lE;rw[Ym]at this;cases this
   have mg: ¬S0.wz:=fun lE=>by have:=wO.2 lE;rw[Ym]at this;cases this
   obtain⟨Lm,r1,ZW,JN,MV,Dm,Ut,LK⟩:=lh (MM:=fun i=>i<p) c 0 [] σ ρ h (by omega)
   rw[ep]at JN
   split at LK
   ·rename_i x RH
    rw[dP]at RH
    obtain⟨o,ho,RH⟩:=RH
    split at LK
    ·rename_i hc
     simp only[bc]at hc
     obtain⟨nq,eT⟩:=hc
     obtain⟨ks,h2⟩:=LK
     have lS:Pre x.k [den Lm x.e] :=ks rfl
     have h2':=h2 _ rfl
     obtain⟨RV,r2,WV,alV,ag2,Uq,aos,hf2⟩:=lh (MM:=fun i=>i<p+c+1) (ops.size-(c+1)) (c+1) [] _ _ h2' (by omega)
     have OL: ∀(i:Nat) (o:Oper) (dd:Nat),ops[i]? =some o→o.dst=some dd→dd<N.n:=fun i o dd ho hod=>by
      have:=cn.1 eT o (by simpa using Array.mem_of_getElem? ho)
      rw[hod]at this;simpa using this
     have EZ: ∀y∈r1,y.1<c:=fun y hy=>by
      have:y.1∈List.range' 0 c:=by rw[←Dm];exact bB.2 ⟨y,hy,rfl⟩
      rw[List.mem_range'_1]at this;omega
     have nK: ∀y∈r2,c+1≤y.1∧y.1<ops.size:=fun y hy=>by
      have:y.1∈List.range' (c+1) (ops.size-(c+1)):=by rw[←Uq];exact bB.2 ⟨y,hy,rfl⟩
      rw[List.mem_range'_1]at this;omega
     have Ur:dT ⟨ρ,p,fun i=>i<p⟩ w G ⟨Lm,p+c,fun i=>i<p⟩ w G:=
      ⟨fun e he=>⟨dU JN he,E.pw (cP _ _) he⟩,fun _ h=>h,fun _ _ h=>h,fun _ _ _=>rfl,fun _ _=>rfl,fun _ _=>rfl⟩
     have BX:qI N.P N.cs ops p N.n S0 ⟨Lm,p+c,fun i=>i<p⟩ Φ Pre r1:=
      ⟨iF,Ut,fun y hy=>by have:=EZ y hy;show p+y.1<p+c;omega,OL,wO⟩
     refine WP.region qB ?_
     have MU:List.range ops.size=r1.map (·.1)++(c::(r2.map (·.1)++[])):=by
      rw[Dm,Uq,cQ,List.range_eq_range']
      have h1:c::List.range' (c+1) (ops.size-(c+1))=List.range' c (ops.size-(c+1)+1):=List.range'_succ.symm
      have h2:=List.range'_append_1 (s:=0) (m:=c) (n:=ops.size-(c+1)+1)
      rw[ay]at h2
      rw[h1,h2]
      congr 1;omega
     rw[MU]
     refine mb _ MV BX (hs.jl Ur) (by rw[Dm];exact List.nodup_range') (fun y hy h=>by
      have h':p+y.1<p:=h
      omega) ?_
     intro a1 w1 G1 M1 hM1 hs1
     have aeZ:=hs1.jl (dT.Oz ⟨Lm,p+c,M1⟩ w1 G1 (M':=fun i=>i<p+c) (fun i hi=>by
      rcases hM1 i hi with h|⟨y,hy,rfl⟩
      ·have h':i<p:=h
       show i<p+c;omega
      ·have:=EZ y hy;show p+y.1<p+c;omega))
     have A8:=YO (ops:=ops) RH iF aeZ lS wM qp mg (wpOps N.P ops Q (r2.map (·.1)++[])) Q (fun a2 w2 G2 ye=>by
      have aoq:dT ⟨fU Lm (p+c) (Φ x.k [den Lm x.e]),p+c+1,fun i=>i<p+c+1⟩ w2 G2 ⟨RV,p+ops.size,fun i=>i<p+c+1⟩ w2 G2:=
       ⟨fun e he=>⟨dU (fun i hi=>alV i (by show i<p+(c+1);have:i<p+c+1:=hi;omega)) he,E.pw (by show p+c+1≤p+ops.size;omega) he⟩,fun _ h=>h,fun _ _ h=>h,fun _ _ _=>rfl,fun _ _=>rfl,fun _ _=>rfl⟩
      have wU:qI N.P N.cs ops p N.n S0 ⟨RV,p+ops.size,fun i=>i<p+c+1⟩ Φ Pre r2:=
       ⟨iF,aos,fun y hy=>by have:=nK y hy;show p+y.1<p+ops.size;omega,OL,wO⟩
      refine mb _ ag2 wU (ye.jl aoq) (by rw[Uq];exact List.nodup_range') (fun y hy h=>by
       have h':p+y.1<p+c+1:=h
       have:=nK y hy
       omega) ?_
      intro a3 w3 G3 M3 hM3 hs3
      have avo:=hs3.jl (dT.Oz ⟨RV,p+ops.size,M3⟩ w3 G3 (M':=fun i=>i<p+ops.size) (fun i hi=>by
       rcases hM3 i hi with h|⟨y,hy,rfl⟩
       ·have h':i<p+c+1:=h
        show i<p+ops.size;omega
       ·have:=nK y hy;show p+y.1<p+ops.size;omega))
      show Q .normal a3 w3
      refine hk .normal WV (p+ops.size) d RV gk a3 w3 G3 (cP _ _) (fun i hi=> ?_) hd ⟨[],rfl⟩ hf2 avo
      rw[alV i (by omega),fJ _ _ (by omega),JN i hi])
     simp only[wpOps,ho]
     rw[A8.1,if_pos rfl]
     exact .inl A8.2
    ·exact LK.elim
   ·exact LK.elim
  rw[List.range_eq_range']at h
  obtain⟨gN,r,σ',awg,abq,aon,alE,hf⟩:=lh (MM:=fun i=>i<p) ops.size 0 [] σ ρ h (by omega)
  have CI: ∀i,i<p→gN i=ρ i:=awg
  have BZ:r.map (·.1)=List.range ops.size:=by rw[List.range_eq_range'];exact aon
  rw[eI]at hf
  split at hf
  ·rename_i hc
   ·simp only[bc]at hc
    obtain⟨Ba,eT⟩:=hc
    have N5:=hf
    have Yk: ∀x∈r,x.1<ops.size:=by
     intro x hx
     have:x.1∈List.range ops.size:=by rw[←BZ];exact bB.2 ⟨x,hx,rfl⟩
     simpa using this
    have cp:dT ⟨ρ,p,fun i=>i<p⟩ w G ⟨gN,p+ops.size,fun i=>i<p⟩ w G:=
     ⟨fun e he=>⟨dU CI he,E.pw (cP _ _) he⟩,fun _ h=>h,fun _ _ h=>h,fun _ _ _=>rfl,fun _ _=>rfl,fun _ _=>rfl⟩
    have hs1:=hs.jl cp
    have cI:qI N.P N.cs ops p N.n S0 ⟨gN,p+ops.size,fun i=>i<p⟩ Φ Pre r:=
     ⟨iF,alE,
      fun x hx=>by have:=Yk x hx;show p+x.1<p+ops.size;omega,
      fun i o d ho hod=>by
       have:=cn.1 eT o (by simpa using Array.mem_of_getElem? ho)
       simpa [hod]using this,wO⟩
    have hM: ∀x∈r,¬(fun i=>i<p) (p+x.1):=fun x _ h=>by
     have h':p+x.1<p:=h
     omega
    have uj:(r.map (·.1)).Nodup:=by rw[BZ];exact List.nodup_range
    have fin: ∀a' w' G' M',(∀i,M' i→i<p∨ ∃x∈r,i=p+x.1)→iq N.n w0 S0 ⟨gN,p+ops.size,M'⟩ G' σ' a' w'→Q .normal a' w':=by
     intro a' w' G' M' hM' uf
     have ye:=uf.jl (dT.Oz ⟨gN,p+ops.size,M'⟩ w' G' (M':=fun i=>i<p+ops.size) (fun i hi=>by
      rcases hM' i hi with h|⟨x,hx,rfl⟩
      ·show i<_;omega
      ·have:=Yk x hx;show p+x.1<_;omega))
     exact hk .normal σ' (p+ops.size) d gN gk a' w' G' (cP _ _) CI hd ⟨[],rfl⟩ N5 ye
    cases draw with
    |false=>
     refine WP.region qB ?_
     rw[←BZ]
     exact Eg abq cI hs1 uj hM fin
    |true=>
     simp only[Bool.not_true,Bool.false_or,bc]at Ba
     refine WP.Nl qB xF ?_
     have hrl:r.length=ops.size:=by have:=congrArg List.length BZ;simpa using this
     refine M9 ops.size abq cI hs1.drew uj hM Ba.1 (by simp) ?_ (by omega) ?_ Yk ?_ ?_ fin
     ·intro j o ho hj
      have lZ:j<ops.size:=(aK.1 ho).1
      simp[lZ]at hj
     ·intro i hi
      rw[BZ];simp[hi]
     ·intro fY
      exact EF Ba.2 (by simp) (r:=r.map (·.1)) (fun i hi=>by rw[BZ];simp[hi]) (by simpa using fY) (fun x hx=>by obtain⟨y,hy,rfl⟩:=bB.1 hx;exact Yk y hy)
     ·intro l r' h1 _ h3 h4 h5
      exact EF Ba.2 h1 h3 (by simpa using h4) (fun x hx=>by obtain⟨y,hy,rfl⟩:=bB.1 hx;exact h5 y hy)
  ·exact hf.elim
 |seq x y ihx ihy=>
  intro ro k σ p d ρ gk Q w0 S0 hV qB h hd o9 hk a w G hs
  have hpx:gZ (.seq x y)=true→gZ x=true:=fun h=>by simp only[gZ,bc]at h;exact h.1
  have hpy:gZ (.seq x y)=true→gZ y=true:=fun h=>by simp only[gZ,bc]at h;exact h.2
  refine WP.seq (ihx ro _ σ p d ρ gk (Exit.then (WP ro N.P y Q) Q) w0 S0 hV (qB.sub hpx (fun _ _ h=>h)) h hd o9 ?_ a w G hs)
  intro w1 S1 hg ex σ' p' d' gN nr a' w' G' A9 hp wL hl ⟨l,xE⟩ LF uf
  cases ex with
  |normal=>
   refine ihy ro k σ' p' d' gN nr Q w1 S1 hg.env (qB.sub hpy (fun _ _ h=>h)) LF hl A9 ?_ a' w' G' uf
   intro w2 S2 AV ex2 WV p2 d2 RV Su a2 w2' G2 OD PK aeL qq ⟨l2,F7⟩ Fa ye
   exact hk w2 S2 (hg.seq hpx hpy AV) ex2 WV p2 d2 RV Su a2 w2' G2 OD (by omega) (fun i hi=>(aeL i (by omega)).trans (wL i hi)) qq ⟨l2++l,by rw[F7,xE,ez]⟩ Fa ye
  |exit i=>exact hk w1 S1 (hg.sub hpx) (.exit i) σ' p' d' gN nr a' w' G' A9 hp wL hl ⟨l,xE⟩ LF uf
  |ret=>exact hk w1 S1 (hg.sub hpx) .ret σ' p' d' gN nr a' w' G' A9 hp wL hl ⟨l,xE⟩ LF uf
 |cond c x y ihx ihy=>
  intro ro k σ p d ρ gk Q w0 S0 hV qB h hd o9 hk a w G hs
  have hpx:gZ (.cond c x y)=true→gZ x=true:=fun h=>by simp only[gZ,bc]at h;exact h.1
  have hpy:gZ (.cond c x y)=true→gZ y=true:=fun h=>by simp only[gZ,bc]at h;exact h.2
  have mV: ∀e,UH σ N.P c=some e→ ∃b,a.eval c= .bool b∧den ρ e= .bool b:=by
   intro e he
   unfold UH at he
   split at he
   ·rename_i e' Jt
    injection he with he;subst he
    obtain⟨_,h2,h3⟩:=dX hs.t (pc:=[]) rfl Jt
    obtain⟨b,hb⟩:=dz.1 h3
    exact⟨b,(hb▸h2).iE,hb⟩
   ·cases he
  have goX:=fun h=>ihx ro k σ p d ρ gk Q w0 S0 hV (qB.sub hpx (fun _ _ h=>h)) h hd o9 (fun w1 S1 hg=>hk w1 S1 (hg.sub hpx)) a w G hs
  have goY:=fun h=>ihy ro k σ p d ρ gk Q w0 S0 hV (qB.sub hpy (fun _ _ h=>h)) h hd o9 (fun w1 S1 hg=>hk w1 S1 (hg.sub hpy)) a w G hs
  simp only[vc]at h
  split at h
  ·rename_i RP
   obtain⟨b,xA,xz⟩:=mV _ RP
   simp only[den,D.bool.injEq]at xz;subst xz
   exact WP.cond xA (goX h)
  ·rename_i RP
   obtain⟨b,xA,xz⟩:=mV _ RP
   simp only[den,D.bool.injEq]at xz;subst xz
   exact WP.cond xA (goY h)
  ·rename_i e _ _ RP
   obtain⟨b,xA,xz⟩:=mV _ RP
   split at h
   ·rename_i hfo
    have:=KL (ρ:=ρ) hfo
    rw[xz]at this
    simp only[D.gV]at this;subst this
    exact WP.cond xA (goX h)
   ·rename_i hfo
    have:=KL (ρ:=ρ) hfo
    rw[xz]at this
    simp only[D.gV]at this;subst this
    exact WP.cond xA (goY h)
   split at h
   ·obtain⟨h1,h2⟩:=h
    cases b with
    |true=>exact WP.cond xA (goX (h1 (by rw[xz];rfl)))
    |false=>exact WP.cond xA (goY (h2 (by rw[xz];rfl)))
   ·exact h.elim
  ·exact h.elim
 |block i c ih=>
  intro ro k σ p d ρ gk Q w0 S0 hV qB h hd o9 hk a w G hs
  refine WP.block (ih ro _ σ p d ρ gk (Exit.inBlock i Q) w0 S0 hV (qB.sub (fun h=>h) (fun _ _ h=>h)) h hd o9 ?_ a w G hs)
  intro w1 S1 hg ex σ' p' d' gN nr a' w' G' A9 hp wL hl xE LF uf
  have z6:re N Φ Pre (.block i c) w0 S0 w1 S1:=re.sub (x:=c) (fun h=>h) hg
  cases ex with
  |normal=>exact hk w1 S1 z6 .normal σ' p' d' gN nr a' w' G' A9 hp wL hl xE LF uf
  |ret=>exact hk w1 S1 z6 .ret σ' p' d' gN nr a' w' G' A9 hp wL hl xE LF uf
  |exit j=>
   simp only at LF
   show(if j=i then Q .normal a' w' else Q (.exit j) a' w')
   by_cases hj:j=i
   ·rw[if_pos hj]at LF⊢
    exact hk w1 S1 z6 .normal σ' p' d' gN nr a' w' G' A9 hp wL hl xE LF uf
   ·rw[if_neg hj]at LF⊢
    exact hk w1 S1 z6 (.exit j) σ' p' d' gN nr a' w' G' A9 hp wL hl xE LF uf
 |loop c ih=>
  intro ro k σ p d ρ gk Q w0 S0 hV qB h hd o9 hk a w G hs
  simp only[vc]at h
  split at h
  ·exact h.elim
  rename_i xw
  have avt:N.its=[] ∨gZ c=true:=by
   simp only[bc,gj,not_and,Bool.not_eq_false]at xw
   cases hq:N.its with
   |nil=>exact .inl rfl
   |cons x r=>exact .inr (xw (by rw[hq];rfl))
  split at h
  ·rename_i es lz
   obtain⟨I,m,hI0,MW⟩:=h
   have cI:=QY N.n (((jU c).bind (lk N.rb)).getD {}) ((((jU c).bind (lk N.rb)).getD {}).own.map (·.1)++assigned c) σ p
   generalize hh:xM N.n (((jU c).bind (lk N.rb)).getD {}) ((((jU c).bind (lk N.rb)).getD {}).own.map (·.1)++assigned c) σ p=kO at*
   have ym:kO.v0=p:=by rw[←hh];rfl
   have ajS: ∀{wY:List E} {gN:Nat→D},wY.length=kO.size→(∀(j:Nat) x e,kO.jg[j]? =some x→wY[j]? =some e→Has (nN x.2.1 x.2.2) (den gN e))→dK (.dJ (kO.jg.map fun x=>nN x.2.1 x.2.2)) (wY.map (den gN)):=by
    intro wY gN h1 h2
    refine jQ (by simp[h1,Head.size]) fun j u x hj hx=> ?_
    simp only[ah,da]at hj hx
    obtain⟨y,hy,rfl⟩:=hj
    obtain⟨e,he,rfl⟩:=hx
    exact h2 j y e hy he
   obtain⟨q1,q2,G1,q3⟩:=KM hs cI lz (ρ0:=ρ) (fun _ _=>rfl) (fun i b hi=>by rw[ym];exact o9 i b hi)
   rw[ym]at q3
   refine WP.loop (fun kk a' w'=> ∃w1 S1 xs G',re N Φ Pre (.loop c) w0 S0 w1 S1∧(∀i b,S1.si i=some b→i<p)∧dK (.dJ (kO.jg.map fun x=>nN x.2.1 x.2.2)) xs∧I xs∧m xs=kk∧iq N.n w1 S1 ⟨gJ ρ p xs,p+kO.size,fun i=>i<p+kO.size⟩ G' kO.st a' w') _
    ⟨w0,S0,es.map (den ρ),G1,re.refl hV,o9,ajS q1 q2,hI0,rfl,q3⟩ ?_
   rintro kk a' w' ⟨w1,S1,xs,G',hg1,abu,jA,hI,rfl,uf⟩
   refine ih ro _ kO.st (p+kO.size) (d+1) (gJ ρ p xs) _ (Exit.then (fun a' w'=> ∃n',n'<m xs∧ ∃w1 S1 xs G',re N Φ Pre (.loop c) w0 S0 w1 S1∧(∀i b,S1.si i=some b→i<p)∧dK (.dJ (kO.jg.map fun x=>nN x.2.1 x.2.2)) xs∧I xs∧m xs=n'∧iq N.n w1 S1 ⟨gJ ρ p xs,p+kO.size,fun i=>i<p+kO.size⟩ G' kO.st a' w') Q) w1 S1 hg1.env (qB.sub (fun h=>h) (fun _ _ h=>h)) (MW xs jA hI) (by simp[hd]) (fun i b hi=>ar (abu i b hi) (cP _ _)) ?_ a' w' G' uf
   intro w2 S2 AV ex WV p2 d2 RV Su a2 w2' G2 OD PK aeL qq ⟨l2,F7⟩ Fa ye
   have MZ: ∀i,i<p→RV i=ρ i:=fun i hi=>(aeL i (by omega)).trans (OW hi)
   have afj:re N Φ Pre (.loop c) w0 S0 w2 S2:=hg1.seq (x:=.loop c) (y:=c) (fun h=>h) (fun h=>h) AV
   cases ex with
   |normal=>
    simp only at Fa
    split at Fa
    ·rename_i wY aoy
     have hlen:l2.length=d2-1-d:=by
      have:=congrArg List.length F7
      simp only[an,bM]at this
      omega
     have C4:Su[d2-1-d]? =some (fun ys=>I ys∧m ys<m xs):=by
      rw[F7,←hlen,aF (bn _),Nat.sub_self];rfl
     simp only[VC.holds,C4]at Fa
     obtain⟨G2',avp⟩:=ye.Ka kO.jg
     have F8: ∀i b,S2.si i=some b→i<p:=by rw[(AV.same avt).2];exact abu
     obtain⟨r1,r2,G3,r3⟩:=KM avp cI aoy (ρ0:=ρ) (fun i hi=>by rw[ym]at hi;exact(MZ i hi).symm) (fun i b hi=>by rw[ym];exact F8 i b hi)
     rw[ym]at r3
     exact⟨_,Fa.2,w2,S2,wY.map (den RV),G3,afj,F8,ajS r1 r2,Fa.1,rfl,r3⟩
    ·exact Fa.elim
   |exit i=>exact hk w2 S2 afj (.exit i) WV p2 d2 RV Su a2 w2' G2 OD (by omega) MZ qq ⟨l2++[fun ys=>I ys∧m ys<m xs],by rw[F7];simp⟩ Fa ye
   |ret=>exact hk w2 S2 afj .ret WV p2 d2 RV Su a2 w2' G2 OD (by omega) MZ qq ⟨l2++[fun ys=>I ys∧m ys<m xs],by rw[F7];simp⟩ Fa ye
  ·exact h.elim
 |_=>intro ro k σ p d ρ gk Q w0 S0 hV qB h;exact h.elim
theorem Kf{N:En}{Φ:Nat→List D→D}{Pre:Nat→List D→Prop}{R:D→Prop}(xF:N.P.follows .mixedOrders=true)(iF: ∀k sig,lk N.cs.l k=some sig→bh N.P k sig (Pre k) (Φ k))
  (wM: ∀k sig ob,lk N.cs.l k=some sig→sig.ob=some ob→ob.Ae=true→ ∀b o,S0.kJ b o→ ¬kA w0 S0 b) (wO:Mh N.P N.cs S0 Φ Pre) (hfw: ∀k y,lk N.fw k=some y→Iw N.P k y.1 y.2 (fun _=>True) (Φ k)) (W9: ∀k y,lk N.wl k=some y→M6 N.P k y.1 y.2)
  (hwz:N.cs.fr=2→(∀b o,¬S0.kJ b o)∧S0.wz) (hn:N.its=[]):
  ∀(c:Code) (k:Ex→St→Nat→Nat→VC) (σ:St) (p d:Nat) (ρ:Nat→D) (gk:List (List D→Prop)) (Q:Exit→Act→World→Prop),(vc N c k σ p d).holds Φ Pre R ρ gk→gk.length=d→(∀i b,S0.si i=some b→i<p)→
  (∀ex σ' p' d' gN nr a w G,p≤p'→(∀i,i<p→gN i=ρ i)→nr.length=d'→(∃l,nr=l++gk)→(k ex σ' p' d').holds Φ Pre R gN nr→iq N.n w0 S0 ⟨gN,p',fun i=>i<p'⟩ G σ' a w→Q ex.to a w)→
  ∀a w G,iq N.n w0 S0 ⟨ρ,p,fun i=>i<p⟩ G σ a w→c.wp N.P Q a w:=by
 intro c k σ p d ρ gk Q h hd o9 hk a w G hs
 refine Qq xF iF hfw W9 (fun k y h=>by rw[hn]at h;cases h) c none k σ p d ρ gk Q w0 S0 ⟨wM,wO,hwz,fun h=>absurd hn h⟩ (fun h=>by cases h) h hd o9 ?_ a w G hs
 intro w1 S1 hg ex σ' p' d' gN nr a' w' G' _ hp wL hl oZ N5 uf
 obtain⟨lY,hS1⟩:=hg.same (.inl hn)
 rw[lY,hS1]at uf
 exact hk ex σ' p' d' gN nr a' w' G' hp wL hl oZ N5 uf
end
def vO(P:Program)(σ:St):ResultVar→Option (Bool×List SC)
 |.tmp t=>match σ.tm t with
  |some ([],.one c)=>if c.scalar then some (false,[c]) else none
  |some ([],.agg l)=>some (true,l)
  |_=>none
 |.cell t T=>match σ.tm t with
  |some ([],.one (.r9 id 0))=>match σ.hp id with
   |some (_,cs)=>if(mapOf cs).isSome then none else if j5 P T then(if jF P T=some cs.length then some (true,cs) else none)
     else(match cs with| [c] =>if(P.underlying T).isSome then some (false,[c]) else none|_=>none)
   |none=>none
  |_=>none
def yO(σ:St)(r:Bool×List bD)(c:Bool×List SC):Option (E×mO):=
 if r.1=c.1 then match ia σ r.2 c.2 with
  |some (es,l)=>if r.1 then some (.un .agg (.dJ es),l) else match es with| [e] =>some (e,l)|_=>none
  |none=>none
 else none
def kC(P:Program)(σ:St):List (Bool×List bD)→List ResultVar→Option (List E×mO)
 | [],[] =>some ([],[])
 |r::rs,x::xs=>match (vO P σ x).bind (yO σ r),kC P σ rs xs with
  |some (e,l),some (es,ls)=>some (e::es,l++ls)
  |_,_=>none
 |_,_=>none
def Og(P:Program)(sig:dQ)(fn:Func)(σ:St):VC:=
 match kC P σ sig.res fn.results.toList with
 |some (es,l)=>if rk l then(match sig.res,es with| [_],[e] =>.ret e|_,es=>.ret (.un .fx (.dJ es))) else .stuck 10
 |none=>.stuck 11
def n8(a:Act):ResultVar→Sem Value
 |.tmp t=>pure (a.tmps.getD t undef)
 |.cell p t=>do loadVar t (←asAddr (a.tmps.getD p undef))
def Mr:List Value→Value
 | [v] =>v
 |vs=>.tuple vs.toArray
def St.start(ps:List Ty):St:=⟨fun t=>match ps[t]? with|some ty=>some ([],.one (.iW (.var t) ty))|none=>none,fun _=>none,fun _=>none⟩
section
variable{P:Program}{C:Cx}{w w0:World}{S0:iu}{G:Gh}{σ:St}{a:Act}{n:Nat}
theorem Nj{L:mO}(hm:fp w0 S0 C G σ w)(hn:(L.map (·.1)).Nodup){r:Bool×List bD}{c:Bool×List SC}{e:E}{l:mO}{v:Value}(h:yO σ r c=some (e,l))(hr:nJ C w G c v)(hL: ∀x∈l,x∈L):
  hH w 0 G.S (rJ G L) r v (den C.ρ e):=by
 unfold yO at h
 split at h
 ·rename_i pT
  split at h
  ·rename_i es l' kP
   unfold nJ at hr
   unfold hH
   cases EZ:r.1 with
   |true=>
    rw[←pT,EZ]at hr
    simp only[EZ,if_true]at hr h⊢
    obtain⟨rfl,rfl⟩:=jC h
    obtain⟨vs,rfl,RZ⟩:=hr
    obtain⟨k1,k2,k3⟩:=lj hm hn kP RZ hL
    refine⟨vs,es.map (den C.ρ),rfl,by simp only[den,gG,U.den,D.aV],k2,by simp[k1],fun i x u y hx hu hy=> ?_⟩
    simp only[ah,da]at hy
    obtain⟨e,he,rfl⟩:=hy
    exact k3 i x u e hx hu he
   |false=>
    rw[←pT,EZ]at hr
    simp only[EZ,ak,if_false]at hr h⊢
    split at h
    ·rename_i e0
     obtain⟨rfl,rfl⟩:=jC h
     obtain⟨c0,PT,qZ⟩:=hr
     rw[PT]at kP
     obtain⟨k1,k2,k3⟩:=lj hm hn kP (vs:=[v]) ⟨rfl,fun i c u hi hu=>by
      cases i with
      |zero=>simp at hi hu;subst hi;subst hu;exact qZ
      |succ i=>simp at hi⟩ hL
     obtain⟨x,hx⟩:=bO.1 k1.symm
     exact⟨x,hx,k3 0 x v e0 (by rw[hx];rfl) rfl rfl⟩
    ·cases h
  ·cases h
 ·cases h
theorem KX{x:ResultVar}{c:Bool×List SC}(hs:iq n w0 S0 C G σ a w)(h:vO P σ x=some c):
  ∃v,(n8 a x).run P w= .ok v w∧nJ C w G c v:=by
 unfold vO at h
 split at h
 ·rename_i t
  split at h
  ·rename_i c' ht
   split at h
   ·injection h with h;subst h
    obtain⟨v,h1,_,_,h2⟩:=hs.t t _ _ ht
    simp only[aU,bW,if_true]at h2
    refine⟨v,by simp[n8,h1],?_⟩
    unfold nJ
    simp only[ak,if_false]
    exact⟨_,rfl,h2⟩
   ·cases h
  ·rename_i l ht
   injection h with h;subst h
   obtain⟨v,h1,_,_,h2⟩:=hs.t t _ _ ht
   simp only[aU,bW,if_true]at h2
   refine⟨v,by simp[n8,h1],?_⟩
   unfold nJ
   simp only[if_true]
   exact h2
  ·cases h
 ·rename_i t T
  split at h
  ·rename_i id ht
   obtain⟨v,h1,_,_,h2⟩:=hs.t t _ _ ht
   simp only[aU,bW,if_true]at h2
   obtain⟨_,rfl⟩:=h2
   split at h
   ·rename_i ro cs fD
    obtain⟨_,_,fZ,_⟩:=hs.m.box _ _ _ fD
    split at h
    ·cases h
    rename_i E2
    obtain⟨vs,T0,hg,hr⟩:=fZ.cells (by simpa using E2)
    have eW: ∀j,w.cell? ⟨G.β id,j,none⟩=vs[j]? :=by intro j;rw[cell_of_row w _ j _ T0 _ hg];simp
    have abB: ∀{u:Value},(Instr.loadAt T (.pointer (some ⟨G.β id,0,none⟩))).run P w= .ok u w→(do loadVar T (←asAddr (a.tmps.getD t undef)):Sem Value).run P w= .ok u w:=by
     intro u hu
     have e1:a.tmps.getD t undef= .pointer (some ⟨G.β id,0,none⟩):=by simp[h1]
     rw[e1]
     simpa [Instr.loadAt,Instr.sureAddr,asAddr]using hu
    split at h
    ·rename_i ha
     split at h
     ·rename_i iY
      injection h with h;subst h
      refine⟨.agg vs.toArray,abB (lq iY ha hr.1 (fun j v hv=>by rw[ay,eW];exact hv)),?_⟩
      unfold nJ
      simp only[if_true]
      exact⟨vs,rfl,hr⟩
     ·cases h
    ·rename_i ha
     split at h
     ·rename_i c'
      split at h
      ·rename_i kV
       injection h with h;subst h
       obtain⟨u,rfl⟩: ∃u,vs=[u] :=bO.1 hr.1
       refine⟨u,abB (pA (by simpa using ha) kV (by rw[eW];rfl)),?_⟩
       unfold nJ
       simp only[ak,if_false]
       exact⟨_,rfl,hr.2 0 _ u rfl rfl⟩
      ·cases h
     ·cases h
   ·cases h
  ·cases h
theorem tp{L:mO}(hs:iq n w0 S0 C G σ a w)(hn:(L.map (·.1)).Nodup): ∀{rs:List (Bool×List bD)} {xs:List ResultVar} {es:List E} {l:mO},kC P σ rs xs=some (es,l)→(∀x∈l,x∈L)→
  ∃vs:List Value,(xs.mapM (m:=Sem) (n8 a)).run P w= .ok vs w∧vs.length=rs.length∧es.length=rs.length∧xs.length=rs.length∧
   ∀(i:Nat) r v e,rs[i]? =some r→vs[i]? =some v→es[i]? =some e→hH w 0 G.S (rJ G L) r v (den C.ρ e)
 | [],[],es,l,h,_=>by
  simp only[kC,ae,ai]at h
  obtain⟨rfl,rfl⟩:=h
  exact⟨[],by simp,rfl,rfl,rfl,by intro i r v e hi;simp at hi⟩
 | [],_::_,_,_,h,_=>by cases h
 |_::_,[],_,_,h,_=>by cases h
 |r::rs,x::xs,es,l,h,hL=>by
  simp only[kC]at h
  split at h
  ·rename_i e l1 wY l2 h1 h2
   obtain⟨rfl,rfl⟩:=jC h
   cases hc:vO P σ x with
   |none=>simp[hc]at h1
   |some c=>
    simp only[hc,cu]at h1
    obtain⟨v,k1,k2⟩:=KX hs hc
    obtain⟨vs,m1,m2,m3,m4,m5⟩:=tp hs hn h2 (fun x hx=>hL x (by simp[hx]))
    refine⟨v::vs,?_,by simp[m2],by simp[m3],by simp[m4],fun i r' v' e' hi hv he=> ?_⟩
    ·rw[List.mapM_cons,bA,k1,ct,bA,m1];rfl
    ·cases i with
     |zero=>simp at hi hv he;subst hi;subst hv;subst he;exact Nj hs.m hn h1 k2 (fun x hx=>hL x (by simp[hx]))
     |succ i=>exact m5 i r' v' e' (by simpa using hi) (by simpa using hv) (by simpa using he)
  ·cases h
theorem vm{fn:Func}{vs:List Value}(h:(fn.results.toList.mapM (m:=Sem) (n8 a)).run P w= .ok vs w):
  (results fn a.tmps).run P w= .ok (Mr vs) w:=by
 have h0:results fn a.tmps=(do
   let vs←fn.results.mapM (n8 a)
   pure (if h:vs.size=1 then vs[0] else .tuple vs)):=by
  unfold results
  rfl
 rw[h0]
 have h1:(fn.results.mapM (m:=Sem) (n8 a)).run P w= .ok vs.toArray w:=by
  have e1:=Array.mapM_eq_mapM_toList (m:=Sem) (f:=n8 a) (xs:=fn.results)
  rw[e1,Sem.run_map,h];rfl
 rw[bA,h1,ct]
 match vs with
 | [] =>rfl
 | [v] =>rfl
 |_::_::_=>rfl
theorem pE: ∀{rs:List (Bool×List bD)} {xs:List ResultVar} {es:List E} {l:mO},kC P σ rs xs=some (es,l)→cO rs=l.map (·.1)
 | [],xs,es,l,h=>by
  cases xs<;>simp[kC]at h
  obtain⟨rfl,rfl⟩:=h;rfl
 |_::_,[],_,_,h=>by cases h
 |r::rs,x::xs,es,l,h=>by
  simp only[kC]at h
  split at h
  ·rename_i q1 q2
   injection h with h;simp only[ai]at h;rw[←h.2,cz,←pE q2]
   have:cO (r::rs)=(r.2.filterMap fun x=>x.2.map (·.1))++cO rs:=by simp[cO]
   rw[this]
   congr 1
   cases pT:vO P σ x with
   |none=>simp[pT]at q1
   |some c=>
    simp only[pT,cu]at q1
    unfold yO at q1
    split at q1
    ·split at q1
     ·rename_i kP
      split at q1
      ·injection q1 with q1;simp only[ai]at q1;rw[←q1.2];exact pF kP
      ·split at q1
       ·injection q1 with q1;simp only[ai]at q1;rw[←q1.2];exact pF kP
       ·cases q1
     ·cases q1
    ·cases q1
  ·cases h
theorem rz: ∀{rs:List (Bool×List bD)} {xs:List ResultVar} {es:List E} {l:mO},kC P σ rs xs=some (es,l)→ ∀j g,(j,some g)∈l→ ∃z,σ.live g=some z
 | [],xs,es,l,h,j,g,hm=>by cases xs<;>simp[kC]at h;obtain⟨rfl,rfl⟩:=h;simp at hm
 |r::rs,[],es,l,h,j,g,hm=>by cases h
 |r::rs,x::xs,es,l,h,j,g,hm=>by
  simp only[kC]at h
  split at h
  ·rename_i q1 q2
   injection h with h;simp only[ai]at h;rw[←h.2]at hm
   rcases aS.1 hm with hm|hm
   ·cases pT:vO P σ x with
    |none=>simp[pT]at q1
    |some c=>
     simp only[pT,cu]at q1
     unfold yO at q1
     split at q1
     ·split at q1
      ·rename_i kP
       split at q1
       ·injection q1 with q1;simp only[ai]at q1;rw[←q1.2]at hm;exact od kP hm
       ·split at q1
        ·injection q1 with q1;simp only[ai]at q1;rw[←q1.2]at hm;exact od kP hm
        ·cases q1
      ·cases q1
     ·cases q1
   ·exact rz q2 j g hm
  ·cases h
theorem IK{f:Nat}{fn:Func}{c:Code}{sig:dQ}{pW:List D→Prop}{xm:List D→D}(cs:o3)(fw wl:YB)(Φ:Nat→List D→D)(Pre:Nat→List D→Prop)(rb:List (Nat×Jh))(v:VC)
  (hf:P.funcs[f]? =some fn) (hb:fn.body=some c) (Up:(fn.name== "runtime.NumGoroutine")=false) (xF:P.follows .mixedOrders=true)
  (hps:sig.params.length≤fn.ntmps) (fX:sig.ob=none) (hmp:cs.mp=[] ∧cs.et=[])
  (iF: ∀k sig,lk cs.l k=some sig→bh P k sig (Pre k) (Φ k)) (wO:cs.fr=0∧SG sig.res=true∨cs.fr=1) (hfw: ∀k y,lk fw k=some y→Iw P k y.1 y.2 (fun _=>True) (Φ k)) (W9: ∀k y,lk wl k=some y→M6 P k y.1 y.2)
  (hv:vc ⟨P,cs,fn.ntmps,rb,fw,wl,[]⟩ c (fun ex σ _ _=>match ex with| .exit _=>.stuck 20|_=>Og P sig fn σ) (St.start sig.params) sig.params.length 0=v)
  (hc: ∀ds,dK (.dJ sig.params) ds→pW ds→v.holds Φ Pre (fun d=>d=xm ds) (fun i=>ds.getD i .top) []):bh P f sig pW xm where
 enter args w:=by
  unfold callFunc
  have Cj:fn.body.isNone=false:=by rw[hb];rfl
  have DG:fn.name≠ "runtime.NumGoroutine" :=by simpa using Up
  simp[hf,hb,DG]
 Dx ob qu:=by rw[fX]at qu;cases qu
 Mt ob qu:=by rw[fX]at qu;cases qu
 calls _ w S vs ds B2 hlen jf jA ks:=by
  have wN:ds.length=sig.params.length:=by rw[il jA,Ty.fa]
  refine calls_of_wp hf hb ?_
  have mV:=hc ds jA ks
  rw[←hv]at mV
  refine Kf (w0:=w) (S0:=⟨S,fun _=>False,fun _=>none,cs.fr=1,False,P,[]⟩) (N:=⟨P,cs,fn.ntmps,rb,fw,wl,[]⟩) xF iF (fun _ _ _ _ _ _ b o hb=>by
   rintro(h|h)
   ·exact absurd (B2 b o hb) (by show¬b<w.heap.size;have:w.heap.size≤b:=h;omega)
   ·exact h) ⟨fun h=>h,fun h=>h.elim,rfl,fun T kt h=>(by rw[show cs.mp=[] from hmp.1]at h;cases h),fun k sg h=>(by rw[show cs.et=[] from hmp.2]at h;cases h),fun k sg _ _ h=>(by rw[show cs.et=[] from hmp.2]at h;cases h)⟩ hfw W9 (fun h=>by have:cs.fr=2:=h;omega) rfl c _ _ _ 0 _ [] _ mV rfl (fun i b h=>(by cases h)) ?_ _ w ⟨S,fun _=>0,fun _=>.nilIface⟩ ?_
  ·intro ex σ' p' d' gN nr a' w' G' _ _ _ _ hk hs
   have fin:(Og P sig fn σ').holds Φ Pre (fun d=>d=xm ds) gN nr→a'.defers=[] ∧ ∃v,(results fn a'.tmps).run P w'= .ok v w'∧ ∃v0 S' τ,Ending.returned v= .returned v0∧Below w.heap.size w w'∧(∀b o,S b o→S' b o)∧(∀b o,S' b o→b<w'.heap.size)∧(∀b o,S' b o→S b o∨w.heap.size≤b)∧
     iL w' 0 S' τ sig.res v0 (xm ds)∧(∀j b,j∈cO sig.res→(τ j).ownBlock=some b→w.heap.size≤b)∧(∀j k b,j∈cO sig.res→k∈cO sig.res→(τ j).ownBlock=some b→(τ k).ownBlock=some b→j=k)∧ ∀j,j∈cO sig.res→frN j=true→Cl (fun b=>w.heap.size≤b) w' S' (τ j):=by
    intro hk
    refine⟨hs.defers,?_⟩
    unfold Og at hk
    split at hk
    ·rename_i es l ra
     split at hk
     ·rename_i cI
      have yv:=cI
      unfold rk at cI
      simp only[bc,bQ]at cI
      obtain⟨hnt,Sf⟩:=cI
      have cJ:=rz ra
      obtain⟨us,h1,h2,h3,h4,h5⟩:=tp (L:=l) hs Sf ra (fun x hx=>hx)
      refine⟨_,vm h1,_,G'.S,rJ G' l,rfl,hs.m.below.to (fun _ h=>h),hs.m.kW,hs.m.dO,fun b o hb=>(hs.m.iN b o hb).imp (fun h=>h) (fun h=>h.elim (fun h=>h) (fun h=>h.elim)),?_,?_,?_,?_⟩
      ·split at hk
       ·rename_i r e fi
        have hd:den gN e=xm ds:=hk
        rw[fi]at h2 h5⊢
        obtain⟨u,rfl⟩: ∃u,us=[u] :=bO.1 h2
        exact .inl ⟨r,rfl,by rw[←hd];exact h5 0 r u e rfl rfl rfl⟩
       ·rename_i es1 _ es2 fY
        have hd:den gN (.un .fx (.dJ _))=xm ds:=hk
        have xy:sig.res.length≠1:=by
         intro h
         obtain⟨r,hr⟩:=bO.1 h
         obtain⟨e,he⟩:=bO.1 (h3.trans h)
         exact fY r e hr he
        have LC:Mr us= .tuple us.toArray:=by
         match us,h2 with
         | [],_=>rfl
         | [u],h2=>exact absurd h2.symm xy
         |_::_::_,_=>rfl
        rw[LC]
        refine .inr ⟨xy,us,es1.map (den gN),rfl,by rw[←hd];simp only[den,gG,U.den,D.aV],h2,by simp[h3],fun i r u y hr hu hy=> ?_⟩
        simp only[ah,da]at hy
        obtain⟨e,he,rfl⟩:=hy
        exact h5 i r u e hr hu he
      ·intro j b hj hb
       rw[pE ra]at hj
       obtain⟨g,Sj,jq⟩:=yP yv hj hb
       obtain⟨z,hz⟩:=cJ _ _ Sj
       exact(hs.m.gS g z b hz jq).elim (fun h=>h) (fun h=>h.elim)
      ·intro j k b hj N5 Sn Jv
       rw[pE ra]at hj N5
       exact AF hs.m yv cJ hj N5 Sn Jv
      ·intro j hj hfj
       rcases wO with wO|wO
       ·have:=cn.1 wO.2 j hj
        rw[hfj]at this;cases this
       ·unfold rJ
        split
        ·exact(hs.m.fresh wO _).ajb fun b hb=>hb.elim (fun h=>h) (fun h=>h.elim)
        ·intro a n cap hv
         exact .inl (by cases hv;rfl)
     ·exact hk.elim
    ·exact hk.elim
   cases ex with
   |normal=>exact fin hk
   |ret=>exact fin hk
   |exit i=>exact hk.elim
  ·refine⟨⟨hU.refl _ _,fun _ _ h=>h,fun _ _ _=>rfl,fun i b h=>(by cases h),fun i b h=>(by cases h),B2,fun _ _ h=>.inl h,?_,?_,?_,?_,fun g x b hx=>(by cases hx),?_,?_,fun _ _=>Cl.nilIface,fun h=>h.elim⟩,?_,?_,rfl⟩
   ·intro id x hx;cases hx
   ·intro id ro cs hx;cases hx
   ·intro i j x y hx;cases hx
   ·intro g e T t hx;cases hx
   ·intro g g' x y b hx;cases hx
   ·intro g id x y b hx;cases hx
   ·intro t c s rH
    simp only[St.start]at rH
    split at rH
    ·rename_i ty SN
     obtain⟨rfl,rfl⟩:=jC rH
     have AU:t<sig.params.length:=(aH.1 SN).1
     have hdt:ds[t]? =some (ds[t]'(by omega)):=aW _
     have hvt:vs[t]? =some (vs[t]'(by omega)):=aW _
     obtain⟨x,hx,hxh⟩:=dY jA t ty (by rw[Ty.fa];exact SN)
     rw[hdt]at hx;injection hx with hx
     have gA:den (fun i=>ds.getD i .top) (.var t)=ds[t]'(by omega):=by show ds.getD t .top=_;exact hZ hdt
     refine⟨vs[t]'(by omega),?_,by simp,by simpa [SV.lt,SC.lt,E.lt]using AU,?_⟩
     ·rw[Array.getElem?_append_left (by simp;omega)];simp[hvt]
     ·simp only[aU,bW,if_true]
      refine⟨by simpa [E.lt]using AU,?_,?_⟩
      ·show cH w S _ (den (fun i=>ds.getD i .top) (.var t))
       rw[gA];exact jf t _ _ hvt hdt
      ·show Has ty (den (fun i=>ds.getD i .top) (.var t))
       rw[gA,hx];exact hxh
    ·cases rH
   ·simp;omega
end
end Go.dV
