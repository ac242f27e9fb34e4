/- Part 3 of the proof of RaftOut; no condition. -/
import Derived.Test.YtjhmkaninmgilaaS02
import Derived.Deep.LoopGhost
import Derived.Sort.LoopGhostIn
import Derived.RangeFuncNested
import Derived.OrdersIn
set_option linter.defProp false
set_option linter.unusedVariables false
set_option linter.unusedSimpArgs false
set_option maxHeartbeats 4000000
namespace Go.dI
open Go Go.RowKit
abbrev nW:=Tba×Bool
inductive Slot where
 |tmp (t:Nat)
 |cell (id i:Nat)
 deriving DecidableEq
structure D4 where
 own:List (Nat×Tba):=[]
 boxes:List (Nat×List (Nat×Tba)):=[]
 drop:Tah:=[]
def D4.ex(a:D4):Bool:=a.drop.contains 1000002
structure Head where
 v0:Nat
 iM:List (Slot×Ty×Tao nW)
 st:St
 keep:List Tag
def Head.size(h:Head):Nat:=h.iM.length
def Em:Ty->Tao (Ty×Tba)
 |.eS (.fn T kt)=>some (kt,T)
 |_=>none
def kB(v:Nat)(ty:Ty):Tao nW->SC
 |none=>match Em ty with
  |some (kt,T)=>.tU (.var v) kt T
  |none=>.gz (.var v) ty
 |some (_,false)=>.own (v,0) (.var v) ty
 |some (_,true)=>.xo (v,1000) ty
def lf(v:Nat)(T:nW):Tag:=(v,if T.2 then 1000 else 0)
def H0(v:Nat)(T:nW):(lf v T).ex=T.2:=by obtain⟨T,_|_⟩:=T<;>rfl
def lI(ty:Ty):Tao nW->Ty
 |none=>match Em ty with
  |some (kt,_)=>.list kt
  |none=>ty
 |some _=>.list ty
def kW(σ:St):Slot->Tao SC
 |.tmp t=>match σ.tm t with
  |some ([],.one c)=>some c
  |_=>none
 |.cell id i=>match σ.hp id with
  |some (_,cs)=>cs[i]?
  |none=>none
def mb(σ:St)(x:Slot×Ty×Tao nW):Tao (E×Tao Tag):=
 match kW σ x.1 with
 |some c=>
  match x.2.2 with
  |none=>match Em x.2.1 with
   |some (kt,T)=>match c with
    |.tU e kt' T'=>if kt'=kt∧T'=T then some (e,none) else none
    |_=>none
   |none=>match asData c with
    |some (e,t)=>if t=x.2.1 then some (e,none) else none
    |none=>none
  |some T=>match c with
   |.mN t=>if t=x.2.1 then some (.nil,none) else none
   |.own g _ t=>match σ.live g with
    |some (e,T',t')=>if t=x.2.1∧T'=T.1∧t'=x.2.1∧T.2=false∧g.ex=false then some (e,some g) else none
    |none=>none
   |.xo g t=>match σ.live g with
    |some (e,T',t')=>if t=x.2.1∧T'=T.1∧t'=x.2.1∧T.2=true∧g.ex=true then some (e,some g) else none
    |none=>none
   |_=>none
 |none=>none
def rA(σ:St):List (Slot×Ty×Tao nW)->Tao (List (E×Tao Tag))
 | [] =>some []
 |x::r=>match mb σ x,rA σ r with
  |some y,some ys=>some (y::ys)
  |_,_=>none
def og(s:Slot):List (Slot×Ty×Tao nW)->Nat->Tao (Nat×Ty×Tao nW)
 | [],_=>none
 |x::r,j=>if x.1=s then some (j,x.2) else og s r (j+1)
def SC.ids(n:Nat):SC->Bool
 |.own g _ _=>g.1<n
 |.pJ id _=>id<n
 |.xo g _=>g.1<n
 |.tS g _ _ _=>g.1<n
 |.Ct id=>id<n
 |_=>true
def SV.ids(n:Nat):SV->Bool
 |.one c=>c.ids n
 |.agg l=>l.all (SC.ids n)
 |.eS l=>l.all fun x=>x.2.all (SC.ids n)
def abA(n:Nat)(h:Head)(σ:St):Bool:=(List.range n).all fun t=>
 match h.st.tm t with
 |none=>true
 |some (c,s)=>match og (.tmp t) h.iM 0 with
  |some (j,ty,T)=>decide (c=[] ∧s= .one (kB (h.v0+j) ty T))
  |none=>decide (σ.tm t=some (c,s))&&s.lt h.v0&&s.ids h.v0&&c.all fun x=>x.1.lt h.v0
def rM(h:Head)(id:Nat):Nat->List SC->List SC->Bool
 |_,[],[] =>true
 |i,c::r,c'::r'=>(match og (.cell id i) h.iM 0 with
  |some (j,ty,T)=>decide (c=kB (h.v0+j) ty T)
  |none=>decide (c'=c)&&c.lt h.v0&&c.ids h.v0&&c.scalar)&&rM h id (i+1) r r'
 |_,_,_=>false
def abB(h:Head)(σ:St):Bool:=(List.range h.v0).all fun id=>
 match h.st.hp id with
 |none=>true
 |some (ro,cs)=>match σ.hp id with
  |some (ro',cs')=>ro==ro'&&rM h id 0 cs cs'
  |none=>false
def QD(h:Head)(σ:St)(b:List (Tao Tag)):Bool:=h.keep.all fun g=>
 match h.st.live g with
 |none=>true
 |some x=>decide (σ.live g=some x)&&decide (g.1<h.v0)&&x.1.lt h.v0&& !b.contains (some g)
def Ev(n:Nat)(h:Head)(σ:St):Tao (List E):=
 match rA σ h.iM with
 |some vs=>
  let b:=vs.map (·.2)
  if abA n h σ&&abB h σ&&QD h σ b&&kL b&&(h.iM.all fun x=>(lI x.2.1 x.2.2).scalar&&(x.2.2.isNone||decide (0<x.2.1.cells.length))) then some (vs.map (·.1)) else none
 |none=>none
structure HR(n:Nat)(h:Head):Prop where
 tm: ∀t,n<=t->h.st.tm t=none
 hp: ∀id,h.v0<=id->h.st.hp id=none
 live: ∀g x,h.st.live g=some x->g∈h.keep∨ ∃j ty T,h.iM[j]? =some (ty,T)∧ ∃T',T.2=some T'∧g=lf (h.v0+j) T'∧x=(.var (h.v0+j),T'.1,T.1)
def assigned:Code->Tah
 |.region _ ops _=>ops.toList.filterMap (·.dst)
 |.seq a b=>assigned a++assigned b
 |.cond _ a b=>assigned a++assigned b
 |.block _ c| .loop c| .scope c=>assigned c
 |_=> []
def dedup:Tah->Tah
 | [] => []
 |x::r=>if r.contains x then dedup r else x::dedup r
def tn(ex:Bool)(id:Nat)(b:List (Nat×Tba)):Nat->List SC->List (Slot×Ty×Tao nW)
 |_,[] => []
 |i,c::r=>
  (match lk b i,c with
   |some T,.mN t=> [(.cell id i,t,some (T,ex))]
   |some T,.own _ _ t=> [(.cell id i,t,some (T,false))]
   |some T,.xo _ t=> [(.cell id i,t,some (T,true))]
   |_,.tU _ kt T=> [(.cell id i,.eS (.fn T kt),none)]
   |_,c=>match asData c with
    |some (_,t)=> [(.cell id i,t,none)]
    |none=> [])++tn ex id b (i+1) r
def Cc(b:List (Slot×Ty×Tao nW))(v0 id:Nat):Nat->List SC->List SC
 |_,[] => []
 |i,c::r=>(match og (.cell id i) b 0 with
  |some (j,ty,T)=>kB (v0+j) ty T
  |none=>c)::Cc b v0 id (i+1) r
def CA:SC->List Tag
 |.own g _ _=> [g]
 |.xo g _=> [g]
 |_=> []
def Vm:SV->List Tag
 |.one c=>CA c
 |.agg l=>l.flatMap CA
 |.eS l=>l.flatMap fun x=>x.2.flatMap CA
def sj(v0:Nat):Nat->List (Slot×Ty×Tao nW)->List (Tag×(E×Tba×Ty))
 |_,[] => []
 |j,(_,ty,T)::r=>(match T with
  |some T=> [(lf (v0+j) T,(E.var (v0+j),T.1,ty))]
  |none=> [])++sj v0 (j+1) r
def Ff(ex:Bool)(σ:St)(b:List (Nat×Tba))(id:Nat):List (Slot×Ty×Tao nW):=
 match σ.hp id with
 |some (false,cs)=>tn ex id b 0 cs++cs.flatMap fun c=>match c with
  |.Ct m=>(match σ.hp m with|some (false,ms)=>tn ex m [] 0 ms|_=> [])
  |.pJ m 0=>(match σ.hp m with|some (false,ms)=>tn ex m (b.filterMap fun x=>if 1000<=x.1 then some (x.1-1000,x.2) else none) 0 ms|_=> [])
  |_=> []
 |_=> []
def uf(n:Nat)(b:D4)(i:Tah)(σ:St)(v0:Nat):Head:=
 let A:=dedup i
 let e:=A.filterMap fun t=>
  if b.drop.contains t then none else
  match σ.tm t with
  |some ([],.one c)=>match lk b.own t,c with
   |some T,.mN ty=>some (Slot.tmp t,ty,some (T,b.ex))
   |some T,.own _ _ ty=>some (Slot.tmp t,ty,some (T,false))
   |some T,.xo _ ty=>some (Slot.tmp t,ty,some (T,true))
   |_,c=>match asData c with
    |some (_,ty)=>some (Slot.tmp t,ty,none)
    |none=>none
  |_=>none
 let h:=b.boxes.flatMap fun x=>
  match σ.tm x.1 with
  |some ([],.one (.pJ id 0))=>Ff b.ex σ x.2 id
  |some ([],.one (.Ct id))=>Ff b.ex σ x.2 id
  |_=> []
 let iM:=e++h;let d:=(iM.filterMap fun x=>mb σ x).filterMap (·.2)
 let keep:=(((List.range n).flatMap fun t=>match σ.tm t with|some (_,s)=>Vm s|none=> [])++
  ((List.range v0).flatMap fun id=>match σ.hp id with|some (_,cs)=>cs.flatMap CA|none=> [])).filter fun g=> !d.contains g
 let f:=sj v0 0 iM
 {v0,iM,keep,
  st:={
   tm:=fun t=>if t<n then(if A.contains t then(match og (.tmp t) iM 0 with|some (j,ty,T)=>some ([],.one (kB (v0+j) ty T))|none=>none) else σ.tm t) else none
   hp:=fun id=>if id<v0 then(match σ.hp id with|some (ro,cs)=>some (ro,Cc iM v0 id 0 cs)|none=>none) else none
   live:=fun g=>match lk f g with|some x=>some x|none=>if keep.contains g then σ.live g else none}}
def xC: ∀{l:List (Slot×Ty×Tao nW)} {v0 k:Nat} {g:Tag} {x:E×Tba×Ty},lk (sj v0 k l) g=some x-> ∃j e T,l[j]? =some (e,T)∧ ∃b,T.2=some b∧g=lf (v0+(k+j)) b∧x=(.var (v0+(k+j)),b.1,T.1)
 | [],_,_,_,_,h=>by cases h
 |(s,e,T)::r,v0,k,g,x,h=>by
  have step: ∀{y},lk (sj v0 (k+1) r) g=some y-> ∃j c b,((s,e,T)::r)[j]? =some (c,b)∧ ∃d,b.2=some d∧g=lf (v0+(k+j)) d∧y=(.var (v0+(k+j)),d.1,b.1):=by intro y f;obtain⟨j,c,b,o,m⟩:=xC f;refine⟨j+1,c,b,by simpa using o,?_⟩;rw[show k+(j+1)=k+1+j by omega];exact m
  cases T with
  |none=>simp only[sj,cX]at h;exact step h
  |some T0=>
   simp only[sj,dU,cX,lk]at h;split at h
   ·rename_i i;injection h with h;exact⟨0,s,(e,some T0),rfl,T0,rfl,i,h.symm⟩
   ·exact step h
def KR(n:Nat)(b:D4)(A:Tah)(σ:St)(v0:Nat):HR n (uf n b A σ v0) where
 tm t ht:=by simp only[uf];rw[if_neg (by omega)]
 hp id hid:=by have h:v0<=id:=hid;simp only[uf];rw[if_neg (by omega)]
 live g x hx:=by
  simp only[uf]at hx;split at hx
  ·rename_i y e;injection hx with hx;subst hx;obtain⟨j,d,T,i,c⟩:=xC e;rw[ao]at c;exact .inr ⟨j,d,T,i,c⟩
  ·split at hx
   ·rename_i f;exact .inl (by simpa [uf]using f)
   ·cases hx
def fZ(ρ:Nat->D)(v0:Nat)(xs:Taf):Nat->D:=fun i=>if v0<=i∧i<v0+xs.length then xs.getD (i-v0) .top else ρ i
def Ji{ρ:Nat->D}{v0:Nat}{xs:Taf}{i:Nat}(h:i<v0):fZ ρ v0 xs i=ρ i:=by unfold fZ;rw[if_neg (by omega)]
def PL{ρ:Nat->D}{v0:Nat}{xs:Taf}{j:Nat}{d:D}(h:xs[j]? =some d):fZ ρ v0 xs (v0+j)=d:=by have b:j<xs.length:=(aG.1 h).1;unfold fZ;rw[if_pos ⟨by omega,by omega⟩,show v0+j-v0=j by omega];exact gu h
def oD{s:Slot}: ∀{l:List (Slot×Ty×Tao nW)} {k j:Nat} {y:Ty×Tao nW},og s l k=some (j,y)->k<=j∧l[j-k]? =some (s,y)
 | [],_,_,_,h=>by cases h
 |x::r,k,j,y,h=>by
  simp only[og]at h;split at h
  ·rename_i b;obtain⟨rfl,rfl⟩:=iD h;refine⟨bf _,?_⟩;rw[Nat.sub_self,<-b];rfl
  ·obtain⟨d,c⟩:=oD h;refine⟨by omega,?_⟩;rw[show j-k=(j-(k+1))+1 by omega];simpa using c
def vR{σ:St}: ∀{l:List (Slot×Ty×Tao nW)} {vs:List (E×Tao Tag)},rA σ l=some vs->vs.length=l.length∧ ∀(j:Nat) x y,l[j]? =some x->vs[j]? =some y->mb σ x=some y
 | [],vs,h=>by simp only[rA,aa]at h;subst h;exact⟨rfl,by intro j x y i;simp at i⟩
 |x::r,vs,h=>by
  simp only[rA]at h;split at h
  ·rename_i y o m k;injection h with h;subst h;obtain⟨g,f⟩:=vR k;refine⟨by simp[g],fun j e d c b=> ?_⟩;cases j with
   |zero=>simp at c b;subst c;subst b;exact m
   |succ j=>exact f j e d (by simpa using c) (by simpa using b)
  ·cases h
section
variable{C:Cx}{G:Gh}{w w0:Tam}{S0:gJ}{σ:St}{a:Act}{n:Nat}
def qG.shrink{c:SC}{v:Tan}{v0:Nat}{s:Cx}{D:Gh}(h:qG C w G c v)(d:c.lt v0=true)(p:c.ids v0=true)(F: ∀i,i<v0->s.ρ i=C.ρ i)(U:v0<=s.N)(z: ∀i,i<v0->s.M i)(y:D.S=G.S)(x: ∀i,i<v0->D.β i=G.β i)(r: ∀g:Tag,g.1<v0->D.τ g=G.τ g):qG s w D c v:=by
 have m: ∀{e:E},e.lt v0=true->den s.ρ e=den C.ρ e:=fun f=>dO F f
 have q: ∀{e:E},e.lt v0=true->e.lt s.N=true:=by
  intro e
  induction e with
  |var i=>intro f;simp only[E.lt,bk]at f⊢;omega
  |aR|eO|Bf|gI|nil=>intro _;rfl
  |cons a b po pn=>intro f;simp only[E.lt,aS]at f⊢;exact⟨po f.1,pn f.2⟩
  |un o e ih=>intro f;exact ih f
  |bin o a b po pn=>intro f;simp only[E.lt,aS]at f⊢;exact⟨po f.1,pn f.2⟩
  |ite c a b JW po pn=>intro f;simp only[E.lt,aS]at f⊢;exact⟨⟨JW f.1.1,po f.1.2⟩,pn f.2⟩
 cases c with
 |gz e t=>exact⟨q d,by rw[m d,y];exact h.2.1,by rw[m d];exact h.2.2⟩
 |mN t=>exact h
 |own g e t=>
  have k:g.1<v0:=by simpa [SC.ids]using p
  obtain⟨_,_,B,A,K⟩:=h;exact⟨z _ k,q d,by rw[m d,y];exact B,by rw[m d];exact A,by rw[r g k];exact K⟩
 |clip e t=>
  obtain⟨_,B,A,b,K⟩:=h;exact⟨q d,by rw[m d,y];exact B,by rw[m d];exact A,b,by rw[m d];exact K⟩
 |pJ id off=>
  have k:id<v0:=by simpa [SC.ids]using p
  exact⟨z _ k,by rw[x id k];exact h.2⟩
 |yL l i t off=>
  simp only[SC.lt,aS]at d;obtain⟨_,_,b,o,u,H,I,J⟩:=h;have O:den s.ρ (.bin .idx l i)=den C.ρ (.bin .idx l i):=m (by simp[E.lt,d]);exact⟨q d.1,q d.2,b,o,u,H,by rw[O];exact I,by rw[O,y];exact J⟩
 |yH e fs off=>
  obtain⟨_,b,l,u,P,I,H,J⟩:=h;exact⟨q d,b,l,u,by rw[m d];exact P,I,H,by rw[y];exact J⟩
 |xo g t=>
  have k:g.1<v0:=by simpa [SC.ids]using p
  exact⟨z _ k,by rw[r g k];exact h.2.1,h.2.2⟩
 |tS g i t off=>
  have k:g.1<v0:=by simpa [SC.ids]using p
  obtain⟨_,_,b,L,n,R,Q,B,A⟩:=h;have j:i.lt v0=true:=d;exact⟨z _ k,q j,b,L,n,by rw[r g k];exact R,by rw[m j];exact Q,by rw[m j];exact B,by rw[m j];exact A⟩
 |Ct id=>
  have k:id<v0:=by simpa [SC.ids]using p
  exact⟨z _ k,by rw[x id k];exact h.2⟩
 |Gb=>exact h
 |tU e kt T=>exact h.elim
def SV.DY{s:SV}{v:Tan}{v0:Nat}{B:Cx}{A:Gh}(h:wu C w G s v)(b:s.lt v0=true)(d:s.ids v0=true)(e: ∀{c:SC} {u:Tan},qG C w G c u->c.lt v0=true->c.ids v0=true->qG B w A c u):wu B w A s v:=by
 cases s with
 |one c=>exact e h b d
 |agg l=>
  obtain⟨p,y,t,r⟩:=h;simp only[SV.lt,SV.ids,bY]at b d;exact⟨p,y,t,fun i c u g j=>e (r i c u g j) (b c (bU g)) (d c (bU g))⟩
 |eS l=>
  obtain⟨p,y,t,r⟩:=h;simp only[SV.lt,SV.ids,bY]at b d;refine⟨p,y,t,fun i x u z j=> ?_⟩;have o:=bU z;have m:=r i x u z j;unfold lG at m⊢;split
  ·rename_i f;rw[if_pos f]at m;obtain⟨D,k,q,E⟩:=m;exact⟨D,k,q,fun i c u g j=>e (E i c u g j) (b x o c (bU g)) (d x o c (bU g))⟩
  ·rename_i f;rw[if_neg f]at m;obtain⟨c,k,q⟩:=m;exact⟨c,k,e q (b x o c (by rw[k];simp)) (d x o c (by rw[k];simp))⟩
def vX{h:Head}{id:Nat}: ∀{k:Nat} {l l':List SC},rM h id k l l'=true->l.length=l'.length∧ ∀(i:Nat) c f,l[i]? =some c->l'[i]? =some f->
  (∃j e T,og (.cell id (k+i)) h.iM 0=some (j,e,T)∧c=kB (h.v0+j) e T)∨(f=c∧c.lt h.v0=true∧c.ids h.v0=true∧c.scalar=true)
 |k,[],[],_=>⟨rfl,by intro i c f s;simp at s⟩
 |k,c::r,f::r',hf=>by
  simp only[rM,aS]at hf;obtain⟨d,t⟩:=hf;obtain⟨p,o⟩:=vX t;refine⟨by simp[p],fun i x m g b=> ?_⟩;cases i with
  |zero=>
   simp at g b;subst g;subst b;split at d
   ·rename_i j e T q;exact .inl ⟨j,e,T,q,by simpa using d⟩
   ·simp only[aS,bk]at d;exact .inr ⟨d.1.1.1,d.1.1.2,d.1.2,d.2⟩
  |succ i=>
   have:=o i x m (by simpa using g) (by simpa using b);rw[show k+(i+1)=k+1+i by omega];exact this
 |_,[],_::_,h=>by cases h
 |_,_::_,[],h=>by cases h
def Zd(G:Gh)(σ:St)(b:Nat):Prop:=(∃id y,σ.hp id=some y∧b=G.β id)∨ ∃g y,σ.live g=some y∧(G.τ g).ownBlock=some b
def Lc{h:Head}{es:List E}{ρ0:Nat->D}(L:gG n w0 S0 C G σ a w)(d8:HR n h)(I:Ev n h σ=some es)(e3: ∀i,i<h.v0->ρ0 i=C.ρ i)(f1: ∀i b,S0.pK i=some b->i<h.v0):
  es.length=h.size∧(∀(j:Nat) x e,h.iM[j]? =some x->es[j]? =some e->Has (lI x.2.1 x.2.2) (den C.ρ e))∧
  ∃G',(G'.S=G.S∧G'.β=G.β∧ ∀b,Zd G' h.st b->Zd G σ b)∧gG n w0 S0 ⟨fZ ρ0 h.v0 (es.map (den C.ρ)),h.v0+h.size,fun i=>i<h.v0+h.size⟩ G' h.st a w:=by
 unfold Ev at I;split at I
 ·rename_i vs g5;simp only at I;split at I
  ·rename_i p;injection I with I;simp only[aS]at p;obtain⟨⟨⟨⟨g9,i0⟩,h9⟩,h8⟩,e7⟩:=p;obtain⟨e5,g6⟩:=vR g5;have f7:es.length=h.size:=by rw[<-I,ak,e5];rfl
   have d3: ∀(j:Nat) x,vs[j]? =some x->es[j]? =some x.1:=by intro j x f;rw[<-I,ab,f];rfl
   let g4:=fZ ρ0 h.v0 (es.map (den C.ρ));let C':Cx:=⟨g4,h.v0+h.size,fun i=>i<h.v0+h.size⟩;let f9:Tag->Tan:=fun g=>if h.v0<=g.1 then(match vs[g.1-h.v0]? with|some (_,some g')=>G.τ g'|_=>.slice none 0 0) else G.τ g
   let G':Gh:=⟨G.S,G.β,f9⟩;have b9: ∀i,i<h.v0->C'.ρ i=C.ρ i:=fun i hi=>(Ji hi).trans (e3 i hi);have d1: ∀g:Tag,g.1<h.v0->G'.τ g=G.τ g:=fun g hg=>if_neg (by omega)
   have V: ∀(j:Nat) x,vs[j]? =some x-> ∀q:Nat,G'.τ (h.v0+j,q)=(match x.2 with|some g'=>G.τ g'|none=>.slice none 0 0):=by intro j x f q;show(if h.v0<=h.v0+j then _ else _)=_;rw[if_pos (by omega)];simp only[Nat.add_sub_cancel_left,f];obtain⟨e,_|g'⟩:=x<;>rfl
   have shrink: ∀{c:SC} {u:Tan},qG C w G c u->c.lt h.v0=true->c.ids h.v0=true->qG C' w G' c u:=fun M J h3=>M.shrink J h3 b9 (cM _ _) (fun i hi=>av hi (cM _ _)) rfl (fun _ _=>rfl) d1
   have c9: ∀(j:Nat) x,vs[j]? =some x->den C'.ρ (.var (h.v0+j))=den C.ρ x.1:=by intro j x f;show fZ ρ0 h.v0 _ _=_;exact PL (by rw[ab,d3 j x f];rfl)
   have c5: ∀{j:Nat} {x},h.iM[j]? =some x->h.v0+j<h.v0+h.size:=by intro j x f;have:=(aG.1 f).1;unfold Head.size;omega
   have a1: ∀{j:Nat} {x},h.iM[j]? =some x-> ∃y,vs[j]? =some y∧mb σ x=some y:=by
    intro j x f;have F:j<vs.length:=by rw[e5];exact(aG.1 f).1
    exact⟨vs[j],aQ F,g6 j x _ f (aQ F)⟩
   have b8: ∀{j:Nat} {s:Slot} {O:Ty} {T:Tao nW} {c:SC} {u:Tan},h.iM[j]? =some (s,O,T)->kW σ s=some c->qG C w G c u->qG C' w G' (kB (h.v0+j) O T) u∧
     ∀x,vs[j]? =some x->Has (lI O T) (den C.ρ x.1):=by
    intro j s O T c u F a2 hr;obtain⟨y,B,d⟩:=a1 F;have hd:=c9 j y B;have r:=c5 F;unfold mb at d;simp only[a2]at d;cases T with
    |none=>
     simp only at d;split at d
     ·split at d
      ·exact hr.elim
      ·cases d
     rename_i R;split at d
     ·rename_i e t f8;split at d
      ·rename_i e6;injection d with d;subst d;subst e6;obtain⟨q1,q2,q3⟩:=kM f8 hr;simp only[kB,lI,R];refine⟨⟨by simp only[E.lt,bk];exact r,by rw[hd];exact q2,by rw[hd];exact q3⟩,fun x f=> ?_⟩;rw[B]at f;injection f with f;subst f;exact q3
      ·cases d
     ·cases d
    |some K=>
     simp only at d
     have f0:0<O.cells.length:=by have:=bY.1 e7 _ (bU F);simp at this;exact this.2
     obtain⟨K,x0⟩:=K;split at d
     ·rename_i t;split at d
      ·rename_i e6;injection d with d;subst d;have h0:Has (.list O) (.list []):=bL.2 ⟨[],rfl,gw _,by simp⟩;have X:u= .slice none 0 0:=hr;refine⟨?_,fun x f=> ?_⟩
       ·cases x0 with
        |false=>
         refine⟨r,by simp only[E.lt,bk];exact r,?_,by rw[hd];exact h0,by rw[V j _ B];exact X⟩;rw[hd,X];exact .nil none 0
        |true=>exact⟨r,by rw[V j _ B];exact X,_,_,_,X⟩
       ·rw[B]at f;injection f with f;subst f;exact h0
      ·cases d
     ·rename_i g e0 t;split at d
      ·rename_i e T' t' a6;split at d
       ·rename_i A;obtain⟨rfl,rfl,rfl,Q,a9⟩:=A;have Q:x0=false:=Q;subst Q;injection d with d;subst d;have a3:=L.m.own _ _ _ _ a6;have e9:=a3.rep f0 a9;obtain⟨_,_,_,_,X⟩:=hr;refine⟨⟨r,by simp only[E.lt,bk];exact r,by rw[hd,X];exact e9,by rw[hd];exact a3.has,by rw[V j _ B];exact X⟩,fun x f=> ?_⟩;rw[B]at f;injection f with f;subst f;exact a3.has
       ·cases d
      ·cases d
     ·rename_i g t;split at d
      ·rename_i e T' t' a6;split at d
       ·rename_i A;obtain⟨rfl,rfl,rfl,Q,a9⟩:=A;have Q:x0=true:=Q;subst Q;injection d with d;subst d;have a3:=L.m.own _ _ _ _ a6;obtain⟨_,X,c2⟩:=hr;refine⟨⟨r,by rw[V j _ B];exact X,c2⟩,fun x f=> ?_⟩;rw[B]at f;injection f with f;subst f;exact a3.has
       ·cases d
      ·cases d
     ·cases d
   have b7: ∀(j:Nat) x e,h.iM[j]? =some x->es[j]? =some e->Has (lI x.2.1 x.2.2) (den C.ρ e):=by
    rintro j ⟨s,O,T⟩ e F k;obtain⟨y,B,d⟩:=a1 F;have e4:y.1=e:=by have:=d3 j y B;rw[k]at this;injection this with this;exact this.symm
    have c2: ∃c,kW σ s=some c:=by
     unfold mb at d;cases hq:kW σ s with
     |none=>simp[hq]at d
     |some c=>exact⟨c,rfl⟩
    obtain⟨c,p⟩:=c2;by_cases f3: ∃e0 a5 K,c= .tU e0 a5 K
    ·obtain⟨e0,a5,K,rfl⟩:=f3
     have e1: ∃id ro,σ.hp id=some (ro,[SC.tU e0 a5 K])∨ ∃u,qG C w G (.tU e0 a5 K) u:=by
      cases s with
      |tmp t=>
       simp only[kW]at p;split at p
       ·rename_i c' d7;injection p with p;subst p;obtain⟨v,_,_,_,h4⟩:=L.t t _ _ d7;simp only[aU,bQ,if_true]at h4;exact⟨0,false,.inr ⟨v,h4⟩⟩
       ·cases p
      |cell id i=>
       simp only[kW]at p;split at p
       ·rename_i ro cs Y;obtain⟨_,_,N,_⟩:=L.m.box _ _ _ Y;cases Pq:mapOf cs with
        |none=>
         obtain⟨d4,T',_,hr⟩:=N.cells Pq;have c7:i<d4.length:=by rw[hr.1];exact(aG.1 p).1
         exact⟨0,false,.inr ⟨_,hr.2 i _ _ p (aQ c7)⟩⟩
        |some z=>
         unfold mapOf at Pq;split at Pq
         ·cases i with
          |zero=>simp at p;obtain⟨rfl,rfl,rfl⟩:=p;exact⟨id,ro,.inl Y⟩
          |succ i=>simp at p
         ·cases Pq
       ·cases p
     obtain⟨id,ro,Y|⟨u,X⟩⟩:=e1
     ·obtain⟨_,_,N,_⟩:=L.m.box _ _ _ Y;obtain⟨_,i3,_⟩:=N;unfold mb at d;simp only[p]at d;cases T with
      |none=>
       simp only at d;split at d
       ·rename_i kt T1 R;split at d
        ·rename_i A;obtain⟨rfl,rfl⟩:=A;injection d with d;simp only[lI,R];rw[<-e4,<-d];exact i3
        ·cases d
       ·simp[asData]at d
      |some T1=>simp at d
     ·exact X.elim
    have e8: ∃u,qG C w G c u:=by
     cases s with
     |tmp t=>
      simp only[kW]at p;split at p
      ·rename_i c' d7;injection p with p;subst p;obtain⟨v,_,_,_,h4⟩:=L.t t _ _ d7;simp only[aU,bQ,if_true]at h4;exact⟨v,h4⟩
      ·cases p
     |cell id i=>
      simp only[kW]at p;split at p
      ·rename_i ro cs Y;obtain⟨_,_,N,_⟩:=L.m.box _ _ _ Y
       have h7:mapOf cs=none:=by
        unfold mapOf;split
        ·cases i with
         |zero=>simp at p;exact absurd ⟨_,_,_,p.symm⟩ f3
         |succ i=>simp at p
        ·rfl
       obtain⟨d4,T',_,hr⟩:=N.cells h7;have c7:i<d4.length:=by rw[hr.1];exact(aG.1 p).1
       exact⟨_,hr.2 i c _ p (aQ c7)⟩
      ·cases p
    obtain⟨u,X⟩:=e8;rw[<-e4];exact(b8 F p X).2 y B
   refine⟨f7,b7,G',?_⟩
   have W: ∀id ro cs,h.st.hp id=some (ro,cs)->id<h.v0∧ ∃U,σ.hp id=some (ro,U)∧rM h id 0 cs U=true:=by
    intro id ro cs f
    have Y:id<h.v0:=by
     rcases Nat.lt_or_ge id h.v0 with M|M
     ·exact M
     ·rw[d8.hp id M]at f;cases f
    have:=bY.1 i0 id (db.2 Y);simp only[f]at this;split at this
    ·rename_i i6 U f5;simp only[aS,beq_iff_eq]at this;exact⟨Y,U,by rw[f5,this.1],this.2⟩
    ·cases this
   have P: ∀g x,h.st.live g=some x->(g.1<h.v0∧σ.live g=some x∧x.1.lt h.v0=true∧(∀(j:Nat) y,vs[j]? =some y->y.2≠some g))∨
     (∃j s O K y,h.iM[j]? =some (s,O,some K)∧vs[j]? =some y∧g=lf (h.v0+j) K∧x=(.var (h.v0+j),K.1,O)∧(y.2=none∧y.1= .nil∨ ∃g',y.2=some g'∧σ.live g'=some (y.1,K.1,O)∧g'.ex=K.2)):=by
    intro g x f;rcases d8.live g x f with hk|⟨j,s,T,F,K,hT,hg,a8⟩
    ·have:=bY.1 h9 g hk;simp only[f,aS,bk,ff]at this;refine .inl ⟨this.1.1.2,this.1.1.1,this.1.2,fun j y B k=> ?_⟩;have f2:some g∈vs.map (·.2):=bn.2 ⟨y,bU B,k⟩;have J:=this.2;rw[List.contains_eq_mem]at J;simp[f2]at J
    ·obtain⟨O,T⟩:=T;simp only at hT a8;subst hT;obtain⟨y,B,d⟩:=a1 F;refine .inr ⟨j,s,O,K,y,F,B,hg,a8,?_⟩;unfold mb at d;simp only at d;split at d
     ·split at d
      ·split at d
       ·injection d with d;subst d;exact .inl ⟨rfl,rfl⟩
       ·cases d
      ·rename_i g0 e0 t _;split at d
       ·rename_i e T' t' hl;split at d
        ·rename_i A;obtain⟨rfl,rfl,rfl,Q,a9⟩:=A;injection d with d;subst d;exact .inr ⟨g0,rfl,hl,a9.trans Q.symm⟩
        ·cases d
       ·cases d
      ·rename_i g0 t _;split at d
       ·rename_i e T' t' hl;split at d
        ·rename_i A;obtain⟨rfl,rfl,rfl,Q,a9⟩:=A;injection d with d;subst d;exact .inr ⟨g0,rfl,hl,a9.trans Q.symm⟩
        ·cases d
       ·cases d
      ·cases d
     ·cases d
   have d0: ∀g x b,h.st.live g=some x->(G'.τ g).ownBlock=some b-> ∃g0 x0,σ.live g0=some x0∧(G.τ g0).ownBlock=some b∧((g.1<h.v0∧g0=g)∨ ∃j y s O K,h.iM[j]? =some (s,O,some K)∧vs[j]? =some y∧y.2=some g0∧g=lf (h.v0+j) K):=by
    intro g x b f Z;rcases P g x f with⟨M,J,h3,_⟩|⟨j,s,O,K,y,F,B,hg,a8,Nb⟩
    ·rw[d1 g M]at Z;exact⟨g,x,J,Z,.inl ⟨M,rfl⟩⟩
    ·rw[hg]at Z;unfold lf at Z;rw[V j y B]at Z;rcases Nb with⟨hn,_⟩|⟨g',Ub,hl,_⟩
     ·rw[hn]at Z;cases Z
     ·rw[Ub]at Z;exact⟨g',_,hl,Z,.inr ⟨j,y,s,O,K,F,B,Ub,hg⟩⟩
   refine⟨⟨rfl,rfl,?_⟩,?_,?_,L.sz,L.defers⟩
   ·rintro b (⟨id,y,B,rfl⟩|⟨g,y,B,Z⟩)
    ·obtain⟨_,ci,J,_⟩:=W id y.1 y.2 B;exact .inl ⟨id,_,J,rfl⟩
    ·obtain⟨g0,x0,l0,b0,_⟩:=d0 g y b B Z;exact .inr ⟨g0,x0,l0,b0⟩
   ·
    refine⟨L.m.below,L.m.jA,L.m.keep,?_,L.m.kT,L.m.dF,L.m.gX,?_,?_,?_,?_,?_,?_,?_,fun f6 g=> ?_,L.m.wz⟩
    rotate_right
    ·show yl (ji w0 S0) w G.S (if h.v0<=g.1 then(match vs[g.1-h.v0]? with|some (_,some g')=>G.τ g'|_=>.slice none 0 0) else G.τ g);split
     ·split
      ·exact L.m.fresh f6 _
      ·intro a0 n0 i5 i7;exact .inl rfl
     ·exact L.m.fresh f6 g
    ·intro i b hi;exact⟨av (f1 i b hi) (cM _ _),(L.m.pK i b hi).2⟩
    ·intro id x f;obtain⟨M,_⟩:=W id x.1 x.2 f;exact av M (cM _ _)
    ·intro id ro cs f;obtain⟨M,U,J,h3⟩:=W id ro cs f;obtain⟨b1,b2,N,b5⟩:=L.m.box id ro U J;obtain⟨k1,k2⟩:=vX h3;cases Pq:mapOf U with
     |some z=>
      unfold mapOf at Pq;split at Pq
      ·rename_i e0 a5 K;obtain⟨c,A⟩:=bJ.1 k1;subst A;obtain⟨g1,g2,g3⟩:=N;rcases k2 0 c (.tU e0 a5 K) rfl rfl with⟨j,O,T1,c4,rfl⟩|⟨k,r,Zp,a2⟩
       ·obtain⟨_,F⟩:=oD c4;rw[Nat.sub_zero,ao]at F;obtain⟨y,B,d⟩:=a1 F;have hd:=c9 j y B;unfold mb at d;have h6:kW σ (.cell id 0)=some (.tU e0 a5 K):=by simp only[kW,J];rfl
        simp only[h6]at d;cases T1 with
        |none=>
         simp only at d;split at d
         ·rename_i kt T2 R;split at d
          ·rename_i A;obtain⟨rfl,rfl⟩:=A;injection d with d;rw[<-d]at hd;simp only[kB,R];exact⟨b1,rfl,⟨by simp only[E.lt,bk];exact c5 F,by rw[hd];exact g2,by rw[hd];exact g3⟩,b5⟩
          ·cases d
         ·simp[asData]at d
        |some T1=>simp at d
       ·subst k;have b6:den C'.ρ e0=den C.ρ e0:=dO b9 r
        have g7:e0.lt (h.v0+h.size)=true:=by
         have: ∀{e:E},e.lt h.v0=true->e.lt (h.v0+h.size)=true:=by
          intro e
          induction e with
          |var i=>intro k;simp only[E.lt,bk]at k⊢;omega
          |aR|eO|Bf|gI|nil=>intro _;rfl
          |cons a b po pn=>intro k;simp only[E.lt,aS]at k⊢;exact⟨po k.1,pn k.2⟩
          |un o e ih=>intro k;exact ih k
          |bin o a b po pn=>intro k;simp only[E.lt,aS]at k⊢;exact⟨po k.1,pn k.2⟩
          |ite c a b JW po pn=>intro k;simp only[E.lt,aS]at k⊢;exact⟨⟨JW k.1.1,po k.1.2⟩,pn k.2⟩
         exact this r
        exact⟨b1,b2,⟨g7,by rw[b6];exact g2,by rw[b6];exact g3⟩,b5⟩
      ·cases Pq
     |none=>
     obtain⟨us,T,b3,b4⟩:=N.cells Pq
     have a4: ∀(i:Nat) c,cs[i]? =some c->c.scalar=true∧ ∀u,us[i]? =some u->qG C' w G' c u:=by
      intro i c p;have c7:i<U.length:=by rw[<-k1];exact(aG.1 p).1
      have d2:U[i]? =some U[i] :=aQ c7;rcases k2 i c _ p d2 with⟨j,O,T1,c4,rfl⟩|⟨k,r,Zp,a2⟩
      ·obtain⟨_,F⟩:=oD c4;rw[Nat.sub_zero]at F;rw[ao]at F;have a2:=bY.1 e7 _ (bU F);simp only[aS]at a2;refine⟨?_,fun u X=>(b8 F (by simp only[kW,J];exact d2) (b4.2 i _ u d2 X)).1⟩;cases T1 with
       |none=>
        cases R:Em O with
        |none=>simp only[kB,lI,R]at a2⊢;exact a2.1
        |some z=>simp only[kB,R];rfl
       |some T1=>obtain⟨T1,_|_⟩:=T1<;>rfl
      ·refine⟨a2,fun u X=>shrink ?_ r Zp⟩;have:=b4.2 i _ u d2 X;rw[k]at this;exact this
     refine⟨b1,?_,jD.mk (vs:=us) (T:=T) b3 ⟨by rw[b4.1,k1],fun i c u p X=>(a4 i c p).2 u X⟩,?_⟩
     ·rw[bY];intro c p;obtain⟨i,hi⟩:=aw p;exact(a4 i c hi).1
     ·rw[k1];exact b5
    ·intro i j x y hi F k;obtain⟨_,ci,J,_⟩:=W i x.1 x.2 hi;obtain⟨_,cj,h3,_⟩:=W j y.1 y.2 F;exact L.m.inj i j _ _ J h3 k
    ·intro g e T t f;rcases P g _ f with⟨M,J,h3,_⟩|⟨j,s,O,K,y,F,B,hg,a8,Nb⟩
     ·have ho:=L.m.own g e T t J;have b6:den C'.ρ e=den C.ρ e:=dO b9 h3
      have f4:e.lt (h.v0+h.size)=true:=by
       have:=(shrink (c:=.gz e .bool) (u:=.bool true));clear this;revert h3;clear f J ho b6
       induction e with
       |var i=>intro k;simp only[E.lt,bk]at k⊢;omega
       |aR|eO|Bf|gI|nil=>intro _;rfl
       |cons a b po pn=>intro k;simp only[E.lt,aS]at k⊢;exact⟨po k.1,pn k.2⟩
       |un o e ih=>intro k;exact ih k
       |bin o a b po pn=>intro k;simp only[E.lt,aS]at k⊢;exact⟨po k.1,pn k.2⟩
       |ite c a b JW po pn=>intro k;simp only[E.lt,aS]at k⊢;exact⟨⟨JW k.1.1,po k.1.2⟩,pn k.2⟩
      obtain⟨xs,l,q1,q2,q3,q4⟩:=ho.own;refine⟨av M (cM _ _),f4,by rw[b6];exact ho.has,xs,l,by rw[b6];exact q1,?_,?_,q4⟩
      ·rw[d1 g M];exact q2
      ·rw[d1 g M];exact q3
     ·simp only[ae]at a8;obtain⟨rfl,rfl,rfl⟩:=a8;have hd:=c9 j y B;have r:=c5 F;subst hg;have a7:G'.τ (lf (h.v0+j) K)=(match y.2 with|some g'=>G.τ g'|none=>.slice none 0 0):=V j y B _;have h5:=H0 (h.v0+j) K;rcases Nb with⟨hn,Zn⟩|⟨g',Ub,hl,hgx⟩
      ·refine⟨r,by simpa [E.lt]using r,by rw[hd,Zn];exact bL.2 ⟨[],rfl,gw _,by simp⟩,[],[],by rw[hd,Zn];rfl,?_,?_,by simp⟩
       ·rw[a7,hn];exact fb w _ _ _
       ·rw[a7,hn];intro b Z;cases Z
      ·have ho:=L.m.own _ _ _ _ hl;obtain⟨xs,l,q1,q2,q3,q4⟩:=ho.own;refine⟨r,by simpa [E.lt]using r,by rw[hd];exact ho.has,xs,l,by rw[hd];exact q1,?_,?_,q4⟩
       ·rw[a7,Ub];exact q2
       ·rw[a7,Ub,h5,<-hgx];exact q3
    ·intro g x b f Z;obtain⟨g0,x0,M,J,_⟩:=d0 g x b f Z;exact L.m.gh g0 x0 b M J
    ·intro g g' x y b f B Z i4;obtain⟨g0,x0,l0,b0,c0⟩:=d0 g x b f Z;obtain⟨g1,x1,l1,b1,c1⟩:=d0 g' y b B i4;have k:=L.m.js g0 g1 x0 x1 b l0 l1 b0 b1;subst k;rcases c0 with⟨M,rfl⟩|⟨j,z,s,O,K,F,hz,hz2,hg⟩<;>rcases c1 with⟨J,h3⟩|⟨j',z',s',ty',T0',c6,hz',Zj,Ub⟩
     ·exact h3
     ·rcases P g0 x f with⟨_,_,_,hno⟩|⟨j0,_,_,_,_,_,_,hg0,_,_⟩
      ·exact absurd Zj (hno j' z' hz')
      ·rw[hg0]at M;simp[lf]at M;omega
     ·subst h3;rcases P g0 y B with⟨_,_,_,hno⟩|⟨j0,_,_,_,_,_,_,hg0,_,_⟩
      ·exact absurd hz2 (hno j z hz)
      ·rw[hg0]at J;simp[lf]at J;omega
     ·have:=qA h8 j j' g0 (by rw[ab,hz];simp[hz2]) (by rw[ab,hz'];simp[Zj]);subst this;rw[F]at c6;injection c6 with c6;simp only[ae,aa]at c6;rw[hg,Ub,c6.2.2]
    ·intro g id x y b f B Z;obtain⟨g0,x0,l0,b0,_⟩:=d0 g x b f Z;obtain⟨_,ci,J,_⟩:=W id y.1 y.2 B;exact L.m.eK g0 id x0 _ b l0 J b0
   ·
    intro t c s d6
    have g8:t<n:=by
     rcases Nat.lt_or_ge t n with M|M
     ·exact M
     ·rw[d8.tm t M]at d6;cases d6
    have:=bY.1 g9 t (db.2 g8);simp only[d6]at this;split at this
    ·rename_i j O T c4;simp only[bk]at this;obtain⟨rfl,rfl⟩:=this;obtain⟨_,F⟩:=oD c4;rw[Nat.sub_zero]at F;obtain⟨y,B,d⟩:=a1 F
     have p: ∃c,σ.tm t=some ([],.one c)∧kW σ (.tmp t)=some c:=by
      unfold mb at d;cases hq:kW σ (.tmp t) with
      |none=>simp[hq]at d
      |some c=>
       refine⟨c,?_,rfl⟩;simp only[kW]at hq;split at hq
       ·rename_i c' h';injection hq with hq;subst hq;exact h'
       ·cases hq
     obtain⟨c,i2,i1⟩:=p;obtain⟨v,M,_,_,h4⟩:=L.t t _ _ i2;simp only[aU,bQ,if_true]at h4;have hr:=(b8 F i1 h4).1;refine⟨v,M,by simp,?_,by simp only[aU,bQ,if_true];exact hr⟩;cases T with
     |none=>
      cases R:Em O with
      |none=>simp only[kB,R]at hr⊢;exact hr.1
      |some z=>simp only[kB,R]at hr;exact hr.elim
     |some K=>
      obtain⟨K,_|_⟩:=K
      ·exact hr.2.1
      ·rfl
    ·simp only[aS,bk]at this;obtain⟨⟨⟨M,J⟩,h3⟩,h4⟩:=this;obtain⟨v,q1,q2,q3,q4⟩:=L.t t c s M;have e2: ∀x∈c,x.1.lt h.v0=true:=bY.1 h4
     have up: ∀{e:E},e.lt h.v0=true->e.lt (h.v0+h.size)=true:=by
      intro e
      induction e with
      |var i=>intro k;simp only[E.lt,bk]at k⊢;omega
      |aR|eO|Bf|gI|nil=>intro _;rfl
      |cons a b po pn=>intro k;simp only[E.lt,aS]at k⊢;exact⟨po k.1,pn k.2⟩
      |un o e ih=>intro k;exact ih k
      |bin o a b po pn=>intro k;simp only[E.lt,aS]at k⊢;exact⟨po k.1,pn k.2⟩
      |ite c a b JW po pn=>intro k;simp only[E.lt,aS]at k⊢;exact⟨⟨JW k.1.1,po k.1.2⟩,pn k.2⟩
     have d5: ∀{c:SC},c.lt h.v0=true->c.lt (h.v0+h.size)=true:=by intro c p;cases c<;>simp only[SC.lt,aS]at p⊢ <;>first|exact up p|exact⟨up p.1,up p.2⟩
     have d9:aU C'.ρ c=aU C.ρ c:=by
      unfold aU;rw[du,bY,bY];constructor
      ·intro H x f;rw[<-dO b9 (e2 x f)];exact H x f
      ·intro H x f;rw[dO b9 (e2 x f)];exact H x f
     refine⟨v,q1,fun x f=>up (e2 x f),?_,?_⟩
     ·cases s with
      |one c=>exact d5 J
      |agg l=>simp only[SV.lt,bY]at J⊢;exact fun c p=>d5 (J c p)
      |eS l=>simp only[SV.lt,bY]at J⊢;exact fun x f c p=>d5 (J x f c p)
     ·show if aU C'.ρ c=true then _ else _
      rw[d9];split
      ·rename_i A;rw[if_pos A]at q4;exact SV.DY q4 J h3 shrink
      ·rename_i A;rw[if_neg A]at q4;exact q4
  ·cases I
 ·cases I
def E9{h:Head}{es:List E}{ρ0:Nat->D}(l:gG n w0 S0 C G σ a w)(g:HR n h)(f:Ev n h σ=some es)(c: ∀i,i<h.v0->ρ0 i=C.ρ i)(d: ∀i b,S0.pK i=some b->i<h.v0):
  es.length=h.size∧(∀(j:Nat) x e,h.iM[j]? =some x->es[j]? =some e->Has (lI x.2.1 x.2.2) (den C.ρ e))∧
  ∃k,gG n w0 S0 ⟨fZ ρ0 h.v0 (es.map (den C.ρ)),h.v0+h.size,fun i=>i<h.v0+h.size⟩ k h.st a w:=by obtain⟨p,o,k,_,m⟩:=Lc l g f c d;exact⟨p,o,k,m⟩
end
def E.vJ{n m:Nat}(h:n<=m): ∀{e:E},e.lt n=true->e.lt m=true:=by
 intro e
 induction e with
 |var i=>intro d;simp only[E.lt,bk]at d⊢;omega
 |aR|eO|Bf|gI|nil=>intro _;rfl
 |cons a b po pn=>intro d;simp only[E.lt,aS]at d⊢;exact⟨po d.1,pn d.2⟩
 |un o e ih=>intro d;exact ih d
 |bin o a b po pn=>intro d;simp only[E.lt,aS]at d⊢;exact⟨po d.1,pn d.2⟩
 |ite c a b JW po pn=>intro d;simp only[E.lt,aS]at d⊢;exact⟨⟨JW d.1.1,po d.1.2⟩,pn d.2⟩
def DT{ρ b:Nat->D}{n:Nat}(h: ∀i,i<n->b i=ρ i){c:dB}(e:(c.all fun x=>x.1.lt n)=true):aU b c=aU ρ c:=by
 unfold aU;rw[bY]at e;rw[du,bY,bY];constructor
 ·intro H x d;rw[<-dO h (e x d)];exact H x d
 ·intro H x d;rw[dO h (e x d)];exact H x d
structure Ej where
 k:Nat
 g:Tag
 e:E
 T:Tba
 dst:Tak
 unit:Bool
def Sx(n:Nat):Tak->Bool
 |some d=>decide (d<n)
 |none=>true
def UK(P:Tap)(cs:mG)(n:Nat)(σ:St)(o:Tbc):Tao Ej:=
 match o.guard,o.op with
 |none,.call {callee:=.value f,args,argTypes}=>
  match fP P σ [] f 0,args.toList with
  |some (.one (.gz _ (.fn k .nil))),[x] =>
   match lk cs.l k,fP P σ [] x (argTypes.getD 0 0) with
   |some sig,some (.one (.own g _ _))=>
    match sig.ob,σ.live g with
    |some ob,some (e,T,t)=>
     if ob.wy=true∧t= .int .i64∧Sx n o.dst=true then some ⟨k,g,e,T,o.dst,sig.res.isEmpty⟩ else none
    |_,_=>none
   |_,_=>none
  |_,_=>none
 |_,_=>none
def OF(P:Tap)(cs:mG)(σ:St)(o:Tbc):Bool:=
 match o.op with
 |.call {callee:=.value f,.. }=>match fP P σ [] f 0 with
  |some (.one (.gz _ (.fn k .nil)))=>match lk cs.l k with
   |some sig=>match sig.ob with
    |some ob=>ob.wy
    |none=>false
   |none=>false
  |_=>false
 |_=>false
def Mk(P:Tap)(cs:mG)(σ:St)(ops:Tad)(b:Bool):Tak:=
 if b||cs.fr !=0 then none else(List.range ops.size).find? fun i=>match ops[i]? with
  |some o=>OF P cs σ o
  |none=>false
def Ot{P:Tap}{cs:mG}{σ:St}{ops:Tad}{b:Bool}{c:Nat}(h:Mk P cs σ ops b=some c):b=false∧cs.fr=0∧c<ops.size:=by
 unfold Mk at h;split at h
 ·cases h
 ·rename_i d;simp only[dt,not_or,Bool.not_eq_true,bne_iff_ne,ne_eq,Decidable.not_not]at d;exact⟨d.1,d.2,by simpa using List.mem_of_find?_eq_some h⟩
def WE:SC->Bool
 |.gz _ (.int _)=>true
 |.gz _ .bool=>true
 |_=>false
def Sq(x:Ej)(p:Nat)(tm:Nat->Tao (dB×SV))(t:Nat):Tao (dB×SV):=
 if x.dst=some t then(if x.unit then none else some ([],.one (.own (p,0) (.var p) (.int .i64))))
 else match tm t with
  |some (c,.one s)=>if WE s then some (c,.one s) else match s with
    |.own g' _ _=>if g'=x.g∧x.unit=true∧c=[] then some ([],.one (.own (p,0) (.var p) (.int .i64))) else none
    |_=>none
  |_=>none
def Ej.after(x:Ej)(σ:St)(p:Nat):St:=
 ⟨Sq x p σ.tm,fun _=>none,fun y=>if y=(p,0) then some (.var p,x.T,.int .i64) else none⟩
def rS{l:Taf}(h: ∀x∈l,Has (.int .i64) x): ∃b:List Int,l=b.map (D.int .i64):=by
 induction l with
 |nil=>exact⟨[],rfl⟩
 |cons d l ih=>
  obtain⟨b,rfl⟩:=ih fun x c=>h x (aH _ c);obtain⟨n,rfl,_⟩:=dr.1 (h d (bw ..));exact⟨n::b,rfl⟩
def Lt{w w':Tam}{b o:Nat}(h:w'.heap[b]? =w.heap[b]?):w'.cell? ⟨b,o,none⟩=w.cell? ⟨b,o,none⟩:=by simp only[World.cell?,h]
def NT{w:Tam}{base:Nat}{T:Tba}{v:Tan}{m:Nat}{xs:Tac}(h:w.ownsRow base T 1 v m xs){b:Nat}(c:v.ownBlock=some b):b<w.heap.size:=by
 rcases h.2 with⟨rfl,_⟩|⟨g,cap,cur,rfl,_,hg,_⟩
 ·cases c
 ·simp only[Value.ownBlock,aa]at c;subst c;exact(aL.1 hg).1
section
variable{P:Tap}{w w0:Tam}{S0:gJ}{ρ:Nat->D}{p:Nat}{G:Gh}{σ:St}{a:Act}{n:Nat}
def jc.ints{C:Cx}{g:Tag}{e:E}{T:Tba}(h:jc C w 0 G g e T (.int .i64)): ∃b:List Int,den C.ρ e= .list (b.map (D.int .i64))∧w.ownsRow 0 T 1 (G.τ g) b.length (b.map (Value.int .i64)):=by
 obtain⟨xs,l,m,d,_,s⟩:=h.own;have q:=h.has;rw[m]at q;obtain⟨_,f,_,t⟩:=bL.1 q;injection f with f;subst f;obtain⟨b,rfl⟩:=rS t;refine⟨b,m,?_⟩
 have u:xs=b.map (Value.int .i64):=by
  apply fc;intro i
  have k:xs.length=b.length:=by have h:xs.length=(b.map (D.int .i64)).length*1:=d.1;rw[ak,bG]at h;exact h
  by_cases o:i<b.length
  ·have j:xs[i]? =some xs[i] :=aQ (by omega);have r:(b.map (D.int .i64))[i]? =some (.int .i64 b[i]):=by simp[o]
   have:=s i _ 0 xs[i] (.int .i64 b[i]) r rfl (by show xs[i*1+0]? =_;rw[bG,dM];exact j);rw[j,this.cn];simp[o]
  ·rw[eJ (by omega),eJ (by simp;omega)]
 have c:w.ownsRow 0 T 1 (G.τ g) (b.map (D.int .i64)).length xs:=d;rw[ak]at c;rw[<-u];exact c
def gG.Wy{x:Ej}{u v':Tan}{ys:List Int}{w':Tam}(l:gG n w0 S0 ⟨ρ,p,fun i=>i<p⟩ G σ a w)(a8: ∀b o,S0.jw b o-> ¬ji w0 S0 b)(hg: ∃e,σ.live x.g=some (e,x.T,.int .i64))(a9: ∀d,x.dst=some d->d<n)(b7: ¬S0.fr)(b6: ¬S0.wz)(hh:Has (.list (.int .i64)) (.list (ys.map (D.int .i64))))(H:TQ w x.T (G.τ x.g) x.unit ys u v' w'):
  ∃G',gG n w0 S0 ⟨fD ρ p (.list (ys.map (D.int .i64))),p+1,fun i=>i<p+1⟩ G' (x.after σ p) (a.put x.dst u) w':=by
 obtain⟨e,hg⟩:=hg;have N: ∀b,v'.ownBlock=some b->ji w0 S0 b:=fun b B=>l.m.gh x.g _ b hg (by rw[<-H.F3];exact B);have M: ∀b,(G.τ x.g).ownBlock=some b->ji w0 S0 b:=fun b B=>l.m.gh x.g _ b hg B;have Z: ∀b o,S0.jw b o->w'.heap[b]? =w.heap[b]? :=fun b o B=>H.below.block b (l.m.dF b o (l.m.jA b o B)) (fun h=>a8 b o B (M b h));have b1: ∀i,i<p->(fD ρ p (.list (ys.map (D.int .i64)))) i=ρ i:=fun i hi=>fo _ _ (by omega);have W:den (fD ρ p (.list (ys.map (D.int .i64)))) (.var p)= .list (ys.map (D.int .i64)):=dX _ _ _
 have a3: ∀(S:bz),(∀b,v'.ownBlock=some b-> ∀o,o<ys.length->S b o)->ca w' S v' (.list (ys.map (D.int .i64))):=by
  intro S hS;rcases H.own.2 with⟨rfl,h0⟩|⟨gb,cap,cur,rfl,_,hgb,hle,_,T7,Pd⟩
  ·have:ys=[] :=an h0;subst this;exact .nil none 0
  ·cases hys:ys with
   |nil=>exact .nil _ _
   |cons y0 yr=>
    rw[<-hys];have a7:(ys.map (D.int .i64)).length=ys.length:=by simp
    have:=ca.list (w:=w') (S:=S) gb 0 cap 1 (ys.map (Value.int .i64)) (ys.map (D.int .i64)) (by omega) (by rw[hys];simp) (by simpa using hle) (by simp)
     (fun i hi=>by rw[ao];exact hS gb rfl i (by simpa using hi))
     (fun i v hi=>by
      rw[cell_of_row w' gb (0+i) cur x.T (0,0) hgb,ao];have O:(cur.toList.take (ys.length*1))[i]? =some v:=by rw[Pd];exact hi
      rw[ay]at O;split at O
      ·simpa using O
      ·cases O)
     (fun i d I=>by simp only[ab,cU]at I;obtain⟨z,_,rfl⟩:=I;rfl)
     (fun i d j v c I J V=>by
      simp only[ab,cU]at I;obtain⟨z,hz,rfl⟩:=I;cases j with
      |succ j=>simp[D.cells]at J
      |zero=>
       simp only[D.cells,dk,aa]at J;subst J;rw[bG,dM,ab,hz]at V;simp only[aP,aa]at V;subst V;exact .int _ _)
    rwa [a7]at this
 let S':bz:=fun b o=>S0.jw b o∨(v'.ownBlock=some b∧o<ys.length)
 have b2: ∀b,v'.ownBlock=some b-> ∀o,S' b o↔o<ys.length:=fun b B o=>
  ⟨fun h=>h.elim (fun h=>absurd (N b B) (a8 b o h)) (fun h=>h.2),fun h=>.inr ⟨B,h⟩⟩
 have X:=a3 S' (fun b B o h=>(b2 b B o).2 h);let G':Gh:=⟨S',G.β,fun y=>if y=(p,0) then v' else G.τ y⟩;have Q:G'.τ (p,0)=v':=if_pos rfl;have hM:(fun i=>i<p+1) p:=cY p;have F:(E.var p).lt (p+1)=true:=by simp[E.lt]
 have a4:jc ⟨fD ρ p (.list (ys.map (D.int .i64))),p+1,fun i=>i<p+1⟩ w' 0 G' (p,0) (.var p) x.T (.int .i64):=by
  refine⟨hM,F,by rw[W];exact hh,ys.map (Value.int .i64),ys.map (D.int .i64),W,?_,?_,?_⟩
  ·rw[Q,ak];exact H.own
  ·intro b B o;rw[Q]at B;rw[ak];exact(b2 b B o).trans ⟨fun h=>⟨rfl,h⟩,And.right⟩
  ·intro i d j v c I J V;simp only[ab,cU]at I;obtain⟨z,hz,rfl⟩:=I;cases j with
   |succ j=>simp[D.cells]at J
   |zero=>
    simp only[D.cells,dk,aa]at J;subst J;have e1:(Ty.int .i64).cells.length=1:=rfl;rw[e1,bG,dM,ab,hz]at V;simp only[aP,aa]at V;subst V;exact .int _ _
 have q: ∀y z,(x.after σ p).live y=some z->y=(p,0)∧z=(.var p,x.T,.int .i64):=by
  intro y z f;simp only[Ej.after]at f;split at f
  ·rename_i h;injection f with f;exact⟨h,f.symm⟩
  ·cases f
 have a2:qG ⟨fD ρ p (.list (ys.map (D.int .i64))),p+1,fun i=>i<p+1⟩ w' G' (.own (p,0) (.var p) (.int .i64)) v':=
  ⟨hM,F,by rw[W];exact X,by rw[W];exact hh,Q.symm⟩
 refine⟨G',⟨⟨?_,fun b o h=>.inl h,?_,?_,l.m.kT,?_,?_,?_,?_,?_,?_,?_,?_,?_,fun h=>absurd h b7,fun h=>absurd h b6⟩,?_,by rw[Act.zB];exact l.sz,by rw[Act.Jq];exact l.defers⟩⟩
 ·refine⟨H.below.os.trans l.m.below.os,H.below.tape.trans l.m.below.tape,H.below.output.trans l.m.below.output,aW l.m.below.size H.below.size,fun k hk a5=> ?_⟩;rw[H.below.block k (av hk l.m.below.size) (fun h=>(M k h).elim (fun h=>absurd hk (Nat.not_lt.2 h)) a5),l.m.below.block k hk a5]
 ·intro b o h;rw[Lt (Z b o h)];exact l.m.keep b o h
 ·intro i b hi;obtain⟨O,R⟩:=l.m.pK i b hi;exact⟨Nat.lt_succ_of_lt O,R⟩
 ·rintro b o (h|⟨h,_⟩)
  ·exact av (l.m.dF b o (l.m.jA b o h)) H.below.size
  ·exact NT H.own h
 ·rintro b o (h|⟨h,_⟩)
  ·exact .inl h
  ·exact .inr (N b h)
 ·intro id y f;cases f
 ·intro id ro cs f;cases f
 ·intro i j y z f;cases f
 ·intro g' e' T' t' f;obtain⟨rfl,R⟩:=q _ _ f;simp only[ae]at R;obtain⟨rfl,rfl,rfl⟩:=R;exact a4
 ·intro g' z b f B;obtain⟨rfl,_⟩:=q _ _ f;rw[Q]at B;exact N b B
 ·intro g1 g2 y z b O R _ _;rw[(q _ _ O).1,(q _ _ R).1]
 ·intro g' id y z b _ f;cases f
 ·intro t c s r;simp only[Ej.after,Sq]at r;split at r
  ·rename_i I;split at r
   ·cases r
   ·rename_i hu;simp only[aa,ae]at r;obtain⟨rfl,rfl⟩:=r;have A:=H.res;rw[if_neg hu]at A;subst A;have b9:t<a.tmps.size:=by rw[l.sz];exact a9 t I
    refine⟨u,by rw[I];simp[Act.put,b9],by simp,F,?_⟩;have:aU (fD ρ p (.list (ys.map (D.int .i64)))) ([] :dB)=true:=rfl;rw[if_pos this];exact a2
  ·rename_i I
   have U: ∀v,a.tmps[t]? =some v->(a.put x.dst u).tmps[t]? =some v:=by
    intro v W;unfold Act.put;cases Xf:x.dst with
    |none=>exact W
    |some d=>
     have b8:d≠t:=fun h=>I (by rw[Xf,h]);simp only;rw[Array.getElem?_setIfInBounds_ne b8];exact W
   split at r
   ·rename_i c' s' b4;obtain⟨v,O,R,h0,h3⟩:=l.t t c' _ b4;have a6: ∀y∈c',y.1.lt (p+1)=true:=fun y f=>E.vJ (Nat.le_succ p) (R y f);have c0:aU (fD ρ p (.list (ys.map (D.int .i64)))) c'=aU ρ c':=DT b1 (bY.2 R);split at r
    ·rename_i L;simp only[aa,ae]at r;obtain⟨rfl,rfl⟩:=r
     obtain⟨e',k',b5⟩: ∃(e':E) (ty:Ty),s'= .gz e' ty∧((∃k,ty= .int k)∨ty= .bool):=by
      cases s' with
      |gz e' ty=>
       cases ty with
       |int k=>exact⟨e',_,rfl,.inl ⟨k,rfl⟩⟩
       |bool=>exact⟨e',_,rfl,.inr rfl⟩
       |_=>cases L
      |_=>cases L
     obtain⟨rfl,b3⟩:=b5;have a0:e'.lt p=true:=h0;refine⟨v,U v O,a6,E.vJ (Nat.le_succ p) a0,?_⟩;rw[c0];have C:if aU ρ c'=true then wu ⟨ρ,p,fun i=>i<p⟩ w G (.one (.gz e' k')) v else v=undef:=h3
     split
     ·rename_i J;rw[if_pos J]at C;obtain⟨_,q2,q3⟩:=C;have b0:den (fD ρ p (.list (ys.map (D.int .i64)))) e'=den ρ e':=dO b1 a0;refine⟨E.vJ (Nat.le_succ p) a0,?_,by rw[b0];exact q3⟩;rw[b0];rcases b3 with⟨k,rfl⟩|rfl
      ·obtain⟨m,hm,_⟩:=dr.1 q3;have K:ca w G.S v (den ρ e'):=q2;have Y:den ρ e'= .int k m:=hm;rw[Y]at K⊢;rw[K.cn];exact .int _ _
      ·obtain⟨m,hm⟩:=dh.1 q3;have K:ca w G.S v (den ρ e'):=q2;have Y:den ρ e'= .bool m:=hm;rw[Y]at K⊢;rw[K.gS];exact .bool _
     ·rename_i J;rw[if_neg J]at C;exact C
    ·split at r
     ·rename_i g' _ _;split at r
      ·rename_i J;obtain⟨rfl,hu,rfl⟩:=J;simp only[aa,ae]at r;obtain⟨rfl,rfl⟩:=r;have A:=H.res;rw[if_pos hu]at A;subst A;have:aU ρ ([] :dB)=true:=rfl;have C:=h3;rw[if_pos this]at C;obtain⟨_,_,_,_,a1⟩:=C;refine⟨v,U v O,by simp,F,?_⟩;have:aU (fD ρ p (.list (ys.map (D.int .i64)))) ([] :dB)=true:=rfl;rw[if_pos this,a1];exact a2
      ·cases r
     ·cases r
   ·cases r
def PU{cs:mG}{Φ:Taa}{Pre:eN}{ops:Tad}{o:Tbc}{x:Ej}(h:UK P cs n σ o=some x)(O: ∀k c,lk cs.l k=some c->bj P k c (Pre k) (Φ k))(V:gG n w0 S0 ⟨ρ,p,fun i=>i<p⟩ G σ a w)(I:Pre x.k [den ρ x.e])(Y: ∀k c E,lk cs.l k=some c->c.ob=some E->E.wy=true-> ∀b o,S0.jw b o-> ¬ji w0 S0 b)(a1: ¬S0.fr)(a0: ¬S0.wz):
  ∀(next:Act->Tae) (Q:HP),(∀a' U G',gG n w0 S0 ⟨fD ρ p (Φ x.k [den ρ x.e]),p+1,fun i=>i<p+1⟩ G' (x.after σ p) a' U->next a' U)->Region.wanted o (yielded ops a.tmps)=true∧o.wp P a w next Q:=by
 intro next Q hQ
 unfold UK at h;split at h
 ·rename_i f R C a2 Z;split at h
  ·rename_i fe k y hf B;split at h
   ·rename_i c g _ _ hk hy;split at h
    ·rename_i E e T t J L;split at h
     ·rename_i hc;obtain⟨r,rfl,v⟩:=hc;injection h with h;subst h;have a4:=Y k c E hk J r;have s:=V.m.own g e T (.int .i64) L;obtain⟨S,hz,H⟩:=s.ints;have j:=O k c hk
      have a3:a.eval f= .func (.func k) #[] #[] :=by obtain⟨_,h2,h3⟩:=cC V.t (pc:=[]) rfl hf;obtain⟨l,hl,K⟩:=kH.1 h3;rw[dg.1 K]at hl;rw[hl]at h2;obtain⟨cv,a6,M,_⟩:=h2.ug;rw[a6,an M]
      have W:a.eval y=G.τ g:=(cC V.t (pc:=[]) rfl hy).2.2.2.2
      have q:R.map a.eval= #[G.τ g] :=by apply cW;rw[Array.toList_map,B];simp[W]
      have F:(execOp a.eval o).run P w= .ok (.enter k #[G.τ g]) w:=by unfold execOp;simp only[Z,resolve,a3,Deferred.ofValue,q];have:=j.enter #[G.τ g] w;simpa [invoke]using this
      refine⟨by unfold Region.wanted;rw[a2],?_⟩;unfold Oper.wp;rw[F];have z:den ρ e= .list (S.map (D.int .i64)):=hz;have N:Has (.list (.int .i64)) (.list (S.map (D.int .i64))):=by rw[<-z];exact s.has
      have A:Pre k [.list (S.map (D.int .i64))] :=by rw[<-z];exact I
      refine(j.GA E J r w T (G.τ g) S H N A).mono ?_;rintro e' U ⟨u,v',ys,rfl,hΦ,hh,tV⟩;simp only
      obtain⟨G',X⟩:=gG.Wy (x:=⟨k,g,e,T,o.dst,c.res.isEmpty⟩) V a4 ⟨e,L⟩ (fun d hd=>by have a5:o.dst=some d:=hd;rw[a5]at v;simpa [Sx]using v) a1 a0 hh tV
      refine hQ _ U G' ?_;rw[z,hΦ];exact X
     ·cases h
    ·cases h
   ·cases h
  ·cases h
 ·cases h
end
structure Dp(P:Tap)(f:Nat)(params:Tal)(res:Ty)(Pre:Taf->Prop)(Φ:Taf->D):Prop where
 enter: ∀(args:Tbd Tan) (w:Tam),(callFunc f args).run P w= .ok (.enter f args) w
 calls: ∀(w:Tam) (S:bz) (vs:Tac) (ds:Taf),(∀b o,S b o->b<w.heap.size)->vs.length=ds.length->(∀(i:Nat) v d,vs[i]? =some v->ds[i]? =some d->ca w S v d)->
  dn (.V params) ds->Pre ds->
  Calls P f vs.toArray w fun e w'=> ∃v F,e= .returned v∧Below w.heap.size w w'∧(∀b o,F b o->w.heap.size<=b∧b<w'.heap.size∧ ∃cur T,w'.heap[b]? =some (.cells cur T (0,0)))∧ca w' F v (Φ ds)∧Has res (Φ ds)
structure HQ(P:Tap)(f:Nat)(params:Tal)(res:Ty):Prop where
 enter: ∀(args:Tbd Tan) (w:Tam),(callFunc f args).run P w= .ok (.enter f args) w
 calls: ∀(w:Tam) (S:bz) (vs:Tac) (ds:Taf),(∀b o,S b o->b<w.heap.size∧ ∃cur T,w.heap[b]? =some (.cells cur T (0,0)))->vs.length=ds.length->(∀(i:Nat) v d,vs[i]? =some v->ds[i]? =some d->ca w S v d)->
  dn (.V params) ds->
  Calls P f vs.toArray w fun e w'=> ∃v S' d,e= .returned v∧gp (fun b=> ∃o,S b o) w w'∧(∀b o,S' b o->(∃o',S b o')∨w.heap.size<=b)∧
   (∀b o,S' b o->b<w'.heap.size∧ ∃cur T,w'.heap[b]? =some (.cells cur T (0,0)))∧ca w' S' v d∧Has res d
abbrev PG:=List (Nat×(Tal×Ty))
section
variable{P:Tap}{w w0:Tam}{S0:gJ}{ρ:Nat->D}{p:Nat}{G:Gh}{σ:St}{a:Act}{n:Nat}
def HS{ops:Tad}{o:Tbc}{i:Nat}{b:Tah}{Q:HP}(c:ops[i]? =some o)(d:o.guard=none)(h:o.wp P a w (wpOps P ops Q b) Q):wpOps P ops Q (i::b) a w:=by simp only[wpOps,c];rw[if_pos (by unfold Region.wanted;rw[d])];exact .inl h
end
def ur:Tbb->Bool
 |.const (.slice none 0 0)=>true
 |_=>false
def UZ(P:Tap)(n q:Nat)(σ:St)(o:Tbc):Tao (Nat×E):=
 match o.dst,o.guard,o.op with
 |some t,none,.binOp .eql T x y _=>
  if ur y=true∧t<n then
   match fp P σ [] x T,P.underlying T with
   |some (e,.list _),some (.slice _)=>if e.lt q then some (t,e) else none
   |_,_=>none
  else none
 |_,_,_=>none
def Eb(σ:St)(t:Nat)(c:SC):St:=⟨fD σ.tm t (some ([],.one c)),σ.hp,σ.live⟩
section
variable{P:Tap}{w w0:Tam}{S0:gJ}{ρ:Nat->D}{p:Nat}{G:Gh}{σ:St}{a:Act}{n:Nat}
def wm{t el:Tba}(b:P.underlying t=some (.slice el))(p:Tao Addr)(m c d:Nat):(Op.equalIn (d+1) t (.slice p m c) (.slice none 0 0)).run P w= .ok p.isNone w:=by cases p<;>simp[Op.equalIn,run_underlying b]
def Dx{t el:Tba}(b:P.underlying t=some (.slice el))(p:Tao Addr)(m c:Nat)(x y:Tbb):
  (do eqGuard .eql t x y (.slice p m c) (.slice none 0 0);binOp .eql t (.slice p m c) (.slice none 0 0):Sem Tan).run P w= .ok (.bool p.isNone) w:=by have e:binOp .eql t (.slice p m c) (.slice none 0 0)=(do pure (.bool (<-Op.equalIn (9999+1) t (.slice p m c) (.slice none 0 0)))):=rfl;have d:eqGuard .eql t x y (.slice p m c) (.slice none 0 0)=pure ():=rfl;rw[e,d,bg,Sem.run_pure,bV,bg,wm b];rfl
def Om{w:Tam}{S:bz}{m c:Nat}{l:Taf}(h:ca w S (.slice none m c) (.list l)):l.length=0:=by
 generalize e:Value.slice none m c=v at h;generalize b:D.list l=d at h
 cases h<;>first
  |(cases b;done)
  |(injection b with b;subst b;rfl)
  |cases e
def gG.NK(j:gG n w0 S0 ⟨ρ,p,fun i=>i<p⟩ G σ a w)(d:D){t:Nat}(B:t<n){v:Tan}{c:SC}(C:c.lt (p+1)=true)(F:qG ⟨fD ρ p d,p+1,fun i=>i<p+1⟩ w G c v):
  gG n w0 S0 ⟨fD ρ p d,p+1,fun i=>i<p+1⟩ G (Eb σ t c) (a.put (some t) v) w:=by
 have k: ∀i,i<p->fD ρ p d i=ρ i:=fun i o=>fo _ _ (by omega)
 have g:dL ⟨ρ,p,fun i=>i<p⟩ w G ⟨fD ρ p d,p+1,fun i=>i<p+1⟩ w G:=
  ⟨fun e q=>⟨dO k q,E.vJ (Nat.le_succ p) q⟩,fun i o=>Nat.lt_succ_of_lt o,fun _ _ h=>h,fun _ _ _=>rfl,fun _ _=>rfl,fun _ _=>rfl⟩
 have r:=j.ir g;refine⟨r.m.congr rfl rfl,?_,by rw[Act.zB];exact j.sz,j.defers⟩;intro l H s b;simp only[Eb]at b;by_cases f:l=t
 ·subst f;simp only[dX,aa,ae]at b;obtain⟨rfl,rfl⟩:=b;refine⟨v,?_,by simp,C,?_⟩
  ·have:=j.sz;simp[Act.put,this,B]
  ·simp only[aU,bQ,if_true];exact F
 ·rw[fo _ _ f]at b;obtain⟨u,A,z,y,x⟩:=r.t l H s b;refine⟨u,?_,z,y,x⟩;simp only[Act.put];rw[Array.getElem?_setIfInBounds_ne (Ne.symm f)];exact A
def Qo{ops:Tad}{c t:Nat}{o:Tbc}{e:E}(M:ops[c]? =some o)(h:UZ P n p σ o=some (t,e))(C:gG n w0 S0 ⟨ρ,p,fun i=>i<p⟩ G σ a w)(Q:HP)(d:Tah)(X:(den ρ e).A.length=0-> ∀b:Bool,∀s,gG n w0 S0 ⟨fD ρ p (.bool b),p+1,fun i=>i<p+1⟩ G (Eb σ t (.gz (.var p) .bool)) s w->wpOps P ops Q d s w)(W:(den ρ e).A.length≠0-> ∀s,gG n w0 S0 ⟨fD ρ p (.bool false),p+1,fun i=>i<p+1⟩ G (Eb σ t (.gz (.eO false) .bool)) s w->wpOps P ops Q d s w):
  wpOps P ops Q (c::d) a w:=by
 unfold UZ at h;split at h
 ·rename_i t0 T x y Z U O D;split at h
  ·rename_i f;obtain⟨f,q⟩:=f
   have z:y= .const (.slice none 0 0):=by
    unfold ur at f;split at f
    ·rfl
    ·cases f
   subst z;split at h
   ·rename_i Y u el K L;split at h
    ·obtain⟨rfl,rfl⟩:=iD h;obtain⟨x1,J,I⟩:=dR C.t (pc:=[]) rfl K;obtain⟨l,N,_⟩:=bL.1 I;have j:den ρ Y= .list l:=N;have g:ca w G.S (a.eval x) (.list l):=by rw[<-j];exact J
     obtain⟨A,H,B⟩:=g.pA
     have r:(execOp a.eval o).run P w= .ok (.value (.bool A.isNone)) w:=by
      have m:(execOp a.eval o)=(do let v<-(do eqGuard .eql T x (.const (.slice none 0 0)) (a.eval x) (a.eval (.const (.slice none 0 0)));binOp .eql T (a.eval x) (a.eval (.const (.slice none 0 0))):Sem Tan);pure (.value v)):=by unfold execOp;simp only[D]
      have R:a.eval (.const (.slice none 0 0))= .slice none 0 0:=rfl;have V:=Dx (P:=P) (w:=w) L A l.length H x (.const (.slice none 0 0));rw[m,R,B,bg,V];rfl
     refine HS M O ?_;rw[Oper.wp,r];show wpOps P ops Q d (a.put o.dst (.bool A.isNone)) w;rw[U];by_cases k:l.length=0
     ·refine X (by rw[j];exact k) A.isNone _ (C.NK _ q (by simp[SC.lt,E.lt]) ⟨by simp[E.lt],?_,?_⟩)
      ·show ca w G.S _ (fD ρ p (.bool A.isNone) p);rw[dX];exact .bool _
      ·show Has .bool (fD ρ p (.bool A.isNone) p);rw[dX];exact dh.2 ⟨_,rfl⟩
     ·have F:A.isNone=false:=by
       cases F:A with
       |some _=>rfl
       |none=>
        exfalso;rw[F]at B;rw[B]at g;exact k (Om g)
      rw[F];exact W (by rw[j];exact k) _ (C.NK _ q (by simp[SC.lt,E.lt]) ⟨by simp[E.lt],.bool _,dh.2 ⟨_,rfl⟩⟩)
    ·cases h
   ·cases h
  ·cases h
 ·cases h
end
def WP(ro:Tak)(P:Tap)(c:Code)(Q:HP)(a:Act)(w:Tam):Prop:=
 match ro with
 |none=>c.wp P Q a w
 |some l=>c.wpIn (Fence.wide.inRound l) 0 P Q a w
def ss:Op->Bool
 |.defer _=>true
 |_=>false
def gn:Code->Bool
 |.region _ ops _=>ops.toList.all fun o=> !ss o.op
 |.seq a b=>gn a&&gn b
 |.cond _ a b=>gn a&&gn b
 |.block _ c| .loop c=>gn c
 |.skip| .label _| .exit _| .ret=>true
 |_=>false
section
variable{P:Tap}{ro:Tak}{Q:HP}{a:Act}{w:Tam}
def Ag{l n:Nat}(h:(Fence.wide.inRound l).depth.isSome=true):1<=n:=by simp[Fence.wide]at h
def Ki{o:Tbc}{l:Nat}{next:Act->Tae}{r:Result Next}(h:o.upon P a next Q r):o.uponIn (Fence.wide.inRound l) 0 P a next Q r:=by
 cases r with
 |ok x w'=>
  cases x<;>simp only[Oper.upon,Oper.uponIn]at h⊢ <;>first
   |exact h
   |exact⟨Ag,CallsIn.inRound l (callsIn_wide.2 h)⟩
   |exact⟨Ag,fun c e _=>let ⟨v,b,d,s⟩:=h c e;⟨v,b,d,stepsIn_wide.2 s⟩⟩
 |halt x w'=>cases x<;>simp only[Oper.upon,Oper.uponIn]at h⊢ <;>exact h
def Ju{o:Tbc}{l:Nat}{next:Act->Tae}(b:ss o.op=false)(h:o.wp P a w next Q):o.wpIn (Fence.wide.inRound l) 0 P a w next Q:=by refine⟨fun _ _=>trivial,?_⟩;rw[Oper.semAt_eq _ _ _ (fun c d=>by rw[d]at b;cases b)];exact Ki h
def vD{ops:Tad}{l:Nat}(c:(ops.toList.all fun o=> !ss o.op)=true)(b: ∀a w,¬Q .outgrown a w): ∀(is:Tah) (a:Act) (w:Tam),wpOps P ops Q is a w->wpOpsIn (Fence.wide.inRound l) 0 P ops Q is a w
 | [],a,w,h=>h
 |i::is,a,w,h=>by
  simp only[wpOps,wpOpsIn]at h⊢;cases ho:ops[i]? with
  |none=>simp only[ho]at h;exact vD c b is a w h
  |some o=>
   simp only[ho]at h⊢
   have e:ss o.op=false:=by have:=bY.1 c o (by simpa using Array.mem_of_getElem? ho);simpa using this
   split
   ·rename_i d;rw[if_pos d]at h;rcases h with h|⟨_,j,g,h⟩
    ·have f:o.wp P a w (wpOpsIn (Fence.wide.inRound l) 0 P ops Q is) Q:=Oper.wp_mono (fun a w h=>vD c b is a w h) h;exact Ju e f
    ·exact absurd h (b _ _)
   ·rename_i d;rw[if_neg d]at h;exact⟨fun _ _=>trivial,vD c b is _ _ h⟩
def vO{ops:Tad}{l:Nat}{j:Region.Mode}(f:(ops.toList.all fun o=> !ss o.op)=true)(d: ∀a w,¬Q .outgrown a w): ∀(b:Nat) (c:Tbd Bool) (a:Act) (w:Tam),wpAny P j ops Q b c a w->wpAnyIn (Fence.wide.inRound l) 0 P j ops Q b c a w
 |0,_,_,_,h=>h
 |b+1,c,a,w,h=>by
  refine⟨h.1,fun i k=> ?_⟩;have e:=h.2 i k;unfold wpOp at e;unfold wpOpIn;cases ho:ops[i]? with
  |none=>simp only[ho]at e⊢;exact vO f d b _ _ _ e
  |some o=>
   simp only[ho]at e⊢
   have m:ss o.op=false:=by have:=bY.1 f o (by simpa using Array.mem_of_getElem? ho);simpa using this
   split
   ·rename_i g;rw[if_pos g]at e;rcases e with e|⟨_,p,n,e⟩
    ·exact Ju m (Oper.wp_mono (fun a w h=>vO f d b _ a w h) e)
    ·exact absurd e (d _ _)
   ·rename_i g;rw[if_neg g]at e;exact⟨fun _ _=>trivial,vO f d b _ _ _ e⟩
def Ke(ro:Tak)(c:Code)(Q:HP):Prop:=ro.isSome=true->gn c=true∧ ∀a w,¬Q .outgrown a w
def WP.skip(h:Q .normal a w):WP ro P .skip Q a w:=by
 cases ro with
 |none=>exact wp_skip h
 |some l=>exact wpIn_skip h
def WP.label{l:Nat}(h:Q .normal a w):WP ro P (.label l) Q a w:=by
 cases ro with
 |none=>exact wp_label h
 |some l=>exact wpIn_label h
def WP.exit{i:Nat}(h:Q (.exit i) a w):WP ro P (.exit i) Q a w:=by
 cases ro with
 |none=>exact wp_exit h
 |some l=>exact wpIn_exit h
def WP.ret(h:Q .ret a w):WP ro P .ret Q a w:=by
 cases ro with
 |none=>exact wp_ret h
 |some l=>exact wpIn_ret h
def WP.seq{x y:Code}(h:WP ro P x (Exit.then (WP ro P y Q) Q) a w):WP ro P (.seq x y) Q a w:=by
 cases ro with
 |none=>exact wp_seq h
 |some l=>exact wpIn_seq h
def WP.cond{c:Tbb}{x y:Code}{t:Bool}(b:a.eval c= .bool t)(h:WP ro P (if t then x else y) Q a w):WP ro P (.cond c x y) Q a w:=by
 cases ro with
 |none=>cases t with
  |true=>exact wp_cond_true b h
  |false=>exact wp_cond_false b h
 |some l=>exact wpIn_cond b h
def WP.block{i:Nat}{c:Code}(h:WP ro P c (Exit.inBlock i Q) a w):WP ro P (.block i c) Q a w:=by
 cases ro with
 |none=>exact wp_block h
 |some l=>exact wpIn_block h
def WP.loop{c:Code}(I:Nat->Act->Tae)(d:Nat)(h₀:I d a w)(b: ∀n a w,I n a w->WP ro P c (Exit.then (fun g f=> ∃e,e<n∧I e g f) Q) a w):WP ro P (.loop c) Q a w:=by
 cases ro with
 |none=>exact wp_loop_ghost I d h₀ b
 |some l=>exact wpIn_loop_ghost I d h₀ b
def WP.region{id:Nat}{ops:Tad}(b:Ke ro (.region id ops false) Q)(h:wpOps P ops Q (List.range ops.size) a w):WP ro P (.region id ops false) Q a w:=by
 cases ro with
 |none=>exact wp_region h
 |some l=>
  obtain⟨d,c⟩:=b rfl;exact wpIn_region (vD d c _ _ _ h)
def WP.H6{id:Nat}{ops:Tad}(c:Ke ro (.region id ops true) Q)(b:P.follows .mixedOrders=true)(h:wpAny P .any ops Q ops.size (Array.replicate ops.size false) a {w with drawn:=w.drawn+1}):WP ro P (.region id ops true) Q a w:=by
 cases ro with
 |none=>exact wp_region_any b h
 |some l=>
  obtain⟨e,d⟩:=c rfl;exact wpIn_region_any b (vO e d _ _ _ _ h)
end
section
variable{C:Cx}{w w0 w1 w':Tam}{G:Gh}{S0 S1:gJ}{σ:St}{a:Act}{n:Nat}
structure Ext(w0:Tam)(S0:gJ)(w1:Tam)(S1:gJ):Prop where
 below:gp S0.mu w0 w1
 mu: ∀b,S1.mu b->ji w0 S0 b
 jw: ∀b o,S0.jw b o->S1.jw b o
 Nf: ∀b o,S0.jw b o->w1.cell? ⟨b,o,none⟩=w0.cell? ⟨b,o,none⟩
 Nd: ∀b o,S1.jw b o->S0.jw b o∨ji w0 S0 b
 pK: ∀i b,S0.pK i=some b->S1.pK i=some b
 UI: ∀i b,S1.pK i=some b->S1.mu b->Gm w0 S0 b
 fr:S0.fr->S1.fr
 wz:S0.wz->S1.wz
 prog:S1.prog=S0.prog
def Ext.new(x:Ext w0 S0 w1 S1){b:Nat}(h:ji w1 S1 b):ji w0 S0 b:=by
 rcases h with h|h
 ·exact .inl (aW x.below.size h)
 ·exact x.mu b h
def Ext.box(x:Ext w0 S0 w1 S1){b:Nat}(h:Gm w1 S1 b):Gm w0 S0 b:=by
 rcases h with h|⟨h,i,c⟩
 ·exact .inl (aW x.below.size h)
 ·exact x.UI i b c h
def Ext.refl(w0:Tam)(S0:gJ):Ext w0 S0 w0 S0:=⟨.refl _ _,fun _ h=>.inr h,fun _ _ h=>h,fun _ _ _=>rfl,fun _ _ h=>.inl h,fun _ _ h=>h,fun i _ c b=>.inr ⟨b,i,c⟩,id,id,rfl⟩
def Ext.block(x:Ext w0 S0 w1 S1){k:Nat}(c:k<w0.heap.size)(b: ¬S0.mu k): ¬S1.mu k:=by
 intro h;rcases x.mu k h with h|h
 ·omega
 ·exact b h
def Ext.trans{d:Tam}{f:gJ}(x:Ext w0 S0 w1 S1)(y:Ext w1 S1 d f):Ext w0 S0 d f where
 below:=⟨y.below.os.trans x.below.os,y.below.tape.trans x.below.tape,y.below.output.trans x.below.output,aW x.below.size y.below.size,fun k c e=>(y.below.block k (av c x.below.size) (x.block c e)).trans (x.below.block k c e)⟩
 mu b h:=x.new (y.mu b h)
 jw b o h:=y.jw b o (x.jw b o h)
 Nf b o h:=(y.Nf b o (x.jw b o h)).trans (x.Nf b o h)
 Nd b o h:=by
  rcases y.Nd b o h with h|h
  ·exact x.Nd b o h
  ·exact .inr (x.new h)
 pK i b h:=y.pK i b (x.pK i b h)
 UI i b h1 h2:=x.box (y.UI i b h1 h2)
 fr h:=y.fr (x.fr h)
 wz h:=y.wz (x.wz h)
 prog:=y.prog.trans x.prog
end
def mark(r:Nat):Deferred:={target:=.collected r,args:= #[]}
structure Dfs(w0:Tam)(S0:gJ):Prop where
 ex: ∃ms:Tah,S0.XA=ms.map mark∧ms.Nodup∧ ∀r∈ms,w0.heap[r]? =some (.deferred (some []))∧ ¬S0.mu r
structure WX(P:Tap)(k:Nat)(fs:Tal)(et:Ty)(Pre:Taf->Prop)(Φ:Taf->D):Prop where
 enter: ∀(args:Tbd Tan) (w:Tam),(callFunc k args).run P w= .ok (.enter k args) w
 calls: ∀(w:Tam) (S:bz) (vs:Tac) (ds:Taf),(∀b o,S b o->b<w.heap.size)->vs.length=ds.length->(∀(i:Nat) v d,vs[i]? =some v->ds[i]? =some d->ca w S v d)->dn (.V fs) ds->Pre ds->
  ∀(l:Nat) (J:Nat->(Tai)->Tae) (Jx:Tae) (X0:Tai),
   (∀i X W W',J i X W->Below W.heap.size W W'->J i X W')->(∀W W',Jx W->Below W.heap.size W W'->Jx W')->(∀i X W,J i X W-> ∀b,X b->b<W.heap.size)->
   (∀i x v X W,J i X W->(Φ ds).A[i]? =some x->(∀(W':Tam) (S':bz),ca W' S' v x)->Has et x->
    YieldAt Fence.wide 0 P l #[v] W fun e W'=>
     (e= .returned (.bool true)∧(∃X',J (i+1) X' W'∧ ∀b,X' b->X b∨W.heap.size<=b)∧gp X W W'∧ ∀b o,S b o->W'.cell? ⟨b,o,none⟩=W.cell? ⟨b,o,none⟩)∨
     (e= .returned (.bool false)∧Jx W'))->
   J 0 X0 w->
   Calls P k (#[.func (.yield l) #[] #[]] ++vs.toArray) w fun e W'=>(∃v,e= .returned v)∧((∃X,J (Φ ds).A.length X W')∨Jx W')
inductive VC where
 |kq (pc:dB) (e:E) (k:VC)
 |call (p f:Nat) (args:E) (pc:dB) (k:VC)
 |room (pc:dB) (e:E) (bytes:Nat) (k:VC)
 |branch (e:E) (t f:VC)
 |loop (v0:Nat) (es:List E) (F4:Tal) (body:VC)
 |again (i:Nat) (es:List E)
 |ret (e:E)
 |any (p:Nat) (t:Ty) (k:VC)
 |Xh (p:Nat) (fs:List (E×E)) (k:VC)
 |range (v0 f:Nat) (args:E) (es:List E) (F4:Tal) (et:Ty) (body done:VC)
 |stuck (why:Nat)
def VC.holds(Φ:Taa)(Pre:eN)(R:D->Prop):VC->(Nat->D)->List (Taf->Prop)->Prop
 |.kq pc e k,ρ,kJ=>(aU ρ pc=true->(den ρ e).Y=true)∧k.holds Φ Pre R ρ kJ
 |.call p f args pc k,ρ,kJ=>(aU ρ pc=true->Pre f (den ρ args).A)∧ ∀d,d=Φ f (den ρ args).A->k.holds Φ Pre R (fD ρ p d) kJ
 |.room pc e bytes k,ρ,kJ=>(aU ρ pc=true->(den ρ e).A.length<=maxLen∧(den ρ e).A.length*bytes<=140737488355328)∧k.holds Φ Pre R ρ kJ
 |.branch e t f,ρ,kJ=>((den ρ e).Y=true->t.holds Φ Pre R ρ kJ)∧((den ρ e).Y=false->f.holds Φ Pre R ρ kJ)
 |.loop v0 es F4 body,ρ,kJ=> ∃(I:Taf->Prop) (m:Taf->Nat),I (es.map (den ρ))∧ ∀b,dn (.V F4) b->I b->body.holds Φ Pre R (fZ ρ v0 b) ((fun c=>I c∧m c<m b)::kJ)
 |.again i es,ρ,kJ=>match kJ[i]? with
  |some J=>J (es.map (den ρ))
  |none=>False
 |.ret e,ρ,_=>R (den ρ e)
 |.any p t k,ρ,kJ=> ∀d,Has t d->k.holds Φ Pre R (fD ρ p d) kJ
 |.Xh p fs k,ρ,kJ=> ∀d,(∀x∈fs,(den (fD ρ p d) x.1).A.length=(den (fD ρ p d) x.2).A.length)->k.holds Φ Pre R (fD ρ p d) kJ
 |.range v0 f args es F4 et body done,ρ,kJ=>Pre f (den ρ args).A∧ ∃I:eN,I 0 (es.map (den ρ))∧
   (∀i x b,(Φ f (den ρ args).A).A[i]? =some x->Has et x->dn (.V F4) b->I i b->body.holds Φ Pre R (fD (fZ ρ v0 b) (v0+F4.length) x) ((fun c=>I (i+1) c)::kJ))∧
   ∀b,dn (.V F4) b->I (Φ f (den ρ args).A).A.length b->done.holds Φ Pre R (fZ ρ v0 b) kJ
 |.stuck _,_,_=>False
inductive Ex where
 |normal
 |exit (i:Nat)
 |ret
def Ex.to:Ex->Exit
 |.normal=>.normal
 |.exit i=>.exit i
 |.ret=>.ret
def rk(q:Nat):Item->Bool
 |.IP _ _=>false
 |.kq pc e=>pc.all (fun x=>x.1.lt q)&&e.lt q
 |.call p _ args pc=>p==q&&args.lt q&&pc.all fun x=>x.1.lt q
 |.room pc e _=>pc.all (fun x=>x.1.lt q)&&e.lt q
def wH:Nat->List (Nat×Item)->Bool
 |_,[] =>true
 |lo,(q,it)::r=>decide (lo<=q)&&rk q it&&wH (match it with| .call .. =>q+1|_=>q) r
def sr:List (Nat×Item)->VC->VC
 | [],k=>k
 |(_,.IP _ _)::r,k=>sr r k
 |(_,.kq pc e)::r,k=>.kq pc e (sr r k)
 |(_,.call p f args pc)::r,k=>.call p f args pc (sr r k)
 |(_,.room pc e b)::r,k=>.room pc e b (sr r k)
def iX:Code->Tak
 |.region id _ _=>some id
 |.seq a b=>match iX a with|some i=>some i|none=>iX b
 |.cond _ a b=>match iX a with|some i=>some i|none=>iX b
 |.block _ c| .loop c| .scope c=>iX c
 |_=>none
def Eh(σ:St)(x:Slot×Ty×Tao nW):St:=
 match x with
 |(.tmp t,.ptr _,none)=>
  match σ.tm t with
  |some ([],.one (.pJ id 0))=>
   match σ.hp id with
   |some (_,cs)=>match gY cs with
    |some (ds,ts)=>⟨fD σ.tm t (some ([],.one (.gz (.un .pP (.V ds)) (.ptr (.V ts))))),fD σ.hp id (some (true,cs)),σ.live⟩
    |none=>σ
   |none=>σ
  |_=>σ
 |_=>σ
def Eu(l:List (Slot×Ty×Tao nW))(σ:St):St:=l.foldl Eh σ
def gG.Eh{w0:Tam}{S0:gJ}{C:Cx}{G:Gh}{σ:St}{a:Act}{w:Tam}{n:Nat}(f:gG n w0 S0 C G σ a w)(x:Slot×Ty×Tao nW): ∃B,gG n w0 S0 C B (dI.Eh σ x) a w:=by
 unfold dI.Eh;split
 ·rename_i t Z;split
  ·rename_i id Q;split
   ·rename_i X cs o;split
    ·rename_i K W g;obtain⟨B,b,R,q,O,_⟩:=f.m.freeze o (iZ g);refine⟨B,⟨R.congr rfl rfl,?_,f.sz,f.defers⟩⟩;have z:=f.t.later b;intro u c s h;by_cases k:u=t
     ·subst k;simp only[dX,aa,ae]at h;obtain⟨rfl,rfl⟩:=h;obtain⟨v,P,_,_,I⟩:=f.t u _ _ Q;obtain⟨_,_,r,_⟩:=f.m.box _ _ _ o;obtain⟨L,T,A,l⟩:=r.cells (iZ g);obtain⟨H,F,Y,N,M⟩:=lZ g l;have J:den C.ρ (.un .pP (.V K))= .ptr (K.map (den C.ρ)):=by simp only[den,fX,U.den,D.A]
      have y:v= .pointer (some ⟨G.β id,0,none⟩):=by have:aU C.ρ ([] :dB)=true:=rfl;rw[if_pos this]at I;exact I.2
      refine⟨v,P,by simp,by simpa [SV.lt,SC.lt,E.lt]using H,?_⟩;have:aU C.ρ ([] :dB)=true:=rfl;rw[if_pos this];refine⟨by simpa [E.lt]using H,?_,?_⟩
      ·rw[J,y];refine .ptr _ L _ (by simp[F]) (fun i j=>q i (by simp[F,l.1]at j;exact j)) (fun i v j=> ?_) (fun i v d j p=> ?_)
       ·rw[cell_of_row w _ i _ T _ A];simpa using j
       ·simp only[ab,cU]at p;obtain⟨e,V,rfl⟩:=p;exact(N i v e j V).keep b.S b.cell
      ·rw[J];exact kC.2 (.inr ⟨_,rfl,M⟩)
     ·simp only[fo _ _ k]at h;exact z u c s h
    ·exact⟨G,f⟩
   ·exact⟨G,f⟩
  ·exact⟨G,f⟩
 ·exact⟨G,f⟩
def gG.Eu{w0:Tam}{S0:gJ}{C:Cx}{a:Act}{w:Tam}{n:Nat}: ∀(l:List (Slot×Ty×Tao nW)) {G:Gh} {σ:St},gG n w0 S0 C G σ a w-> ∃b,gG n w0 S0 C b (dI.Eu l σ) a w
 | [],G,_,h=>⟨G,h⟩
 |x::l,_,_,h=>by obtain⟨b,c⟩:=h.Eh x;exact gG.Eu l c
structure En where
 P:Tap
 cs:mG
 n:Nat
 Bk:List (Nat×D4)
 fw:PG
 wl:PG
 TY:List (Nat×(Tal×Ty)):=[]
def Nj(σ:St)(P:Tap)(x:Tbb):Tao E:=
 match fp P σ [] x 0 with
 |some (e,.bool)=>some e
 |_=>none
def rz:dB->E
 | [] =>.eO true
 | [(e,true)] =>e
 |(e,true)::r=>.bin .and e (rz r)
 |(e,false)::r=>.bin .and (.un .not e) (rz r)
def qI(N:En)(ops:Tad)(b M:Nat)(c:List (Nat×iH)->St->VC):Tah->List (Nat×iH)->St->VC
 | [],acc,σ=>c acc σ
 |i::r,acc,σ=>
  match ops[i]? with
  |none=>.stuck 21
  |some o=>
   match wI N.P N.cs ops σ (b+i) o with
   |some e=>
    if e.qW.2.lt M&&wH (b+i) (e.items.map fun f=>(b+i,f)) then
     sr (e.items.map fun f=>(b+i,f)) (qI N ops b M c r (acc++[(i,e)]) (e.app σ))
    else .stuck (1000+i)
   |none=>
    match LV N.cs o with
    |some y=>
     match W8 N.P σ o y,kf (some true) N.P N.cs ops σ (b+i) o,kf (some false) N.P N.cs ops σ (b+i) o with
     |some x,some et,some ef=>
      if et.qW.2.lt M&&ef.qW.2.lt M&&x.args.lt (b+i) then
       .call (b+i) x.k x.args [] (.branch (JV (b+i)) (qI N ops b M c r (acc++[(i,ef)]) (ef.app σ)) (qI N ops b M c r (acc++[(i,et)]) (et.app σ)))
      else .stuck (5500+i)
     |_,_,_=>.stuck (2500+i)
    |none=>
    match guardOf ops σ o,(guardOf ops σ o).bind (fun d=>iP N.P N.cs σ d o),kf (some true) N.P N.cs ops σ (b+i) o,kf (some false) N.P N.cs ops σ (b+i) o with
    |some d,some x,some et,some ef=>
     if et.qW.2.lt M&&ef.qW.2.lt M&&(d.all fun y=>y.1.lt (b+i))&&x.args.lt (b+i) then
      .branch (rz d) (.call (b+i) x.k x.args [] (qI N ops b M c r (acc++[(i,et)]) (et.app σ))) (qI N ops b M c r (acc++[(i,ef)]) (ef.app σ))
     else .stuck (5000+i)
    |_,_,_,_=>.stuck (2000+i)
def JK(ops:Tad):Nat->Nat->Bool
 |0,_=>false
 |f+1,t=>ops.any fun o=>o.dst==some t&&match o.op with
  |.fieldAddr _ (.tmp x) _=>JK ops f x
  |.indexAddr .. =>true
  |_=>false
def PK(ops:Tad):Bool:=decide (0<ops.size)&&match ops[ops.size-1]? with
 |some o=>match o.op with
  |.store _ (.tmp x) _=>JK ops 10 x
  |_=>false
 |none=>false
def zQ(l:PG)(o:Tbc):Bool:=match o.op with
 |.call {callee:=.value (.func k),.. }=>(lk l k).isSome
 |_=>false
def abG(N:En)(ops:Tad)(b:Bool):Tak:=
 if b||N.cs.fr !=0 then none else(List.range ops.size).find? fun c=>decide (c+2<ops.size)&&match ops[c]?,ops[c+2]? with
  |some o,some o2=>zQ N.fw o&&zQ N.wl o2
  |_,_=>false
def aeN(o:Tbc):Bool:=match o.op with
 |.binOp .eql _ _ y _=>ur y
 |_=>false
def Qv(o:Tbc):Bool:=match o.op with
 |.store _ _ (.tmp _)=>true
 |_=>false
def abn(ops:Tad):Bool:=match ops[ops.size-1]? with
 |some o=>aeN o
 |none=>false
def ZB(N:En)(ops:Tad):Bool:=match ops[ops.size-2]?,ops[ops.size-1]? with
 |some o,some o2=>zQ N.wl o&&Qv o2
 |_,_=>false
def C5(N:En)(ops:Tad)(b:Bool):Tao (Nat×Bool):=
 if b then none else
 if abn ops=true∧0<ops.size then some (ops.size-1,true)
 else if ZB N ops=true∧N.cs.fr=2∧1<ops.size then some (ops.size-2,false)
 else none
def HW{N:En}{ops:Tad}{d b:Bool}{c:Nat}(h:C5 N ops d=some (c,b)):d=false∧(if b then c+1=ops.size else c+2=ops.size∧N.cs.fr=2):=by
 unfold C5 at h;split at h
 ·cases h
 ·rename_i f;refine⟨by simpa using f,?_⟩;split at h
  ·rename_i e;simp only[aa,ae]at h;obtain⟨rfl,rfl⟩:=h;simp only[if_true];omega
  ·split at h
   ·rename_i e;simp only[aa,ae]at h;obtain⟨rfl,rfl⟩:=h;simp only[ai,if_false];exact⟨by omega,e.2.1⟩
   ·cases h
def Sw(N:En)(ops:Tad):Bool:=ops.toList.all fun o=>match o.dst with|some d=>decide (d<N.n)|none=>true
def Kb(id:Nat)(σ:St)(i:Nat):St:=
 match σ.hp id with
 |some (false,cs)=>match cs[i]? with
  |some (.xo g u)=>match σ.live g with
   |some (e,_,u')=>if u'=u∧g.ex=true∧0<u.cells.length then⟨σ.tm,fD σ.hp id (some (false,cs.set i (.gz e (.list u)))),fun b=>if b=g then none else σ.live b⟩ else σ
   |none=>σ
  |_=>σ
 |_=>σ
def J9(σ:St)(t:Nat):St:=
 match σ.tm t with
 |some ([],.one (.pJ id 0))=>match σ.hp id with
  |some (_,cs)=>(List.range cs.length).foldl (Kb id) σ
  |none=>σ
 |_=>σ
def Ka(N:En)(r:Nat)(σ:St):St:=if N.cs.fr==0 then(((lk N.Bk r).getD {}).drop.filterMap fun x=>if 3000000<=x&&x<4000000 then some (x-3000000) else none).foldl J9 σ else σ
def L1(N:En)(r:Nat)(σ:St):St:=(((lk N.Bk r).getD {}).drop.filterMap fun x=>if 9000000000<=x then some (x-9000000000) else none).foldl (fun σ t=>Eh σ (.tmp t,.ptr .nil,none)) σ
def Px(x:Nat):Nat×Nat:=((x-4000000) % 1000,(x-4000000)/1000)
def splitAt(N:En)(r:Nat)(σ:St)(p:Nat):Tao (Nat×E×IntKind×Nat):=
 match ((lk N.Bk r).getD {}).drop.find? (fun x=>4000000<=x&&x<5000000) with
 |some x=>match σ.tm (Px x).1 with
  |some ([],.one (.gz e (.int kd)))=>if e.lt p then some ((Px x).1,e,kd,(Px x).2) else none
  |_=>none
 |none=>none
def yn(f:St->VC)(σ:St)(t:Nat)(e:E)(b:IntKind):Tah->VC
 | [] =>.stuck 9100
 |j::r=>.branch (.bin .eq e (.aR b j)) (f (Eb σ t (.gz (.aR b j) (.int b)))) (yn f σ t e b r)
def LP(σ:St)(id c:Nat)(cs:List SC)(x:SC):St:=⟨σ.tm,fD σ.hp id (some (false,cs.set c x)),σ.live⟩
def uk(N:En)(r:Nat)(σ:St)(p:Nat):Tao (Nat×Nat×List SC×E×IntKind×Nat):=
 match ((lk N.Bk r).getD {}).drop.find? (fun x=>5000000<=x&&x<9000000000) with
 |some x=>match σ.tm ((x-5000000) % 1000) with
  |some ([],.one (.pJ id 0))=>match σ.hp id with
   |some (false,cs)=>match cs[(x-5000000)/100000]? with
    |some (.gz e (.int kd))=>if e.lt p then some (id,(x-5000000)/100000,cs,e,kd,((x-5000000)/1000) % 100) else none
    |_=>none
   |_=>none
  |_=>none
 |none=>none
def vz(f:St->VC)(σ:St)(id c:Nat)(cs:List SC)(e:E)(b:IntKind):Tah->VC
 | [] =>.stuck 9100
 |j::r=>.branch (.bin .eq e (.aR b j)) (f (LP σ id c cs (.gz (.aR b j) (.int b)))) (vz f σ id c cs e b r)
def C6(N:En)(r p:Nat)(f:St->VC)(σ:St):VC:=
 match splitAt N r σ p with
 |some (t,e,kd,m)=>yn f σ t e kd (List.range m)
 |none=>match uk N r σ p with
  |some (id,c,cs,e,kd,m)=>vz f σ id c cs e kd (List.range m)
  |none=>f σ
def Rx(N:En)(id:Nat)(ops:Tad)(b:Bool)(k:Ex->St->Nat->Nat->VC)(p d:Nat)(σ:St):VC:=
  match C5 N ops b with
  |some (c,true)=>qI N ops p (p+c) (fun _ f=>match (ops[c]?).bind (UZ N.P N.n (p+c) f) with
    |some (t,e)=>
     if Sw N ops then .branch (.bin .eq (.un .len e) (.aR .i64 0)) (.any (p+c) .bool (k .normal (Eb f t (.gz (.var (p+c)) .bool)) (p+ops.size) d)) (.any (p+c) .bool (k .normal (Eb f t (.gz (.eO false) .bool)) (p+ops.size) d))
     else .stuck 9001
    |none=>.stuck 9000) (List.range' 0 c) [] σ
  |some (c,false)=>.stuck 9004
  |none=>
  if N.cs.fr==2&&PK ops then
   .stuck 7000
  else
  match abG N ops b with
  |some c=>.stuck 8000
  |none=>
  match Mk N.P N.cs σ ops b with
  |some c=>qI N ops p (p+c) (fun _ f=>
    match (ops[c]?).bind (UK N.P N.cs N.n f) with
    |some x=>
     if x.e.lt (p+c)&&(ops.toList.all fun o=>match o.dst with|some d=>decide (d<N.n)|none=>true) then
      .call (p+c) x.k (.cons x.e .nil) [] (qI N ops p (p+ops.size) (fun _ g=>k .normal g (p+ops.size) d) (List.range' (c+1) (ops.size-(c+1))) [] (x.after f (p+c)))
     else .stuck 6001
    |none=>.stuck 6000) (List.range' 0 c) [] σ
  |none=>qI N ops p (p+ops.size) (fun r h=>
   if(!b||(qe ops r&&TP ops))&&(ops.toList.all fun o=>match o.dst with|some d=>decide (d<N.n)|none=>true) then k .normal h (p+ops.size) d
   else .stuck (1000+id)) (List.range ops.size) [] σ
def lF:E->Tao Bool
 |.eO b=>some b
 |.un .not e=>(lF e).map (!·)
 |.un .yR .gI=>some true
 |.bin .or a b=>match lF a,lF b with
  |some true,_=>some true
  |_,some true=>some true
  |some false,some false=>some false
  |_,_=>none
 |.bin .and a b=>match lF a,lF b with
  |some false,_=>some false
  |_,some false=>some false
  |some true,some true=>some true
  |_,_=>none
 |_=>none
def E8{ρ:Nat->D}: ∀{e:E} {b:Bool},lF e=some b->(den ρ e).Y=b:=by
 intro e
 induction e with
 |eO b=>intro i h;simp only[lF,aa]at h;subst h;rfl
 |un o e ih=>
  intro b h;cases o<;>try (simp only[lF]at h;done)
  all_goals first
   |(simp only[lF,cU]at h
     obtain⟨i,c,rfl⟩:=h;rw[show(den ρ (.un .not e)).Y= !(den ρ e).Y from rfl,ih c])
   |(cases e<;>simp only[lF,aa,reduceCtorEq]at h
     subst h;rfl)
   |(simp[lF]at h)
 |bin o x y Xa Pj=>
  intro b h;have f:(den ρ (.bin .or x y)).Y=((den ρ x).Y||(den ρ y).Y):=rfl;have g:(den ρ (.bin .and x y)).Y=((den ρ x).Y&&(den ρ y).Y):=rfl;cases o<;>try (simp[lF]at h;done)
  all_goals
   simp only[lF]at h
   try rw[f]
   try rw[g]
   cases hx:lF x with
   |none=>cases hy:lF y with
    |none=>rw[hx,hy]at h;cases h
    |some by'=>
     rw[hx,hy]at h;have d:=Pj hy;cases by'<;>simp only[aa,reduceCtorEq]at h
     subst h;simp[d]
   |some bx=>cases hy:lF y with
    |none=>
     rw[hx,hy]at h;have c:=Xa hx;cases bx<;>simp only[aa,reduceCtorEq]at h
     subst h;simp[c]
    |some by'=>
     rw[hx,hy]at h;have c:=Xa hx;have d:=Pj hy;cases bx<;>cases by'<;>simp only[aa,reduceCtorEq]at h<;>subst h<;>simp[c,d]
 |_=>intro b h;simp[lF]at h
def vc(N:En):Code->(Ex->St->Nat->Nat->VC)->St->Nat->Nat->VC
 |.skip,k,σ,p,d=>k .normal σ p d
 |.label _,k,σ,p,d=>k .normal σ p d
 |.exit i,k,σ,p,d=>k (.exit i) σ p d
 |.ret,k,σ,p,d=>k .ret σ p d
 |.region id ops draw,k,σx,p,d=>
  C6 N id p (Rx N id ops draw k p d) (L1 N id (Ka N id σx))
 |.seq a b,k,σ,p,d=>vc N a (fun ex σ p d=>match ex with| .normal=>vc N b k σ p d|e=>k e σ p d) σ p d
 |.cond c x y,k,σ,p,d=>
  match Nj σ N.P c with
  |some (.eO true)=>vc N x k σ p d
  |some (.eO false)=>vc N y k σ p d
  |some e=>match lF e with
   |some true=>vc N x k σ p d
   |some false=>vc N y k σ p d
   |none=>if e.lt p then .branch e (vc N x k σ p d) (vc N y k σ p d) else .stuck 1
  |none=>.stuck 2
 |.block i c,k,σ,p,d=>vc N c (fun ex σ p d=>match ex with| .exit j=>if j=i then k .normal σ p d else k (.exit j) σ p d|e=>k e σ p d) σ p d
 |.loop c,k,σ,p,d=>
  if !N.TY.isEmpty&& !gn c then .stuck 35 else
  let h:=uf N.n (((iX c).bind (lk N.Bk)).getD {}) ((((iX c).bind (lk N.Bk)).getD {}).own.map (·.1)++assigned c) σ p
  match Ev N.n h σ with
  |some es=>.loop p es (h.iM.map fun x=>lI x.2.1 x.2.2) (vc N c (fun ex f l g=>match ex with
    |.normal=>match Ev N.n h (Eu h.iM f) with
     |some es'=>.again (g-1-d) es'
     |none=>.stuck (3000+p)
    |e=>k e f l g) h.st (p+h.size) (d+1))
  |none=>.stuck (4000+p)
 |_,_,_,_,_=>.stuck 3
def E.mR{n m:Nat}(h:n<=m): ∀{e:E},e.lt n=true->e.lt m=true:=by
 intro e
 induction e with
 |var i=>intro d;simp only[E.lt,bk]at d⊢;omega
 |aR|eO|Bf|gI|nil=>intro _;rfl
 |cons a b po pn=>intro d;simp only[E.lt,aS]at d⊢;exact⟨po d.1,pn d.2⟩
 |un o e ih=>intro d;exact ih d
 |bin o a b po pn=>intro d;simp only[E.lt,aS]at d⊢;exact⟨po d.1,pn d.2⟩
 |ite c a b JW po pn=>intro d;simp only[E.lt,aS]at d⊢;exact⟨⟨JW d.1.1,po d.1.2⟩,pn d.2⟩
def jM{ρ b:Nat->D}{n:Nat}(h: ∀i,i<n->b i=ρ i){c:dB}(e:(c.all fun x=>x.1.lt n)=true):aU b c=aU ρ c:=by
 unfold aU;rw[bY]at e;rw[du,bY,bY];constructor
 ·intro H x d;rw[<-dO h (e x d)];exact H x d
 ·intro H x d;rw[dO h (e x d)];exact H x d
def qn{Φ:Taa}{Pre:eN}{R:D->Prop}{k:VC}{o:List (Taf->Prop)}{N:Nat}{M:Tai}: ∀{L:List (Nat×Item)} {lo:Nat} {ρ:Nat->D},wH lo L=true->(∀x∈L,x.1<N)->
  (sr L k).holds Φ Pre R ρ o-> ∃c,(∀i,i<lo->c i=ρ i)∧(∀x∈L,eG ⟨c,N,M⟩ Φ Pre x.2)∧k.holds Φ Pre R c o
 | [],lo,ρ,_,_,h=>⟨ρ,fun _ _=>rfl,by simp,h⟩
 |(q,it)::r,lo,ρ,hb,hN,h=>by
  simp only[wH,aS,bk]at hb;obtain⟨⟨H,d⟩,z⟩:=hb;have m: ∀x∈r,x.1<N:=fun x j=>hN x (aH _ j);have F:q<N:=hN (q,it) (bw ..);cases it with
  |IP pc b=>simp[rk]at d
  |kq pc e=>
   obtain⟨u,t⟩:=h;obtain⟨c,l,y,v⟩:=qn (lo:=q) z m t;simp only[rk,aS]at d;refine⟨c,fun i B=>l i (by omega),fun x j=> ?_,v⟩;rcases aD.1 j with rfl|j
   ·exact⟨E.mR (by show q<=N;omega) d.2,fun s=>by show(den c e).Y=true;rw[dO l d.2];exact u ((jM l d.1).symm.trans s)⟩
   ·exact y x j
  |call p f args pc=>
   obtain⟨u,t⟩:=h;simp only[rk,aS,beq_iff_eq]at d;obtain⟨⟨rfl,g⟩,A⟩:=d;obtain⟨c,l,y,v⟩:=qn (lo:=p+1) z m (t _ rfl);have agree: ∀i,i<p->c i=ρ i:=fun i B=>(l i (by omega)).trans (fo _ _ (by omega));refine⟨c,fun i B=>agree i (by omega),fun x j=> ?_,v⟩;rcases aD.1 j with rfl|j
   ·refine⟨E.mR (by show p<=N;omega) g,F,?_,fun s=> ?_⟩
    ·show c p=Φ f (den c args).A;rw[l p (by omega),dX,dO agree g]
    ·show Pre f (den c args).A;rw[dO agree g];exact u ((jM agree A).symm.trans s)
   ·exact y x j
  |room pc e b=>
   obtain⟨u,t⟩:=h;obtain⟨c,l,y,v⟩:=qn (lo:=q) z m t;simp only[rk,aS]at d;refine⟨c,fun i B=>l i (by omega),fun x j=> ?_,v⟩;rcases aD.1 j with rfl|j
   ·exact⟨E.mR (by show q<=N;omega) d.2,fun s=>by show(den c e).A.length<=maxLen∧(den c e).A.length*b<=_;rw[dO l d.2];exact u ((jM l d.1).symm.trans s)⟩
   ·exact y x j
def uC{ρ:Nat->D}: ∀{pc:dB},(den ρ (rz pc)).Y=aU ρ pc
 | [] =>rfl
 | [(e,true)] =>by simp[rz,aU]
 | [(e,false)] =>by simp[rz,aU,den,B.den,U.den,D.Y]
 |(e,true)::x::r=>by have:=uC (ρ:=ρ) (pc:=x::r);show((den ρ e).Y&&(den ρ (rz (x::r))).Y)=_;rw[this];simp[aU]
 |(e,false)::x::r=>by have:=uC (ρ:=ρ) (pc:=x::r);show(!(den ρ e).Y&&(den ρ (rz (x::r))).Y)=_;rw[this];simp[aU]
def Az: ∀{L:List (Nat×Item)} {lo:Nat},wH lo L=true-> ∀x∈L,rk x.1 x.2=true
 | [],_,_,x,b=>by simp at b
 |(q,it)::r,lo,h,x,b=>by
  simp only[wH,aS]at h;rcases aD.1 b with rfl|b
  ·exact h.1.2
  ·exact Az h.2 x b
def DM{Φ:Taa}{Pre:eN}{ρ d:Nat->D}{N q:Nat}{M:Tai}{it:Item}(h:eG ⟨ρ,N,M⟩ Φ Pre it)(j:rk q it=true)(l: ∀i,i<q+1->d i=ρ i):eG ⟨d,N,M⟩ Φ Pre it:=by
 have c: ∀i,i<q->d i=ρ i:=fun i u=>l i (by omega);cases it with
 |IP pc b=>simp[rk]at j
 |kq pc e=>
  simp only[rk,aS]at j;refine⟨h.1,fun k=> ?_⟩;show(den d e).Y=true;rw[dO c j.2];exact h.2 ((jM c j.1).symm.trans k)
 |call p f args pc=>
  simp only[rk,aS,beq_iff_eq]at j;obtain⟨⟨rfl,g⟩,m⟩:=j;obtain⟨t,s,r,o⟩:=h;refine⟨t,s,?_,fun k=> ?_⟩
  ·show d p=Φ f (den d args).A;rw[l p (by omega),dO c g];exact r
  ·show Pre f (den d args).A;rw[dO c g];exact o ((jM c m).symm.trans k)
 |room pc e b=>
  simp only[rk,aS]at j;refine⟨h.1,fun k=> ?_⟩;show(den d e).A.length<=maxLen∧(den d e).A.length*b<=_;rw[dO c j.2];exact h.2 ((jM c j.1).symm.trans k)
def jK{N:En}{Φ:Taa}{Pre:eN}{R:D->Prop}{ops:Tad}{f M:Nat}{MM:Tai}{I:List (Nat×iH)->St->VC}{kJ:List (Taf->Prop)}:
  ∀(n s:Nat) (p:List (Nat×iH)) (σ:St) (ρ:Nat->D),(qI N ops f M I (List.range' s n) p σ).holds Φ Pre R ρ kJ->f+s+n<=M->
   ∃(c:Nat->D) (r:List (Nat×iH)) (σ':St),(∀i,i<f+s->c i=ρ i)∧rf N.P N.cs ops f M r σ σ'∧r.map (·.1)=List.range' s n∧(∀x∈r,∀m∈x.2.items,eG ⟨c,M,MM⟩ Φ Pre m)∧(I (p++r) σ').holds Φ Pre R c kJ
 |0,s,p,σ,ρ,h,_=>⟨ρ,[],σ,fun _ _=>rfl,.nil σ,rfl,by simp,by rw[cN];exact h⟩
 |n+1,s,p,σ,ρ,h,hM=>by
  rw[List.range'_succ]at h⊢;simp only[qI]at h;split at h
  ·exact h.elim
  ·rename_i o Y;split at h
   ·rename_i e q;split at h
    ·rename_i J;simp only[aS]at J;obtain⟨u,X⟩:=J
     obtain⟨a0,a1,a2,a3⟩:=qn (N:=M) (M:=MM) X (fun x A=>by obtain⟨m,_,rfl⟩:=bn.1 A;show f+s<M;omega) h
     obtain⟨c,r,σ',B,S,Q,O,L⟩:=jK n (s+1) _ _ a0 a3 (by omega);refine⟨c,(s,e)::r,σ',fun i T=>(B i (by omega)).trans (a1 i T),.cons Y ⟨none,q⟩ u S,by simp[Q],?_,by simpa using L⟩;intro x A m d;rcases aD.1 A with rfl|A
     ·have hm:(f+s,m)∈e.items.map fun m=>(f+s,m):=bn.2 ⟨m,d,rfl⟩;exact DM (a2 _ hm) (Az X _ hm) (fun i T=>B i (by show i<f+(s+1);have:i<f+s+1:=T;omega))
     ·exact O x A m d
    ·exact h.elim
   ·split at h
    ·rename_i y F;split at h
     ·rename_i x et ef A j l;split at h
      ·rename_i J;simp only[aS]at J;obtain⟨⟨u,K⟩,g⟩:=J;obtain⟨k1,k2⟩:=h;obtain⟨h1,Z⟩:=k2 _ rfl
       have U: ∀(b:Bool) (e:iH),kf (some b) N.P N.cs ops σ (f+s) o=some e->e.qW.2.lt M=true->(den (fD ρ (f+s) (Φ x.k (den ρ x.args).A)) (JV (f+s))).Y= !b->
         (qI N ops f M I (List.range' (s+1) n) (p++[(s,e)]) (e.app σ)).holds Φ Pre R (fD ρ (f+s) (Φ x.k (den ρ x.args).A)) kJ->
         ∃(c:Nat->D) (r:List (Nat×iH)) (σ':St),(∀i,i<f+s->c i=ρ i)∧rf N.P N.cs ops f M r σ σ'∧r.map (·.1)=s::List.range' (s+1) n∧(∀x∈r,∀m∈x.2.items,eG ⟨c,M,MM⟩ Φ Pre m)∧(I (p++r) σ').holds Φ Pre R c kJ:=by
        intro b e q a5 a6 hh;obtain⟨c,r,σ',B,S,Q,O,L⟩:=jK n (s+1) _ _ _ hh (by omega);have v: ∀i,i<f+s->c i=ρ i:=fun i T=>(B i (by omega)).trans (fo _ _ (by omega));refine⟨c,(s,e)::r,σ',v,.cons Y ⟨some b,q⟩ a5 S,by simp[Q],?_,by simpa using L⟩;intro z hz m d;rcases aD.1 hz with rfl|hz
        ·unfold kf at q;simp only[F]at q;split at q
         ·cases q
         split at q
         ·rename_i fs b0;rw[A]at q;simp only[aP,aa]at q;have H:e.items=[.IP [(JV (f+s),!b)] true,.call (f+s) x.k x.args []] :=by rw[<-q];cases b<;>rfl
          rw[H]at d;have V:c (f+s)=Φ x.k (den ρ x.args).A:=by rw[B (f+s) (by omega),dX]
          simp only[aD,cu,or_false]at d;rcases d with rfl|rfl
          ·show aU c [(JV (f+s),!b)] =true;simp only[aU,List.all_cons,bQ,Bool.and_true,beq_iff_eq,JV,den,V];rw[<-a6];simp only[JV,den,dX]
          ·refine⟨E.mR (by show f+s<=M;omega) g,by show f+s<M;omega,?_,fun _=> ?_⟩
           ·show c (f+s)=Φ x.k (den c x.args).A;rw[V,dO v g]
           ·show Pre x.k (den c x.args).A;rw[dO v g];exact k1 rfl
         ·cases q
        ·exact O z hz m d
       cases hb:(den (fD ρ (f+s) (Φ x.k (den ρ x.args).A)) (JV (f+s))).Y with
       |true=>exact U false ef l K hb (h1 hb)
       |false=>exact U true et j u hb (Z hb)
      ·exact h.elim
     ·exact h.elim
    rename_i W;split at h
    ·rename_i pc x et ef hg A j l;split at h
     ·rename_i J;simp only[aS]at J;obtain⟨⟨⟨u,K⟩,a4⟩,g⟩:=J;obtain⟨h1,Z⟩:=h;rw[uC]at h1 Z;have agree: ∀c:Nat->D,(∀i,i<f+s->c i=ρ i)->aU c pc=aU ρ pc:=fun c a7=>jM a7 a4;cases hb:aU ρ pc with
      |true=>
       obtain⟨k1,k2⟩:=h1 hb;have k3:=k2 _ rfl;obtain⟨c,r,σ',B,S,Q,O,L⟩:=jK n (s+1) _ _ _ k3 (by omega);have v: ∀i,i<f+s->c i=ρ i:=fun i T=>(B i (by omega)).trans (fo _ _ (by omega));refine⟨c,(s,et)::r,σ',v,.cons Y ⟨some true,j⟩ u S,by simp[Q],?_,by simpa using L⟩;intro y F m d;rcases aD.1 F with rfl|F
       ·rw[hg,ch]at A;unfold kf at j;simp only[W,hg,A]at j;split at j
        ·cases j
        injection j with j;rw[<-j]at d;simp only[aD,cu,or_false]at d;rcases d with rfl|rfl
        ·show aU c pc=true;rw[agree c v,hb]
        ·refine⟨E.mR (by show f+s<=M;omega) g,by show f+s<M;omega,?_,fun _=> ?_⟩
         ·show c (f+s)=Φ x.k (den c x.args).A;rw[B (f+s) (by omega),dX,dO v g]
         ·show Pre x.k (den c x.args).A;rw[dO v g];exact k1 rfl
       ·exact O y F m d
      |false=>
       obtain⟨c,r,σ',B,S,Q,O,L⟩:=jK n (s+1) _ _ _ (Z hb) (by omega);have v: ∀i,i<f+s->c i=ρ i:=fun i T=>B i (by omega);refine⟨c,(s,ef)::r,σ',v,.cons Y ⟨some false,l⟩ K S,by simp[Q],?_,by simpa using L⟩;intro y F m d;rcases aD.1 F with rfl|F
       ·unfold kf at l;simp only[W,hg]at l;split at l
        ·rename_i a9 a8 t _;injection t with t;subst t;injection l with l;rw[<-l]at d;simp only[aD,cu,or_false]at d;subst d;show aU c pc=false;rw[agree c v,hb]
        ·cases l
       ·exact O y F m d
     ·exact h.elim
    ·exact h.elim
section
variable{w0:Tam}{S0:gJ}{C:Cx}{G:Gh}{σ:St}{a:Act}{w:Tam}{n:Nat}
def gG.drew(h:gG n w0 S0 C G σ a w):gG n w0 S0 C G σ a {w with drawn:=w.drawn+1}:=by
 have b:dL C w G C {w with drawn:=w.drawn+1} G:=⟨fun _ h=>⟨rfl,h⟩,fun _ h=>h,fun _ _ h=>h,fun _ _ _=>rfl,fun _ _=>rfl,fun _ _=>rfl⟩;refine⟨⟨h.m.below.drew,h.m.jA,h.m.keep,h.m.pK,h.m.kT,h.m.dF,h.m.gX,h.m.mH,?_,h.m.inj,?_,h.m.gh,h.m.js,h.m.eK,h.m.mF b rfl (fun _ _ _=>rfl) (fun _ _ h _=>h),h.m.wz⟩,h.t.later b,h.sz,h.defers⟩
 ·intro id d l c;obtain⟨k,j,i,f⟩:=h.m.box id d l c;exact⟨k,j,i.later b rfl,f⟩
 ·intro g e T t c;exact(h.m.own g e T t c).later b (fun _ _=>rfl) (fun _ _ _ h=>h)
structure Vf(N:En)(Φ:Taa)(Pre:eN)(w0:Tam)(S0:gJ):Prop where
 fl: ∀k sig ob,lk N.cs.l k=some sig->sig.ob=some ob->ob.wy=true-> ∀b o,S0.jw b o-> ¬ji w0 S0 b
 cf:Gl N.P N.cs S0 Φ Pre
 wz:N.cs.fr=2->(∀b o,¬S0.jw b o)∧S0.wz
 XA:N.TY≠ [] ->Dfs w0 S0
def Marks(w0:Tam)(S0 c:gJ):Prop:= ∃b:Tah,c.XA=b.map mark++S0.XA∧ ∀r∈b,w0.heap.size<=r
def Marks.refl(w0:Tam)(S0:gJ):Marks w0 S0 S0:=⟨[],rfl,by simp⟩
def Marks.trans{w0 c:Tam}{S0 d S2:gJ}(h:Marks w0 S0 d)(j:w0.heap.size<=c.heap.size)(k:Marks c d S2):Marks w0 S0 S2:=by
 obtain⟨f,m,l⟩:=h;obtain⟨e,i,g⟩:=k;refine⟨e++f,by rw[i,m];simp,fun r b=> ?_⟩;rcases aI.1 b with b|b
 ·exact aW j (g r b)
 ·exact l r b
structure oW(N:En)(Φ:Taa)(Pre:eN)(c:Code)(w0:Tam)(S0:gJ)(w1:Tam)(S1:gJ):Prop where
 same:N.TY=[] ∨gn c=true->w1=w0∧S1=S0
 ext:Ext w0 S0 w1 S1
 env:Vf N Φ Pre w1 S1
 marks:Marks w0 S0 S1
def oW.refl{N:En}{Φ:Taa}{Pre:eN}{c:Code}{w0:Tam}{S0:gJ}(h:Vf N Φ Pre w0 S0):oW N Φ Pre c w0 S0 w0 S0:=⟨fun _=>⟨rfl,rfl⟩,Ext.refl _ _,h,Marks.refl _ _⟩
def oW.seq{N:En}{Φ:Taa}{Pre:eN}{x y z:Code}{w0 c b:Tam}{S0 e d:gJ}(g:gn z=true->gn x=true)(f:gn z=true->gn y=true)(h:oW N Φ Pre x w0 S0 c e)(k:oW N Φ Pre y c e b d):oW N Φ Pre z w0 S0 b d where
 same hc:=by obtain⟨rfl,rfl⟩:=h.same (hc.imp id g);exact k.same (hc.imp id f)
 ext:=h.ext.trans k.ext
 env:=k.env
 marks:=h.marks.trans h.ext.below.size k.marks
def oW.sub{N:En}{Φ:Taa}{Pre:eN}{x z:Code}{w0 b:Tam}{S0 S1:gJ}(c:gn z=true->gn x=true)(h:oW N Φ Pre x w0 S0 b S1):oW N Φ Pre z w0 S0 b S1:=⟨fun d=>h.same (d.imp id c),h.ext,h.env,h.marks⟩
def Ke.sub{ro:Tak}{z c:Code}{Q Q':HP}(h:Ke ro z Q)(f:gn z=true->gn c=true)(e: ∀a w,Q' .outgrown a w->Q .outgrown a w):Ke ro c Q':=fun b=>⟨f (h b).1,fun a w d=>(h b).2 a w (e a w d)⟩
section
variable{w0:Tam}{S0:gJ}{C:Cx}{G:Gh}{σ:St}{a:Act}{w:Tam}{n:Nat}
def eW.QC(h:eW w0 S0 C G σ w){g:Tag}{e:E}{T:Tba}{t:Ty}(K:σ.live g=some (e,T,t))(a0:g.ex=true)(P:0<t.cells.length)(U: ¬S0.fr)(R: ¬S0.wz):
  ∃Z,dL C w G C w Z∧eW w0 S0 C Z {σ with live:=fun m=>if m=g then none else σ.live m} w∧e.lt C.N=true∧ca w Z.S (G.τ g) (den C.ρ e)∧Has (.list t) (den C.ρ e):=by
 have q:=h.own g e T t K;obtain⟨M,l,hd,F,hS,hr⟩:=q.own
 have r:dL C w G C w {G with S:=fun b o=>G.S b o∨((G.τ g).ownBlock=some b∧o<M.length)}:=
  ⟨fun _ h=>⟨rfl,h⟩,fun _ h=>h,fun _ _ h=>.inl h,fun _ _ _=>rfl,fun _ _=>rfl,fun _ _=>rfl⟩
 have f: ∀{m:Tag} {x:E×Tba×Ty},(if m=g then none else σ.live m)=some x->m≠g∧σ.live m=some x:=by
  intro m x k;split at k
  ·cases k
  ·rename_i p;exact⟨p,k⟩
 refine⟨{G with S:=fun b o=>G.S b o∨((G.τ g).ownBlock=some b∧o<M.length)},r,?_,q.lt,?_,q.has⟩
 ·refine⟨h.below,fun b o u=>.inl (h.jA b o u),h.keep,h.pK,h.kT,?_,?_,h.mH,?_,h.inj,?_,?_,?_,?_,fun hf=>absurd hf U,fun hz=>absurd hz R⟩
  ·rintro b o (u|⟨s,_⟩)
   ·exact h.dF b o u
   ·exact(q.gq b s).2
  ·rintro b o (u|⟨s,_⟩)
   ·exact h.gX b o u
   ·exact .inr (h.gh g _ b K s)
  ·intro i D Y k;obtain⟨J,I,X,L⟩:=h.box i D Y k;refine⟨J,I,X.later r rfl,?_⟩;cases D with
   |true=>simp only[if_true]at L⊢;exact fun o Q=>.inl (L o Q)
   |false=>
    simp only[ai,if_false]at L⊢;rintro o (Q|⟨he,_⟩)
    ·exact L o Q
    ·exact h.eK g i _ _ _ K k he rfl
  ·intro m e' T' t' k;obtain⟨p,k⟩:=f k;refine(h.own m e' T' t' k).later r (fun _ _=>rfl) (fun b s o u=> ?_);rcases u with u|⟨W,_⟩
   ·exact u
   ·exact absurd (h.js m g _ _ b k K s W) p
  ·intro m x b k s;exact h.gh m x b (f k).2 s
  ·intro g1 g2 x y b k O J I;exact h.js g1 g2 x y b (f k).2 (f O).2 J I
  ·intro m i x y b k O s;exact h.eK m i x y b (f k).2 O s
 ·rw[hd];obtain⟨hl,hh⟩:=F;rcases hh with⟨hv,hn⟩|⟨b,cap,cur,hv,s,hgb,LK,Xg,FY,tI⟩
  ·have:l=[] :=an hn;subst this;rw[hv];exact .nil none 0
  ·have z:=q.has;rw[hd]at z;obtain⟨l',A,_,k⟩:=bL.1 z;injection A with A;subst A;by_cases p:l=[]
   ·subst p;rw[hv];exact .nil _ cap
   ·have H:(G.τ g).ownBlock=some b:=by rw[hv];rfl
    rw[hv]at H⊢;refine .list b 0 cap t.cells.length M l P p LK hl (fun i B=> ?_) (fun i v B=> ?_) (fun i d V=> ?_) (fun i d j v c J I X=>(hr i d j v c J I X).keep (fun _ _ h=>.inl h) (fun _ _ _=>rfl))
    ·rw[ao];exact .inr ⟨H,B⟩
    ·rw[ao,cell_of_row w b i cur T (0,0) hgb];rw[<-tI,ay]at B;split at B
     ·simpa using B
     ·cases B
    ·exact(cd (k d (bU V))).1
def gG.Kb(h:gG n w0 S0 C G σ a w)(Y: ¬S0.fr)(W: ¬S0.wz)(id i:Nat): ∃P,gG n w0 S0 C P (Kb id σ i) a w:=by
 unfold dI.Kb;split
 ·rename_i z K;split
  ·rename_i g u E;split
   ·rename_i e T N hg;split
    ·rename_i s;obtain⟨rfl,a1,V⟩:=s;obtain⟨P,q,f,Z,H,L⟩:=h.m.QC hg a1 V Y W;have D:i<z.length:=(aG.1 E).1
     have X:mapOf z=none:=by
      unfold mapOf;split
      ·rename_i e' kt T';have:i=0:=by simpa using D
       subst this;cases E
      ·rfl
     have a2:mapOf (z.set i (.gz e (.list N)))=none:=by
      unfold mapOf;split
      ·rename_i e' kt T' M;have hl:=congrArg List.length M;simp at hl;have:i=0:=by omega
       subst this;cases z with
       |nil=>simp at D
       |cons c r=>simp at M
      ·rfl
     have J:(⟨σ.tm,σ.hp,fun O=>if O=g then none else σ.live O⟩:St).hp id=some (false,z):=K;refine⟨P,⟨?_,h.t.later q,h.sz,h.defers⟩⟩
     have o: ∀{j:Nat} {x:Bool×List SC},fD σ.hp id (some (false,z.set i (.gz e (.list N)))) j=some x-> ∃y,σ.hp j=some y:=by
      intro j x d;by_cases I:j=id
      ·exact⟨_,I▸K⟩
      ·rw[fo _ _ I]at d;exact⟨_,d⟩
     refine⟨f.below,f.jA,f.keep,f.pK,f.kT,f.dF,f.gX,?_,?_,?_,f.own,f.gh,f.js,?_,f.fresh,f.wz⟩
     ·intro j x d;obtain⟨y,F⟩:=o d;exact f.mH j y F
     ·intro j l p d;by_cases I:j=id
      ·subst I;have d:fD σ.hp j (some (false,z.set i (.gz e (.list N)))) j=some (l,p):=d;simp only[dX,aa,ae]at d;obtain⟨rfl,rfl⟩:=d;obtain⟨b1,b2,b3,b4⟩:=f.box j _ _ J;obtain⟨vs,Tb,a0,B⟩:=b3.cells X;refine⟨b1,?_,.mk a0 ⟨by rw[aM];exact B.1,fun k c v s hv=> ?_⟩,?_⟩
       ·rw[bY]at b2⊢;intro x d;rcases dS d with d|rfl
        ·exact b2 x d
        ·rfl
       ·by_cases hk:k=i
        ·subst hk;rw[List.getElem?_set_self D]at s;injection s with s;subst s;obtain⟨hM,U,_⟩:=B.2 k _ v E hv;have R:P.τ g=G.τ g:=q.τ g hM;exact⟨Z,by rw[U,R];exact H,L⟩
        ·rw[List.getElem?_set_ne (fun e=>hk e.symm)]at s;exact B.2 k c v s hv
       ·simp only[ai,if_false]at b4⊢;exact b4
      ·have d:σ.hp j=some (l,p):=by
        have d:fD σ.hp id (some (false,z.set i (.gz e (.list N)))) j=some (l,p):=d
        rwa [fo _ _ I]at d
       exact f.box j l p d
     ·intro j k x y d F he;obtain⟨x',S⟩:=o d;obtain⟨Q,A⟩:=o F;exact f.inj j k x' Q S A he
     ·intro O j x y b d F hb;obtain⟨Q,A⟩:=o F;exact f.eK O j x Q b d A hb
    ·exact⟨G,h⟩
   ·exact⟨G,h⟩
  ·exact⟨G,h⟩
 ·exact⟨G,h⟩
def gG.Zw(c: ¬S0.fr)(b: ¬S0.wz)(id:Nat): ∀(l:Tah) {G:Gh} {σ:St},gG n w0 S0 C G σ a w-> ∃d,gG n w0 S0 C d (l.foldl (dI.Kb id) σ) a w
 | [],G,_,h=>⟨G,h⟩
 |t::l,_,_,h=>by obtain⟨d,e⟩:=h.Kb c b id t;exact gG.Zw c b id l e
def gG.J9(h:gG n w0 S0 C G σ a w)(c: ¬S0.fr)(b: ¬S0.wz)(t:Nat): ∃d,gG n w0 S0 C d (J9 σ t) a w:=by
 unfold dI.J9;split
 ·split
  ·exact gG.Zw c b _ _ h
  ·exact⟨G,h⟩
 ·exact⟨G,h⟩
def gG.Su(c: ¬S0.fr)(b: ¬S0.wz): ∀(l:Tah) {G:Gh} {σ:St},gG n w0 S0 C G σ a w-> ∃d,gG n w0 S0 C d (l.foldl dI.J9 σ) a w
 | [],G,_,h=>⟨G,h⟩
 |t::l,_,_,h=>by obtain⟨d,e⟩:=h.J9 c b t;exact gG.Su c b l e
def gG.Zv: ∀(l:Tah) {G:Gh} {σ:St},gG n w0 S0 C G σ a w-> ∃c,gG n w0 S0 C c (l.foldl (fun σ t=>dI.Eh σ (.tmp t,.ptr .nil,none)) σ) a w
 | [],G,_,h=>⟨G,h⟩
 |t::l,_,_,h=>by obtain⟨d,b⟩:=h.Eh (.tmp t,.ptr .nil,none);exact gG.Zv l b
def gG.L1{N:En}(r:Nat)(h:gG n w0 S0 C G σ a w): ∃b,gG n w0 S0 C b (dI.L1 N r σ) a w:=gG.Zv _ h
def gG.Ka{N:En}(r:Nat)(h:gG n w0 S0 C G σ a w)(c:N.cs.fr=0-> ¬S0.fr∧ ¬S0.wz): ∃f,gG n w0 S0 C f (Ka N r σ) a w:=by
 unfold dI.Ka;split
 ·rename_i b;obtain⟨e,d⟩:=c (by simpa using b);exact gG.Su e d _ h
 ·exact⟨G,h⟩
end
def eW.setCell(h:eW w0 S0 C G σ w){id c:Nat}{cs:List SC}{x y:SC}(o:σ.hp id=some (false,cs))(l:cs[c]? =some x)(I:x.scalar=true->y.scalar=true)(q: ∀e E T,x≠ .tU e E T)(p: ∀v,qG C w G x v->qG C w G y v):eW w0 S0 C G (LP σ id c cs y) w:=by
 have m: ∀i z,(LP σ id c cs y).hp i=some z->(i=id∧z=(false,cs.set c y))∨(i≠id∧σ.hp i=some z):=by
  intro i z d;simp only[LP]at d;by_cases r:i=id
  ·subst r;rw[dX]at d;injection d with d;exact .inl ⟨rfl,d.symm⟩
  ·rw[fo _ _ r]at d;exact .inr ⟨r,d⟩
 have f: ∀i z,(LP σ id c cs y).hp i=some z-> ∃z',σ.hp i=some z':=by
  intro i z d;rcases m i z d with⟨rfl,_⟩|⟨_,h⟩
  ·exact⟨_,o⟩
  ·exact⟨_,h⟩
 refine{below:=h.below,jA:=h.jA,keep:=h.keep,pK:=h.pK,kT:=h.kT,dF:=h.dF,gX:=h.gX,mH:= ?_,box:= ?_,inj:= ?_,own:=h.own,gh:=h.gh,js:=h.js,eK:= ?_,fresh:=h.fresh,wz:=h.wz}
 ·intro i z d;obtain⟨z',N⟩:=f i z d;exact h.mH i z' N
 ·intro i W P d;rcases m i _ d with⟨rfl,h2⟩|⟨_,h2⟩
  ·simp only[ae]at h2;obtain⟨rfl,rfl⟩:=h2;obtain⟨U,B,S,R⟩:=h.box _ _ _ o
   have J:mapOf cs=none:=by
    unfold mapOf;split
    ·rename_i e E T;cases c with
     |zero=>simp at l;exact absurd l.symm (q _ _ _)
     |succ c=>simp at l
    ·rfl
   obtain⟨H,T,O,A⟩:=S.cells J;have L:c<cs.length:=(aG.1 l).1;refine⟨U,?_,jD.mk (vs:=H) (T:=T) O ⟨by simpa using A.1,?_⟩,by simpa using R⟩
   ·rw[bY]at B⊢;intro z d;rcases dS d with d|rfl
    ·exact B z d
    ·exact I (B x (bU l))
   ·intro i z v d F;rw[bI]at d;split at d
    ·rename_i s;subst s;injection d with d;subst d;exact p v (A.2 _ _ _ l F)
    ·exact A.2 _ _ _ d F
  ·exact h.box _ _ _ h2
 ·intro i j a b M t;obtain⟨V,u⟩:=f i a M;obtain⟨D,k⟩:=f j b t;exact h.inj i j V D u k
 ·intro g i a b Q K t;obtain⟨D,k⟩:=f i b t;exact h.eK g i a D Q K k
def Fq{N:En}{Φ:Taa}{Pre:eN}{R:D->Prop}{r p n:Nat}{f:St->VC}{σ:St}{ρ:Nat->D}{g:List (Taf->Prop)}{w0 w:Tam}{S0:gJ}{G:Gh}{a:Act}{id c m:Nat}{cs:List SC}{e:E}{k:IntKind}(b:uk N r σ p=some (id,c,cs,e,k,m))(o:gG n w0 S0 ⟨ρ,p,fun i=>i<p⟩ G σ a w): ∀l:Tah,(vz f σ id c cs e k l).holds Φ Pre R ρ g-> ∃d,(f d).holds Φ Pre R ρ g∧gG n w0 S0 ⟨ρ,p,fun i=>i<p⟩ G d a w:=by
 have H:σ.hp id=some (false,cs)∧cs[c]? =some (.gz e (.int k)):=by
  unfold uk at b;split at b
  ·split at b
   ·split at b
    ·rename_i y;split at b
     ·rename_i A;split at b
      ·injection b with b;simp only[ae]at b;obtain⟨rfl,rfl,rfl,rfl,rfl,_⟩:=b;exact⟨y,A⟩
      ·cases b
     ·cases b
    ·cases b
   ·cases b
  ·cases b
 obtain⟨x,I⟩:=H;intro l
 induction l with
 |nil=>intro h;exact h.elim
 |cons j r ih=>
  intro h;unfold vz at h;obtain⟨K,J⟩:=h;cases hb:(den ρ (.bin .eq e (.aR k j))).Y with
  |false=>exact ih (J hb)
  |true=>
   refine⟨_,K hb,⟨o.m.setCell x I (fun _=>rfl) (fun _ _ _ h=>by cases h) ?_,o.t,o.sz,o.defers⟩⟩;rintro v ⟨Pe,Ge,aeU⟩;obtain⟨z,F,q⟩:=dr.1 aeU
   have s:z=(j:Int):=by have u:den ρ e= .int k z:=F;simp only[den,B.den,u,D.q,D.Y]at hb;simpa using hb
   subst s;refine⟨rfl,?_,dr.2 ⟨(j:Int),rfl,q⟩⟩;rw[F]at Ge;exact Ge
def HZ{N:En}{Φ:Taa}{Pre:eN}{R:D->Prop}{r p n:Nat}{f:St->VC}{σ:St}{ρ:Nat->D}{k:List (Taf->Prop)}{w0 w:Tam}{S0:gJ}{G:Gh}{a:Act}(h:(C6 N r p f σ).holds Φ Pre R ρ k)(u:gG n w0 S0 ⟨ρ,p,fun i=>i<p⟩ G σ a w): ∃g,(f g).holds Φ Pre R ρ k∧gG n w0 S0 ⟨ρ,p,fun i=>i<p⟩ G g a w:=by
 unfold C6 at h;split at h
 ·rename_i t e o m b
  have Q:σ.tm t=some ([],.one (.gz e (.int o))):=by
   unfold splitAt at b;split at b
   ·rename_i O _;generalize Px O=y at b;split at b
    ·rename_i K;split at b
     ·injection b with b;simp only[ae]at b;obtain⟨rfl,rfl,rfl,_⟩:=b;exact K
     ·cases b
    ·cases b
   ·cases b
  obtain⟨v,P,V,_,M⟩:=u.t t _ _ Q;simp only[aU,bQ,if_true]at M;obtain⟨S,q,A⟩:=M;obtain⟨z,L,F⟩:=dr.1 A
  have go: ∀l:Tah,(yn f σ t e o l).holds Φ Pre R ρ k-> ∃g,(f g).holds Φ Pre R ρ k∧gG n w0 S0 ⟨ρ,p,fun i=>i<p⟩ G g a w:=by
   intro l
   induction l with
   |nil=>intro h;exact h.elim
   |cons j r ih=>
    intro h;unfold yn at h;obtain⟨U,T⟩:=h;cases hb:(den ρ (.bin .eq e (.aR o j))).Y with
    |false=>exact ih (T hb)
    |true=>
     have H:z=(j:Int):=by have I:den ρ e= .int o z:=L;simp only[den,B.den,I,D.q,D.Y]at hb;simpa using hb
     subst H;refine⟨_,U hb,⟨u.m.congr (σ':=Eb σ t (.gz (.aR o j) (.int o))) rfl rfl,?_,u.sz,u.defers⟩⟩;intro E c s J;have d:fD σ.tm t (some ([],.one (.gz (.aR o j) (.int o)))) E=some (c,s):=J;by_cases x:E=t
     ·subst x;rw[dX]at d;injection d with d;simp only[ae]at d;obtain⟨rfl,rfl⟩:=d;refine⟨v,P,by simp,rfl,?_⟩;simp only[aU,bQ,if_true];refine⟨rfl,?_,dr.2 ⟨(j:Int),rfl,F⟩⟩;rw[L]at q;exact q
     ·rw[fo _ _ x]at d;exact u.t E c s d
  exact go _ h
 ·split at h
  ·rename_i b;exact Fq b u _ h
  ·exact⟨σ,h,u⟩
def Kh{N:En}{Φ:Taa}{Pre:eN}{R:D->Prop}(i3:N.P.follows .mixedOrders=true)(b7: ∀k g9,lk N.cs.l k=some g9->bj N.P k g9 (Pre k) (Φ k))(l5: ∀k y,lk N.fw k=some y->Dp N.P k y.1 y.2 (fun _=>True) (Φ k))(l1: ∀k y,lk N.wl k=some y->HQ N.P k y.1 y.2)(f3: ∀k y,lk N.TY k=some y->WX N.P k y.1 y.2 (Pre k) (Φ k)):
  ∀(c:Code) (ro:Tak) (k:Ex->St->Nat->Nat->VC) (σ:St) (p d:Nat) (ρ:Nat->D) (v:List (Taf->Prop)) (Q:HP) (w0:Tam) (S0:gJ),Vf N Φ Pre w0 S0->Ke ro c Q->
  (vc N c k σ p d).holds Φ Pre R ρ v->v.length=d->(∀i b,S0.pK i=some b->i<p)->
  (∀L S1,oW N Φ Pre c w0 S0 L S1-> ∀ex z p' d' f q a w G,(∀i b,S1.pK i=some b->i<p')->p<=p'->(∀i,i<p->f i=ρ i)->q.length=d'->(∃l,q=l++v)->(k ex z p' d').holds Φ Pre R f q->gG N.n L S1 ⟨f,p',fun i=>i<p'⟩ G z a w->Q ex.to a w)->
  ∀a w G,gG N.n w0 S0 ⟨ρ,p,fun i=>i<p⟩ G σ a w->WP ro N.P c Q a w:=by
 intro c
 induction c with
 |skip=>intro ro k σ p d ρ v Q w0 S0 X A h hd g O a w G M;exact WP.skip (O _ _ (oW.refl X) .normal _ _ _ _ _ a w G g (bf _) (fun _ _=>rfl) hd ⟨[],rfl⟩ h M)
 |label l=>intro ro k σ p d ρ v Q w0 S0 X A h hd g O a w G M;exact WP.label (O _ _ (oW.refl X) .normal _ _ _ _ _ a w G g (bf _) (fun _ _=>rfl) hd ⟨[],rfl⟩ h M)
 |exit i=>intro ro k σ p d ρ v Q w0 S0 X A h hd g O a w G M;exact WP.exit (O _ _ (oW.refl X) (.exit i) _ _ _ _ _ a w G g (bf _) (fun _ _=>rfl) hd ⟨[],rfl⟩ h M)
 |ret=>intro ro k σ p d ρ v Q w0 S0 X A h hd g O a w G M;exact WP.ret (O _ _ (oW.refl X) .ret _ _ _ _ _ a w G g (bf _) (fun _ _=>rfl) hd ⟨[],rfl⟩ h M)
 |region id ops draw=>
  intro ro k σ p d ρ v Q w0 S0 X A h hd g O a w G M;have k1:=X.fl;have c7:=X.cf;have l0:=X.wz
  replace O: ∀ex z p' d' f q a w G,p<=p'->(∀i,i<p->f i=ρ i)->q.length=d'->(∃l,q=l++v)->(k ex z p' d').holds Φ Pre R f q->gG N.n w0 S0 ⟨f,p',fun i=>i<p'⟩ G z a w->Q ex.to a w:=
   fun ex z p' d' f q a w G hp=>O w0 S0 (oW.refl X) ex z p' d' f q a w G (fun i b H=>av (g i b H) hp) hp
  simp only[vc]at h;obtain⟨G,M⟩:=M.Ka (N:=N) id (fun hz=>⟨fun hf=>by have:=X.cf.1 hf;omega,fun hf=>by have:=X.cf.2 hf;omega⟩);obtain⟨G,M⟩:=M.L1 (N:=N) id;generalize L1 N id (Ka N id σ)=σ at h M;obtain⟨b4,h2,B⟩:=HZ h M;clear h M;clear σ;revert h2 B;revert b4;intro σ h M;unfold Rx at h;split at h
  ·rename_i c hx;obtain⟨rfl,i9⟩:=HW hx;simp only[if_true]at i9;obtain⟨S,r1,j3,V,a9,J,c2,a0⟩:=jK (MM:=fun i=>i<p) c 0 [] σ ρ h (by omega);rw[dM]at V;split at a0
   ·rename_i t e a7;rw[dJ]at a7;obtain⟨o,ho,a7⟩:=a7;split at a0
    ·rename_i a6;simp only[Sw]at a6
     have b1: ∀(i:Nat) (o:Tbc) (dd:Nat),ops[i]? =some o->o.dst=some dd->dd<N.n:=fun i o dd ho e2=>by have:=bY.1 a6 o (by simpa using Array.mem_of_getElem? ho);rw[e2]at this;simpa using this
     have d7: ∀y∈r1,y.1<c:=fun y T=>by
      have:y.1∈List.range' 0 c:=by rw[<-J];exact bn.2 ⟨y,T,rfl⟩
      rw[List.mem_range'_1]at this;omega
     have c1:dL ⟨ρ,p,fun i=>i<p⟩ w G ⟨S,p+c,fun i=>i<p⟩ w G:=
      ⟨fun e he=>⟨dO V he,E.mR (cM _ _) he⟩,fun _ h=>h,fun _ _ h=>h,fun _ _ _=>rfl,fun _ _=>rfl,fun _ _=>rfl⟩
     have d9:oc N.P N.cs ops p N.n S0 ⟨S,p+c,fun i=>i<p⟩ Φ Pre r1:=
      ⟨b7,c2,fun y T=>by have:=d7 y T;show p+y.1<p+c;omega,b1,c7⟩
     refine WP.region A ?_
     have a8:List.range ops.size=r1.map (·.1)++List.range' c (ops.size-c):=by rw[J,List.range_eq_range'];have h2:=List.range'_append_1 (s:=0) (m:=c) (n:=ops.size-c);rw[ao]at h2;rw[h2];congr 1;omega
     rw[a8]
     refine kD _ a9 d9 (M.ir c1) (by rw[J];exact List.nodup_range') (fun y T h=>by have h':p+y.1<p:=h;omega) ?_
     intro a1 L G1 M1 g6 c6
     have d5:=c6.ir (dL.Jc ⟨S,p+c,M1⟩ L G1 (M':=fun i=>i<p+c) (fun i H=>by
      rcases g6 i H with h|⟨y,T,rfl⟩
      ·have h':i<p:=h;show i<p+c;omega
      ·have:=d7 y T;show p+y.1<p+c;omega))
     have i0:List.range' c (ops.size-c)=[c] :=by rw[show ops.size-c=1 by omega];rfl
     rw[i0];obtain⟨g1,g2⟩:=a0
     have i8:(den S (.bin .eq (.un .len e) (.aR .i64 0))).Y=decide ((den S e).A.length=0):=by show((((den S e).A.length:Nat):Int)==0)=_;rw[du];simp
     refine Qo ho a7 d5 Q [] (fun f9 b a2 B=> ?_) (fun f9 a2 B=> ?_)
     ·have h3:=g1 (by rw[i8];exact decide_eq_true f9) (.bool b) (dh.2 ⟨_,rfl⟩);have e1:p+c+1=p+ops.size:=by omega
      rw[e1]at B;exact O .normal _ (p+ops.size) d _ v a2 L G1 (cM _ _) (fun i H=>(fo _ _ (by omega)).trans (V i H)) hd ⟨[],rfl⟩ h3 B
     ·have h3:=g2 (by rw[i8];exact decide_eq_false f9) (.bool false) (dh.2 ⟨_,rfl⟩);have e1:p+c+1=p+ops.size:=by omega
      rw[e1]at B;exact O .normal _ (p+ops.size) d _ v a2 L G1 (cM _ _) (fun i H=>(fo _ _ (by omega)).trans (V i H)) hd ⟨[],rfl⟩ h3 B
    ·exact a0.elim
   ·exact a0.elim
  ·rename_i c hx;exact h.elim
  split at h
  ·rename_i l3;exact h.elim
  split at h
  ·rename_i c hx;exact h.elim
  split at h
  ·rename_i c hx;obtain⟨rfl,f2,i9⟩:=Ot hx;have j7: ¬S0.fr:=fun g5=>by have:=c7.1 g5;rw[f2]at this;cases this
   have j6: ¬S0.wz:=fun g5=>by have:=c7.2 g5;rw[f2]at this;cases this
   obtain⟨S,r1,j3,V,a9,J,c2,a0⟩:=jK (MM:=fun i=>i<p) c 0 [] σ ρ h (by omega);rw[dM]at V;split at a0
   ·rename_i x a7;rw[dJ]at a7;obtain⟨o,ho,a7⟩:=a7;split at a0
    ·rename_i hc;simp only[aS]at hc;obtain⟨k9,a6⟩:=hc;obtain⟨h7,h2⟩:=a0;have f6:Pre x.k [den S x.e] :=h7 rfl;have k7:=h2 _ rfl;obtain⟨Y,r2,b4,f4,e6,c0,g0,k2⟩:=jK (MM:=fun i=>i<p+c+1) (ops.size-(c+1)) (c+1) [] _ _ k7 (by omega)
     have b1: ∀(i:Nat) (o:Tbc) (dd:Nat),ops[i]? =some o->o.dst=some dd->dd<N.n:=fun i o dd ho e2=>by have:=bY.1 a6 o (by simpa using Array.mem_of_getElem? ho);rw[e2]at this;simpa using this
     have d7: ∀y∈r1,y.1<c:=fun y T=>by
      have:y.1∈List.range' 0 c:=by rw[<-J];exact bn.2 ⟨y,T,rfl⟩
      rw[List.mem_range'_1]at this;omega
     have f5: ∀y∈r2,c+1<=y.1∧y.1<ops.size:=fun y T=>by
      have:y.1∈List.range' (c+1) (ops.size-(c+1)):=by rw[<-c0];exact bn.2 ⟨y,T,rfl⟩
      rw[List.mem_range'_1]at this;omega
     have c1:dL ⟨ρ,p,fun i=>i<p⟩ w G ⟨S,p+c,fun i=>i<p⟩ w G:=
      ⟨fun e he=>⟨dO V he,E.mR (cM _ _) he⟩,fun _ h=>h,fun _ _ h=>h,fun _ _ _=>rfl,fun _ _=>rfl,fun _ _=>rfl⟩
     have d9:oc N.P N.cs ops p N.n S0 ⟨S,p+c,fun i=>i<p⟩ Φ Pre r1:=
      ⟨b7,c2,fun y T=>by have:=d7 y T;show p+y.1<p+c;omega,b1,c7⟩
     refine WP.region A ?_
     have a8:List.range ops.size=r1.map (·.1)++(c::(r2.map (·.1)++[])):=by rw[J,c0,cN,List.range_eq_range'];have h1:c::List.range' (c+1) (ops.size-(c+1))=List.range' c (ops.size-(c+1)+1):=List.range'_succ.symm;have h2:=List.range'_append_1 (s:=0) (m:=c) (n:=ops.size-(c+1)+1);rw[ao]at h2;rw[h1,h2];congr 1;omega
     rw[a8]
     refine kD _ a9 d9 (M.ir c1) (by rw[J];exact List.nodup_range') (fun y T h=>by have h':p+y.1<p:=h;omega) ?_
     intro a1 L G1 M1 g6 c6
     have d5:=c6.ir (dL.Jc ⟨S,p+c,M1⟩ L G1 (M':=fun i=>i<p+c) (fun i H=>by
      rcases g6 i H with h|⟨y,T,rfl⟩
      ·have h':i<p:=h;show i<p+c;omega
      ·have:=d7 y T;show p+y.1<p+c;omega))
     have d3:=PU (ops:=ops) a7 b7 d5 f6 k1 j7 j6 (wpOps N.P ops Q (r2.map (·.1)++[])) Q (fun a2 w2 G2 B=>by
      have f8:dL ⟨fD S (p+c) (Φ x.k [den S x.e]),p+c+1,fun i=>i<p+c+1⟩ w2 G2 ⟨Y,p+ops.size,fun i=>i<p+c+1⟩ w2 G2:=
       ⟨fun e he=>⟨dO (fun i H=>f4 i (by show i<p+(c+1);have:i<p+c+1:=H;omega)) he,E.mR (by show p+c+1<=p+ops.size;omega) he⟩,fun _ h=>h,fun _ _ h=>h,fun _ _ _=>rfl,fun _ _=>rfl,fun _ _=>rfl⟩
      have i1:oc N.P N.cs ops p N.n S0 ⟨Y,p+ops.size,fun i=>i<p+c+1⟩ Φ Pre r2:=
       ⟨b7,g0,fun y T=>by have:=f5 y T;show p+y.1<p+ops.size;omega,b1,c7⟩
      refine kD _ e6 i1 (B.ir f8) (by rw[c0];exact List.nodup_range') (fun y T h=>by have h':p+y.1<p+c+1:=h;have:=f5 y T;omega) ?_
      intro a3 w3 G3 M3 k4 j4
      have h0:=j4.ir (dL.Jc ⟨Y,p+ops.size,M3⟩ w3 G3 (M':=fun i=>i<p+ops.size) (fun i H=>by
       rcases k4 i H with h|⟨y,T,rfl⟩
       ·have h':i<p+c+1:=h;show i<p+ops.size;omega
       ·have:=f5 y T;show p+y.1<p+ops.size;omega))
      show Q .normal a3 w3;refine O .normal b4 (p+ops.size) d Y v a3 w3 G3 (cM _ _) (fun i H=> ?_) hd ⟨[],rfl⟩ k2 h0;rw[f4 i (by omega),fo _ _ (by omega),V i H])
     simp only[wpOps,ho];rw[d3.1,if_pos rfl];exact .inl d3.2
    ·exact a0.elim
   ·exact a0.elim
  rw[List.range_eq_range']at h;obtain⟨f,r,z,j0,d6,f7,f3,hf⟩:=jK (MM:=fun i=>i<p) ops.size 0 [] σ ρ h (by omega);have j1: ∀i,i<p->f i=ρ i:=j0;have a5:r.map (·.1)=List.range ops.size:=by rw[List.range_eq_range'];exact f7
  rw[cX]at hf;split at hf
  ·rename_i hc
   ·simp only[aS]at hc;obtain⟨b2,a6⟩:=hc;have j9:=hf
    have c5: ∀x∈r,x.1<ops.size:=by
     intro x hx;have:x.1∈List.range ops.size:=by rw[<-a5];exact bn.2 ⟨x,hx,rfl⟩
     simpa using this
    have i5:dL ⟨ρ,p,fun i=>i<p⟩ w G ⟨f,p+ops.size,fun i=>i<p⟩ w G:=
     ⟨fun e he=>⟨dO j1 he,E.mR (cM _ _) he⟩,fun _ h=>h,fun _ _ h=>h,fun _ _ _=>rfl,fun _ _=>rfl,fun _ _=>rfl⟩
    have c6:=M.ir i5
    have e0:oc N.P N.cs ops p N.n S0 ⟨f,p+ops.size,fun i=>i<p⟩ Φ Pre r:=
     ⟨b7,f3,
      fun x hx=>by have:=c5 x hx;show p+x.1<p+ops.size;omega,
      fun i o d ho e2=>by have:=bY.1 a6 o (by simpa using Array.mem_of_getElem? ho);simpa [e2]using this,c7⟩
    have hM: ∀x∈r,¬(fun i=>i<p) (p+x.1):=fun x _ h=>by have h':p+x.1<p:=h;omega
    have i2:(r.map (·.1)).Nodup:=by rw[a5];exact List.nodup_range
    have j2: ∀a' w' G' M',(∀i,M' i->i<p∨ ∃x∈r,i=p+x.1)->gG N.n w0 S0 ⟨f,p+ops.size,M'⟩ G' z a' w'->Q .normal a' w':=by
     intro a' w' G' M' k5 W
     have B:=W.ir (dL.Jc ⟨f,p+ops.size,M'⟩ w' G' (M':=fun i=>i<p+ops.size) (fun i H=>by
      rcases k5 i H with h|⟨x,hx,rfl⟩
      ·show i<_;omega
      ·have:=c5 x hx;show p+x.1<_;omega))
     exact O .normal z (p+ops.size) d f v a' w' G' (cM _ _) j1 hd ⟨[],rfl⟩ j9 B
    cases draw with
    |false=>
     refine WP.region A ?_;rw[<-a5];exact Af d6 e0 c6 i2 hM j2
    |true=>
     simp only[Bool.not_true,Bool.false_or,aS]at b2;refine WP.H6 A i3 ?_;have l4:r.length=ops.size:=by have:=congrArg List.length a5;simpa using this
     refine HT ops.size d6 e0 c6.drew i2 hM b2.1 (by simp) ?_ (by omega) ?_ c5 ?_ ?_ j2
     ·intro j o ho hj;have k0:j<ops.size:=(aL.1 ho).1;simp[k0]at hj
     ·intro i H;rw[a5];simp[H]
     ·intro j8;exact AH b2.2 (by simp) (r:=r.map (·.1)) (fun i H=>by rw[a5];simp[H]) (by simpa using j8) (fun x hx=>by obtain⟨y,T,rfl⟩:=bn.1 hx;exact c5 y T)
     ·intro l r' h1 _ h3 h4 h5;exact AH b2.2 h1 h3 (by simpa using h4) (fun x hx=>by obtain⟨y,T,rfl⟩:=bn.1 hx;exact h5 y T)
  ·exact hf.elim
 |seq x y ihx ihy=>
  intro ro k σ p d ρ v Q w0 S0 X A h hd g O a w G M;have b9:gn (.seq x y)=true->gn x=true:=fun h=>by simp only[gn,aS]at h;exact h.1
  have d8:gn (.seq x y)=true->gn y=true:=fun h=>by simp only[gn,aS]at h;exact h.2
  refine WP.seq (ihx ro _ σ p d ρ v (Exit.then (WP ro N.P y Q) Q) w0 S0 X (A.sub b9 (fun _ _ h=>h)) h hd g ?_ a w G M);intro L S1 hg ex z p' d' f q a' w' G' F hp b6 hl ⟨l,U⟩ Z W;cases ex with
  |normal=>
   refine ihy ro k z p' d' f q Q L S1 hg.env (A.sub d8 (fun _ _ h=>h)) Z hl F ?_ a' w' G' W;intro w2 S2 e9 k8 b4 p2 d2 Y b5 a2 e5 G2 b0 j5 d0 e8 ⟨l2,BF⟩ IN B;exact O w2 S2 (hg.seq b9 d8 e9) k8 b4 p2 d2 Y b5 a2 e5 G2 b0 (by omega) (fun i H=>(d0 i (by omega)).trans (b6 i H)) e8 ⟨l2++l,by rw[BF,U,dN]⟩ IN B
  |exit i=>exact O L S1 (hg.sub b9) (.exit i) z p' d' f q a' w' G' F hp b6 hl ⟨l,U⟩ Z W
  |ret=>exact O L S1 (hg.sub b9) .ret z p' d' f q a' w' G' F hp b6 hl ⟨l,U⟩ Z W
 |cond c x y ihx ihy=>
  intro ro k σ p d ρ v Q w0 S0 X A h hd g O a w G M;have b9:gn (.cond c x y)=true->gn x=true:=fun h=>by simp only[gn,aS]at h;exact h.1
  have d8:gn (.cond c x y)=true->gn y=true:=fun h=>by simp only[gn,aS]at h;exact h.2
  have c4: ∀e,Nj σ N.P c=some e-> ∃b,a.eval c= .bool b∧den ρ e= .bool b:=by
   intro e he;unfold Nj at he;split at he
   ·rename_i e' k3;injection he with he;subst he;obtain⟨_,h2,h3⟩:=dR M.t (pc:=[]) rfl k3;obtain⟨b,hb⟩:=dh.1 h3;exact⟨b,(hb▸h2).gS,hb⟩
   ·cases he
  have g8:=fun h=>ihx ro k σ p d ρ v Q w0 S0 X (A.sub b9 (fun _ _ h=>h)) h hd g (fun L S1 hg=>O L S1 (hg.sub b9)) a w G M;have g7:=fun h=>ihy ro k σ p d ρ v Q w0 S0 X (A.sub d8 (fun _ _ h=>h)) h hd g (fun L S1 hg=>O L S1 (hg.sub d8)) a w G M;simp only[vc]at h;split at h
  ·rename_i e4;obtain⟨b,b8,a4⟩:=c4 _ e4;simp only[den,D.bool.injEq]at a4;subst a4;exact WP.cond b8 (g8 h)
  ·rename_i e4;obtain⟨b,b8,a4⟩:=c4 _ e4;simp only[den,D.bool.injEq]at a4;subst a4;exact WP.cond b8 (g7 h)
  ·rename_i e _ _ e4;obtain⟨b,b8,a4⟩:=c4 _ e4;split at h
   ·rename_i g3;have:=E8 (ρ:=ρ) g3;rw[a4]at this;simp only[D.Y]at this;subst this;exact WP.cond b8 (g8 h)
   ·rename_i g3;have:=E8 (ρ:=ρ) g3;rw[a4]at this;simp only[D.Y]at this;subst this;exact WP.cond b8 (g7 h)
   split at h
   ·obtain⟨h1,h2⟩:=h;cases b with
    |true=>exact WP.cond b8 (g8 (h1 (by rw[a4];rfl)))
    |false=>exact WP.cond b8 (g7 (h2 (by rw[a4];rfl)))
   ·exact h.elim
  ·exact h.elim
 |block i c ih=>
  intro ro k σ p d ρ v Q w0 S0 X A h hd g O a w G M;refine WP.block (ih ro _ σ p d ρ v (Exit.inBlock i Q) w0 S0 X (A.sub (fun h=>h) (fun _ _ h=>h)) h hd g ?_ a w G M);intro L S1 hg ex z p' d' f q a' w' G' F hp b6 hl U Z W;have f0:oW N Φ Pre (.block i c) w0 S0 L S1:=oW.sub (x:=c) (fun h=>h) hg;cases ex with
  |normal=>exact O L S1 f0 .normal z p' d' f q a' w' G' F hp b6 hl U Z W
  |ret=>exact O L S1 f0 .ret z p' d' f q a' w' G' F hp b6 hl U Z W
  |exit j=>
   simp only at Z;show(if j=i then Q .normal a' w' else Q (.exit j) a' w');by_cases hj:j=i
   ·rw[if_pos hj]at Z⊢;exact O L S1 f0 .normal z p' d' f q a' w' G' F hp b6 hl U Z W
   ·rw[if_neg hj]at Z⊢;exact O L S1 f0 (.exit j) z p' d' f q a' w' G' F hp b6 hl U Z W
 |loop c ih=>
  intro ro k σ p d ρ v Q w0 S0 X A h hd g O a w G M;simp only[vc]at h;split at h
  ·exact h.elim
  rename_i h9
  have h8:N.TY=[] ∨gn c=true:=by
   simp only[aS,ff,not_and,Bool.not_eq_false]at h9;cases hq:N.TY with
   |nil=>exact .inl rfl
   |cons x r=>exact .inr (h9 (by rw[hq];rfl))
  split at h
  ·rename_i es i7;obtain⟨I,m,k6,e7⟩:=h;have e0:=KR N.n (((iX c).bind (lk N.Bk)).getD {}) ((((iX c).bind (lk N.Bk)).getD {}).own.map (·.1)++assigned c) σ p;generalize hh:uf N.n (((iX c).bind (lk N.Bk)).getD {}) ((((iX c).bind (lk N.Bk)).getD {}).own.map (·.1)++assigned c) σ p=K at*;have d1:K.v0=p:=by rw[<-hh];rfl
   have f1: ∀{c9:List E} {f:Nat->D},c9.length=K.size->(∀(j:Nat) x e,K.iM[j]? =some x->c9[j]? =some e->Has (lI x.2.1 x.2.2) (den f e))->dn (.V (K.iM.map fun x=>lI x.2.1 x.2.2)) (c9.map (den f)):=by intro c9 f h1 h2;refine iQ (by simp[h1,Head.size]) fun j u x hj hx=> ?_;simp only[ab,cU]at hj hx;obtain⟨y,T,rfl⟩:=hj;obtain⟨e,he,rfl⟩:=hx;exact h2 j y e T he
   obtain⟨q1,q2,G1,q3⟩:=E9 M e0 i7 (ρ0:=ρ) (fun _ _=>rfl) (fun i b H=>by rw[d1];exact g i b H);rw[d1]at q3
   refine WP.loop (fun kk a' w'=> ∃L S1 xs G',oW N Φ Pre (.loop c) w0 S0 L S1∧(∀i b,S1.pK i=some b->i<p)∧dn (.V (K.iM.map fun x=>lI x.2.1 x.2.2)) xs∧I xs∧m xs=kk∧gG N.n L S1 ⟨fZ ρ p xs,p+K.size,fun i=>i<p+K.size⟩ G' K.st a' w') _
    ⟨w0,S0,es.map (den ρ),G1,oW.refl X,g,f1 q1 q2,k6,rfl,q3⟩ ?_
   rintro kk a' w' ⟨L,S1,xs,G',Ra,Sn,T5,hI,rfl,W⟩;refine ih ro _ K.st (p+K.size) (d+1) (fZ ρ p xs) _ (Exit.then (fun a' w'=> ∃n',n'<m xs∧ ∃L S1 xs G',oW N Φ Pre (.loop c) w0 S0 L S1∧(∀i b,S1.pK i=some b->i<p)∧dn (.V (K.iM.map fun x=>lI x.2.1 x.2.2)) xs∧I xs∧m xs=n'∧gG N.n L S1 ⟨fZ ρ p xs,p+K.size,fun i=>i<p+K.size⟩ G' K.st a' w') Q) L S1 Ra.env (A.sub (fun h=>h) (fun _ _ h=>h)) (e7 xs T5 hI) (by simp[hd]) (fun i b H=>av (Sn i b H) (cM _ _)) ?_ a' w' G' W;intro w2 S2 e9 ex b4 p2 d2 Y b5 a2 e5 G2 b0 j5 d0 e8 ⟨l2,BF⟩ IN B;have b3: ∀i,i<p->Y i=ρ i:=fun i H=>(d0 i (by omega)).trans (Ji H);have e3:oW N Φ Pre (.loop c) w0 S0 w2 S2:=Ra.seq (x:=.loop c) (y:=c) (fun h=>h) (fun h=>h) e9;cases ex with
   |normal=>
    simp only at IN;split at IN
    ·rename_i c9 g4
     have i4:l2.length=d2-1-d:=by have:=congrArg List.length BF;simp only[ah,bu]at this;omega
     have i6:b5[d2-1-d]? =some (fun ys=>I ys∧m ys<m xs):=by rw[BF,<-i4,aN (bf _),Nat.sub_self];rfl
     simp only[VC.holds,i6]at IN;obtain⟨l6,h6⟩:=B.Eu K.iM;have d4: ∀i b,S2.pK i=some b->i<p:=by rw[(e9.same h8).2];exact Sn
     obtain⟨r1,r2,G3,r3⟩:=E9 h6 e0 g4 (ρ0:=ρ) (fun i H=>by rw[d1]at H;exact(b3 i H).symm) (fun i b H=>by rw[d1];exact d4 i b H);rw[d1]at r3;exact⟨_,IN.2,w2,S2,c9.map (den Y),G3,e3,d4,f1 r1 r2,IN.1,rfl,r3⟩
    ·exact IN.elim
   |exit i=>exact O w2 S2 e3 (.exit i) b4 p2 d2 Y b5 a2 e5 G2 b0 (by omega) b3 e8 ⟨l2++[fun ys=>I ys∧m ys<m xs],by rw[BF];simp⟩ IN B
   |ret=>exact O w2 S2 e3 .ret b4 p2 d2 Y b5 a2 e5 G2 b0 (by omega) b3 e8 ⟨l2++[fun ys=>I ys∧m ys<m xs],by rw[BF];simp⟩ IN B
  ·exact h.elim
 |_=>intro ro k σ p d ρ v Q w0 S0 X A h;exact h.elim
def EB{N:En}{Φ:Taa}{Pre:eN}{R:D->Prop}(t:N.P.follows .mixedOrders=true)(u: ∀k j,lk N.cs.l k=some j->bj N.P k j (Pre k) (Φ k))(J: ∀k j M,lk N.cs.l k=some j->j.ob=some M->M.wy=true-> ∀b o,S0.jw b o-> ¬ji w0 S0 b)(K:Gl N.P N.cs S0 Φ Pre)(I: ∀k y,lk N.fw k=some y->Dp N.P k y.1 y.2 (fun _=>True) (Φ k))(A: ∀k y,lk N.wl k=some y->HQ N.P k y.1 y.2)(z:N.cs.fr=2->(∀b o,¬S0.jw b o)∧S0.wz)(F:N.TY=[]):
  ∀(c:Code) (k:Ex->St->Nat->Nat->VC) (σ:St) (p d:Nat) (ρ:Nat->D) (g:List (Taf->Prop)) (Q:HP),(vc N c k σ p d).holds Φ Pre R ρ g->g.length=d->(∀i b,S0.pK i=some b->i<p)->
  (∀ex m q v f e a w G,p<=q->(∀i,i<p->f i=ρ i)->e.length=v->(∃l,e=l++g)->(k ex m q v).holds Φ Pre R f e->gG N.n w0 S0 ⟨f,q,fun i=>i<q⟩ G m a w->Q ex.to a w)->
  ∀a w G,gG N.n w0 S0 ⟨ρ,p,fun i=>i<p⟩ G σ a w->c.wp N.P Q a w:=by intro c k σ p d ρ g Q h X s V a w G S;refine Kh t u I A (fun k y h=>by rw[F]at h;cases h) c none k σ p d ρ g Q w0 S0 ⟨J,K,z,fun h=>absurd F h⟩ (fun h=>by cases h) h X s ?_ a w G S;intro w1 S1 W ex m q v f e Y O Z _ T x U E H r;obtain⟨B,L⟩:=W.same (.inl F);rw[B,L]at r;exact V ex m q v f e Y O Z T x U E H r
end
def r9(P:Tap)(σ:St):ResultVar->Tao (Bool×List SC)
 |.tmp t=>match σ.tm t with
  |some ([],.one c)=>if c.scalar then some (false,[c]) else none
  |some ([],.agg l)=>some (true,l)
  |_=>none
 |.cell t T=>match σ.tm t with
  |some ([],.one (.pJ id 0))=>match σ.hp id with
   |some (_,cs)=>if(mapOf cs).isSome then none else if iR P T then(if iv P T=some cs.length then some (true,cs) else none)
     else(match cs with| [c] =>if(P.underlying T).isSome then some (false,[c]) else none|_=>none)
   |none=>none
  |_=>none
def vh(σ:St)(r:Bool×List bB)(c:Bool×List SC):Tao (E×kS):=
 if r.1=c.1 then match gv σ r.2 c.2 with
  |some (es,l)=>if r.1 then some (.un .agg (.V es),l) else match es with| [e] =>some (e,l)|_=>none
  |none=>none
 else none
def jl(P:Tap)(σ:St):List (Bool×List bB)->List ResultVar->Tao (List E×kS)
 | [],[] =>some ([],[])
 |r::rs,x::xs=>match (r9 P σ x).bind (vh σ r),jl P σ rs xs with
  |some (e,l),some (es,ls)=>some (e::es,l++ls)
  |_,_=>none
 |_,_=>none
def IV(P:Tap)(b:dH)(fn:Func)(σ:St):VC:=
 match jl P σ b.res fn.results.toList with
 |some (es,l)=>if oY l then(match b.res,es with| [_],[e] =>.ret e|_,es=>.ret (.un .eS (.V es))) else .stuck 10
 |none=>.stuck 11
def me(a:Act):ResultVar->Sem Tan
 |.tmp t=>pure (a.tmps.getD t undef)
 |.cell p t=>do loadVar t (<-asAddr (a.tmps.getD p undef))
def Gy:Tac->Tan
 | [v] =>v
 |vs=>.tuple vs.toArray
def St.start(ps:Tal):St:=⟨fun t=>match ps[t]? with|some ty=>some ([],.one (.gz (.var t) ty))|none=>none,fun _=>none,fun _=>none⟩
section
variable{P:Tap}{C:Cx}{w w0:Tam}{S0:gJ}{G:Gh}{σ:St}{a:Act}{n:Nat}
def H4{L:kS}(B:eW w0 S0 C G σ w)(A:(L.map (·.1)).Nodup){r:Bool×List bB}{c:Bool×List SC}{e:E}{l:kS}{v:Tan}(h:vh σ r c=some (e,l))(b:lG C w G c v)(F: ∀x∈l,x∈L):
  gl w 0 G.S (pq G L) r v (den C.ρ e):=by
 unfold vh at h;split at h
 ·rename_i f;split at h
  ·rename_i J M d;unfold lG at b;unfold gl;cases hr1:r.1 with
   |true=>
    rw[<-f,hr1]at b;simp only[hr1,if_true]at b h⊢;obtain⟨rfl,rfl⟩:=iD h;obtain⟨H,rfl,o⟩:=b;obtain⟨m,t,k⟩:=jL B A d o F;refine⟨H,J.map (den C.ρ),rfl,by simp only[den,fX,U.den,D.A],t,by simp[m],fun i x u y g j z=> ?_⟩;simp only[ab,cU]at z;obtain⟨e,I,rfl⟩:=z;exact k i x u e g j I
   |false=>
    rw[<-f,hr1]at b;simp only[hr1,ai,if_false]at b h⊢;split at h
    ·rename_i K;obtain⟨rfl,rfl⟩:=iD h;obtain⟨N,s,q⟩:=b;rw[s]at d
     obtain⟨m,t,k⟩:=jL B A d (vs:=[v]) ⟨rfl,fun i c u p j=>by
      cases i with
      |zero=>simp at p j;subst p;subst j;exact q
      |succ i=>simp at p⟩ F
     obtain⟨x,g⟩:=bJ.1 m.symm;exact⟨x,g,k 0 x v K (by rw[g];rfl) rfl rfl⟩
    ·cases h
  ·cases h
 ·cases h
def Fs{x:ResultVar}{c:Bool×List SC}(p:gG n w0 S0 C G σ a w)(h:r9 P σ x=some c):
  ∃v,(me a x).run P w= .ok v w∧lG C w G c v:=by
 unfold r9 at h;split at h
 ·rename_i t;split at h
  ·rename_i F g;split at h
   ·injection h with h;subst h;obtain⟨v,k,_,_,e⟩:=p.t t _ _ g;simp only[aU,bQ,if_true]at e;refine⟨v,by simp[me,k],?_⟩;unfold lG;simp only[ai,if_false];exact⟨_,rfl,e⟩
   ·cases h
  ·rename_i l g;injection h with h;subst h;obtain⟨v,k,_,_,e⟩:=p.t t _ _ g;simp only[aU,bQ,if_true]at e;refine⟨v,by simp[me,k],?_⟩;unfold lG;simp only[if_true];exact e
  ·cases h
 ·rename_i t T;split at h
  ·rename_i id g;obtain⟨v,k,_,_,e⟩:=p.t t _ _ g;simp only[aU,bQ,if_true]at e;obtain⟨_,rfl⟩:=e;split at h
   ·rename_i I J y;obtain⟨_,_,i,_⟩:=p.m.box _ _ _ y;split at h
    ·cases h
    rename_i s;obtain⟨o,H,D,q⟩:=i.cells (by simpa using s);have d: ∀j,w.cell? ⟨G.β id,j,none⟩=o[j]? :=by intro j;rw[cell_of_row w _ j _ H _ D];simp
    have b: ∀{u:Tan},(Instr.loadAt T (.pointer (some ⟨G.β id,0,none⟩))).run P w= .ok u w->(do loadVar T (<-asAddr (a.tmps.getD t undef)):Sem Tan).run P w= .ok u w:=by
     intro u B;have E:a.tmps.getD t undef= .pointer (some ⟨G.β id,0,none⟩):=by simp[k]
     rw[E];simpa [Instr.loadAt,Instr.sureAddr,asAddr]using B
    split at h
    ·rename_i z;split at h
     ·rename_i r;injection h with h;subst h;refine⟨.agg o.toArray,b (jN r z q.1 (fun j v A=>by rw[ao,d];exact A)),?_⟩;unfold lG;simp only[if_true];exact⟨o,rfl,q⟩
     ·cases h
    ·rename_i z;split at h
     ·rename_i F;split at h
      ·rename_i f;injection h with h;subst h;obtain⟨u,rfl⟩: ∃u,o=[u] :=bJ.1 q.1;refine⟨u,b (mU (by simpa using z) f (by rw[d];rfl)),?_⟩;unfold lG;simp only[ai,if_false];exact⟨_,rfl,q.2 0 _ u rfl rfl⟩
      ·cases h
     ·cases h
   ·cases h
  ·cases h
def qv{L:kS}(k:gG n w0 S0 C G σ a w)(q:(L.map (·.1)).Nodup): ∀{b:List (Bool×List bB)} {xs:List ResultVar} {es:List E} {l:kS},jl P σ b xs=some (es,l)->(∀x∈l,x∈L)->
  ∃d:Tac,(xs.mapM (m:=Sem) (me a)).run P w= .ok d w∧d.length=b.length∧es.length=b.length∧xs.length=b.length∧
   ∀(i:Nat) r v e,b[i]? =some r->d[i]? =some v->es[i]? =some e->gl w 0 G.S (pq G L) r v (den C.ρ e)
 | [],[],es,l,h,_=>by simp only[jl,aa,ae]at h;obtain⟨rfl,rfl⟩:=h;exact⟨[],by simp,rfl,rfl,rfl,by intro i r v e f;simp at f⟩
 | [],_::_,_,_,h,_=>by cases h
 |_::_,[],_,_,h,_=>by cases h
 |r::b,x::xs,es,l,h,hL=>by
  simp only[jl]at h;split at h
  ·rename_i e M I K p H;obtain⟨rfl,rfl⟩:=iD h;cases hc:r9 P σ x with
   |none=>simp[hc]at p
   |some c=>
    simp only[hc,ch]at p;obtain⟨v,F,D⟩:=Fs k hc;obtain⟨d,B,A,z,y,u⟩:=qv k q H (fun x g=>hL x (by simp[g]));refine⟨v::d,?_,by simp[A],by simp[z],by simp[y],fun i t s J f j o=> ?_⟩
    ·rw[List.mapM_cons,bg,F,bV,bg,B];rfl
    ·cases i with
     |zero=>simp at f j o;subst f;subst j;subst o;exact H4 k.m q p D (fun x g=>hL x (by simp[g]))
     |succ i=>exact u i t s J (by simpa using f) (by simpa using j) (by simpa using o)
  ·cases h
def rP{fn:Func}{vs:Tac}(h:(fn.results.toList.mapM (m:=Sem) (me a)).run P w= .ok vs w):
  (results fn a.tmps).run P w= .ok (Gy vs) w:=by
 have c:results fn a.tmps=(do
   let vs<-fn.results.mapM (me a)
   pure (if h:vs.size=1 then vs[0] else .tuple vs)):=by unfold results;rfl
 rw[c]
 have b:(fn.results.mapM (m:=Sem) (me a)).run P w= .ok vs.toArray w:=by have d:=Array.mapM_eq_mapM_toList (m:=Sem) (f:=me a) (xs:=fn.results);rw[d,Sem.run_map,h];rfl
 rw[bg,b,bV]
 match vs with
 | [] =>rfl
 | [v] =>rfl
 |_::_::_=>rfl
def mV: ∀{rs:List (Bool×List bB)} {xs:List ResultVar} {es:List E} {l:kS},jl P σ rs xs=some (es,l)->cK rs=l.map (·.1)
 | [],xs,es,l,h=>by
  cases xs<;>simp[jl]at h
  obtain⟨rfl,rfl⟩:=h;rfl
 |_::_,[],_,_,h=>by cases h
 |r::rs,x::xs,es,l,h=>by
  simp only[jl]at h;split at h
  ·rename_i b e;injection h with h;simp only[ae]at h;rw[<-h.2,ck,<-mV e];have:cK (r::rs)=(r.2.filterMap fun x=>x.2.map (·.1))++cK rs:=by simp[cK]
   rw[this];congr 1;cases Xw:r9 P σ x with
   |none=>simp[Xw]at b
   |some c=>
    simp only[Xw,ch]at b;unfold vh at b;split at b
    ·split at b
     ·rename_i d;split at b
      ·injection b with b;simp only[ae]at b;rw[<-b.2];exact mW d
      ·split at b
       ·injection b with b;simp only[ae]at b;rw[<-b.2];exact mW d
       ·cases b
     ·cases b
    ·cases b
  ·cases h
def pf: ∀{f:List (Bool×List bB)} {xs:List ResultVar} {es:List E} {l:kS},jl P σ f xs=some (es,l)-> ∀j g,(j,some g)∈l-> ∃z,σ.live g=some z
 | [],xs,es,l,h,j,g,d=>by cases xs<;>simp[jl]at h;obtain⟨rfl,rfl⟩:=h;simp at d
 |r::f,[],es,l,h,j,g,d=>by cases h
 |r::f,x::xs,es,l,h,j,g,d=>by
  simp only[jl]at h;split at h
  ·rename_i b i;injection h with h;simp only[ae]at h;rw[<-h.2]at d;rcases aI.1 d with d|d
   ·cases Xw:r9 P σ x with
    |none=>simp[Xw]at b
    |some c=>
     simp only[Xw,ch]at b;unfold vh at b;split at b
     ·split at b
      ·rename_i e;split at b
       ·injection b with b;simp only[ae]at b;rw[<-b.2]at d;exact mj e d
       ·split at b
        ·injection b with b;simp only[ae]at b;rw[<-b.2]at d;exact mj e d
        ·cases b
      ·cases b
     ·cases b
   ·exact pf i j g d
  ·cases h
def DD{f:Nat}{fn:Func}{c:Code}{p:dH}{a0:Taf->Prop}{B:Taf->D}(cs:mG)(fw wl:PG)(Φ:Taa)(Pre:eN)(Z:List (Nat×D4))(v:VC)(hf:P.funcs[f]? =some fn)(K:fn.body=some c)(a1:(fn.name== "runtime.NumGoroutine")=false)(a9:P.follows .mixedOrders=true)(c9:p.params.length<=fn.ntmps)(a8:p.ob=none)(a2:cs.mp=[] ∧cs.et=[])(b2: ∀k p,lk cs.l k=some p->bj P k p (Pre k) (Φ k))(J:cs.fr=0∧LU p.res=true∨cs.fr=1)(c2: ∀k y,lk fw k=some y->Dp P k y.1 y.2 (fun _=>True) (Φ k))(b6: ∀k y,lk wl k=some y->HQ P k y.1 y.2)(hv:vc ⟨P,cs,fn.ntmps,Z,fw,wl,[]⟩ c (fun ex σ _ _=>match ex with| .exit _=>.stuck 20|_=>IV P p fn σ) (St.start p.params) p.params.length 0=v)(hc: ∀ds,dn (.V p.params) ds->a0 ds->v.holds Φ Pre (fun d=>d=B ds) (fun i=>ds.getD i .top) []):bj P f p a0 B where
 enter args w:=by
  unfold callFunc;have d2:fn.body.isNone=false:=by rw[K];rfl
  have V:fn.name≠ "runtime.NumGoroutine" :=by simpa using a1
  simp[hf,K,V]
 y9 ob L0:=by rw[a8]at L0;cases L0
 GA ob L0:=by rw[a8]at L0;cases L0
 calls _ w S vs ds Bg hlen Ge T5 U6:=by
  have d1:ds.length=p.params.length:=by rw[fU T5,Ty.dq]
  refine calls_of_wp hf K ?_;have I:=hc ds T5 U6;rw[<-hv]at I
  refine EB (w0:=w) (S0:=⟨S,fun _=>False,fun _=>none,cs.fr=1,False,P,[]⟩) (N:=⟨P,cs,fn.ntmps,Z,fw,wl,[]⟩) a9 b2 (fun _ _ _ _ _ _ b o K=>by
   rintro(h|h)
   ·exact absurd (Bg b o K) (by show¬b<w.heap.size;have:w.heap.size<=b:=h;omega)
   ·exact h) ⟨fun h=>h,fun h=>h.elim,rfl,fun T kt h=>(by rw[show cs.mp=[] from a2.1]at h;cases h),fun k sg h=>(by rw[show cs.et=[] from a2.2]at h;cases h),fun k sg _ _ h=>(by rw[show cs.et=[] from a2.2]at h;cases h)⟩ c2 b6 (fun h=>by have:cs.fr=2:=h;omega) rfl c _ _ _ 0 _ [] _ I rfl (fun i b h=>(by cases h)) ?_ _ w ⟨S,fun _=>0,fun _=>.nilIface⟩ ?_
  ·intro ex b4 p' d' M a4 a' w' G' _ _ _ _ F Q
   have b3:(IV P p fn b4).holds Φ Pre (fun d=>d=B ds) M a4->a'.defers=[] ∧ ∃v,(results fn a'.tmps).run P w'= .ok v w'∧ ∃v0 S' τ,Ending.returned v= .returned v0∧Below w.heap.size w w'∧(∀b o,S b o->S' b o)∧(∀b o,S' b o->b<w'.heap.size)∧(∀b o,S' b o->S b o∨w.heap.size<=b)∧
     gU w' 0 S' τ p.res v0 (B ds)∧(∀j b,j∈cK p.res->(τ j).ownBlock=some b->w.heap.size<=b)∧(∀j k b,j∈cK p.res->k∈cK p.res->(τ j).ownBlock=some b->(τ k).ownBlock=some b->j=k)∧ ∀j,j∈cK p.res->Rb j=true->yl (fun b=>w.heap.size<=b) w' S' (τ j):=by
    intro F;refine⟨Q.defers,?_⟩;unfold IV at F;split at F
    ·rename_i es l A;split at F
     ·rename_i R;have X:=R;unfold oY at R;simp only[aS,bk]at R;obtain⟨d0,b7⟩:=R;have H:=pf A;obtain⟨us,h1,h2,h3,h4,h5⟩:=qv (L:=l) Q b7 A (fun x q=>q);refine⟨_,rP h1,_,G'.S,pq G' l,rfl,Q.m.below.to (fun _ h=>h),Q.m.jA,Q.m.dF,fun b o K=>(Q.m.gX b o K).imp (fun h=>h) (fun h=>h.elim (fun h=>h) (fun h=>h.elim)),?_,?_,?_,?_⟩
      ·split at F
       ·rename_i r e a7;have hd:den M e=B ds:=F;rw[a7]at h2 h5⊢;obtain⟨u,rfl⟩: ∃u,us=[u] :=bJ.1 h2;exact .inl ⟨r,rfl,by rw[<-hd];exact h5 0 r u e rfl rfl rfl⟩
       ·rename_i c7 _ d3 b8;have hd:den M (.un .eS (.V _))=B ds:=F
        have b0:p.res.length≠1:=by intro h;obtain⟨r,hr⟩:=bJ.1 h;obtain⟨e,he⟩:=bJ.1 (h3.trans h);exact b8 r e hr he
        have b9:Gy us= .tuple us.toArray:=by
         match us,h2 with
         | [],_=>rfl
         | [u],h2=>exact absurd h2.symm b0
         |_::_::_,_=>rfl
        rw[b9];refine .inr ⟨b0,us,c7.map (den M),rfl,by rw[<-hd];simp only[den,fX,U.den,D.A],h2,by simp[h3],fun i r u y hr hu hy=> ?_⟩;simp only[ab,cU]at hy;obtain⟨e,he,rfl⟩:=hy;exact h5 i r u e hr hu he
      ·intro j b hj K;rw[mV A]at hj;obtain⟨g,c0,c1⟩:=vi X hj K;obtain⟨z,hz⟩:=H _ _ c0;exact(Q.m.gh g z b hz c1).elim (fun h=>h) (fun h=>h.elim)
      ·intro j k b hj b1 c6 c5;rw[mV A]at hj b1;exact wU Q.m X H hj b1 c6 c5
      ·intro j hj c4;rcases J with J|J
       ·have:=bY.1 J.2 j hj;rw[c4]at this;cases this
       ·unfold pq;split
        ·exact(Q.m.fresh J _).XE fun b K=>K.elim (fun h=>h) (fun h=>h.elim)
        ·intro a n d4 hv;exact .inl (by cases hv;rfl)
     ·exact F.elim
    ·exact F.elim
   cases ex with
   |normal=>exact b3 F
   |ret=>exact b3 F
   |exit i=>exact F.elim
  ·refine⟨⟨gp.refl _ _,fun _ _ h=>h,fun _ _ _=>rfl,fun i b h=>(by cases h),fun i b h=>(by cases h),Bg,fun _ _ h=>.inl h,?_,?_,?_,?_,fun g x b q=>(by cases q),?_,?_,fun _ _=>yl.nilIface,fun h=>h.elim⟩,?_,?_,rfl⟩
   ·intro id x q;cases q
   ·intro id ro cs q;cases q
   ·intro i j x y q;cases q
   ·intro g e T t q;cases q
   ·intro g g' x y b q;cases q
   ·intro g id x y b q;cases q
   ·intro t c s O;simp only[St.start]at O;split at O
    ·rename_i ty W;obtain⟨rfl,rfl⟩:=iD O;have a6:t<p.params.length:=(aG.1 W).1;have a3:ds[t]? =some (ds[t]'(by omega)):=aQ _;have a5:vs[t]? =some (vs[t]'(by omega)):=aQ _;obtain⟨x,q,b5⟩:=cI T5 t ty (by rw[Ty.dq];exact W);rw[a3]at q;injection q with q;have Y:den (fun i=>ds.getD i .top) (.var t)=ds[t]'(by omega):=by show ds.getD t .top=_;exact gu a3
     refine⟨vs[t]'(by omega),?_,by simp,by simpa [SV.lt,SC.lt,E.lt]using a6,?_⟩
     ·rw[Array.getElem?_append_left (by simp;omega)];simp[a5]
     ·simp only[aU,bQ,if_true];refine⟨by simpa [E.lt]using a6,?_,?_⟩
      ·show ca w S _ (den (fun i=>ds.getD i .top) (.var t));rw[Y];exact Ge t _ _ a5 a3
      ·show Has ty (den (fun i=>ds.getD i .top) (.var t));rw[Y,q];exact b5
    ·cases O
   ·simp;omega
end
end Go.dI
