/- Part 3 of the proof of RaftLearns; no condition. -/
import Derived.Test.YtjhmkaninmgilaaS02
import Derived.Deep.LoopGhost
import Derived.Sort.LoopGhostIn
import Derived.RangeFuncNested
import Derived.OrdersIn
import Derived.Shelf.Sort.Plain
import Derived.Shelf.Slices.In.SortNone
import Derived.Shelf.Slices.CompactI
import Derived.Shelf.Slices.Clone
import Derived.Sort.OwnSortedInts
import Derived.Lib.OwnBridge
import Derived.ProofKit
import Derived.OpenShut
set_option linter.defProp false
set_option linter.unusedVariables false
set_option linter.unusedSimpArgs false
set_option maxHeartbeats 4000000
namespace Go.dF
open Go Go.RowKit
def WP(ro:Tak)(P:Tap)(c:Code)(Q:Iv)(a:Act)(w:Tam):Prop:=
 match ro with
 |none=>c.wp P Q a w
 |some l=>c.wpIn (Fence.wide.inRound l) 0 P Q a w
def tz:Op->Bool
 |.defer _=>true
 |_=>false
def gv:Code->Bool
 |.region _ ops _=>ops.toList.all fun o=> !tz o.op
 |.seq a b=>gv a&&gv b
 |.cond _ a b=>gv a&&gv b
 |.block _ c| .loop c=>gv c
 |.skip| .label _| .exit _| .ret=>true
 |_=>false
section
variable{P:Tap}{ro:Tak}{Q:Iv}{a:Act}{w:Tam}
def AR{l n:Nat}(h:(Fence.wide.inRound l).depth.isSome=true):1<=n:=by simp[Fence.wide]at h
def K3{o:Tbc}{l:Nat}{next:Act->Tae}{r:Result Next}(h:o.upon P a next Q r):o.uponIn (Fence.wide.inRound l) 0 P a next Q r:=by
 cases r with
 |ok x w'=>
  cases x<;>simp only[Oper.upon,Oper.uponIn]at h⊢<;>first
   |exact h
   |exact⟨AR,CallsIn.inRound l (callsIn_wide.2 h)⟩
   |exact⟨AR,fun c e _=>let ⟨v,b,d,s⟩:=h c e;⟨v,b,d,stepsIn_wide.2 s⟩⟩
 |halt x w'=>cases x<;>simp only[Oper.upon,Oper.uponIn]at h⊢<;>exact h
def Kc{o:Tbc}{l:Nat}{next:Act->Tae}(b:tz o.op=false)(h:o.wp P a w next Q):o.wpIn (Fence.wide.inRound l) 0 P a w next Q:=by refine⟨fun _ _=>trivial,?_⟩;rw[Oper.semAt_eq _ _ _ (fun c d=>by rw[d]at b;cases b)];exact K3 h
def vZ{ops:Tad}{l:Nat}(c:(ops.toList.all fun o=> !tz o.op)=true)(b:∀a w,¬Q .outgrown a w):∀(is:Tah) (a:Act) (w:Tam),wpOps P ops Q is a w->wpOpsIn (Fence.wide.inRound l) 0 P ops Q is a w
 |[],a,w,h=>h
 |i::is,a,w,h=>by
  simp only[wpOps,wpOpsIn]at h⊢;cases ho:ops[i]? with
  |none=>simp only[ho]at h;exact vZ c b is a w h
  |some o=>
   simp only[ho]at h⊢
   have e:tz o.op=false:=by have:=bY.1 c o (by simpa using Array.mem_of_getElem? ho);simpa using this
   split
   .rename_i d;rw[if_pos d]at h;rcases h with h|⟨_,j,g,h⟩
    .have f:o.wp P a w (wpOpsIn (Fence.wide.inRound l) 0 P ops Q is) Q:=Oper.wp_mono (fun a w h=>vZ c b is a w h) h;exact Kc e f
    exact absurd h (b _ _)
   rename_i d;rw[if_neg d]at h;exact⟨fun _ _=>trivial,vZ c b is _ _ h⟩
def wC{ops:Tad}{l:Nat}{j:Region.Mode}(f:(ops.toList.all fun o=> !tz o.op)=true)(d:∀a w,¬Q .outgrown a w):∀(b:Nat) (c:Tbd Bool) (a:Act) (w:Tam),wpAny P j ops Q b c a w->wpAnyIn (Fence.wide.inRound l) 0 P j ops Q b c a w
 |0,_,_,_,h=>h
 |b+1,c,a,w,h=>by
  refine⟨h.1,fun i k=>?_⟩;have e:=h.2 i k;unfold wpOp at e;unfold wpOpIn;cases ho:ops[i]? with
  |none=>simp only[ho]at e⊢;exact wC f d b _ _ _ e
  |some o=>
   simp only[ho]at e⊢
   have m:tz o.op=false:=by have:=bY.1 f o (by simpa using Array.mem_of_getElem? ho);simpa using this
   split
   .rename_i g;rw[if_pos g]at e;rcases e with e|⟨_,p,n,e⟩
    .exact Kc m (Oper.wp_mono (fun a w h=>wC f d b _ a w h) e)
    exact absurd e (d _ _)
   rename_i g;rw[if_neg g]at e;exact⟨fun _ _=>trivial,wC f d b _ _ _ e⟩
def KY(ro:Tak)(c:Code)(Q:Iv):Prop:=ro.isSome=true->gv c=true/\∀a w,¬Q .outgrown a w
def WP.skip(h:Q .normal a w):WP ro P .skip Q a w:=by
 cases ro with
 |none=>exact wp_skip h
 |some l=>exact wpIn_skip h
def WP.label{l:Nat}(h:Q .normal a w):WP ro P (.label l) Q a w:=by
 cases ro with
 |none=>exact wp_label h
 |some l=>exact wpIn_label h
def WP.exit{i:Nat}(h:Q (.exit i) a w):WP ro P (.exit i) Q a w:=by
 cases ro with
 |none=>exact wp_exit h
 |some l=>exact wpIn_exit h
def WP.ret(h:Q .ret a w):WP ro P .ret Q a w:=by
 cases ro with
 |none=>exact wp_ret h
 |some l=>exact wpIn_ret h
def WP.seq{x y:Code}(h:WP ro P x (Exit.then (WP ro P y Q) Q) a w):WP ro P (.seq x y) Q a w:=by
 cases ro with
 |none=>exact wp_seq h
 |some l=>exact wpIn_seq h
def WP.cond{c:Tbb}{x y:Code}{t:Bool}(b:a.eval c=.bool t)(h:WP ro P (if t then x else y) Q a w):WP ro P (.cond c x y) Q a w:=by
 cases ro with
 |none=>cases t with
  |true=>exact wp_cond_true b h
  |false=>exact wp_cond_false b h
 |some l=>exact wpIn_cond b h
def WP.block{i:Nat}{c:Code}(h:WP ro P c (Exit.inBlock i Q) a w):WP ro P (.block i c) Q a w:=by
 cases ro with
 |none=>exact wp_block h
 |some l=>exact wpIn_block h
def WP.loop{c:Code}(I:Nat->Act->Tae)(b:Nat)(h₀:I b a w)(round:∀n a w,I n a w->WP ro P c (Exit.then (fun f e=>∃d,d<n/\I d f e) Q) a w):WP ro P (.loop c) Q a w:=by
 cases ro with
 |none=>exact wp_loop_ghost I b h₀ round
 |some l=>exact wpIn_loop_ghost I b h₀ round
def WP.region{id:Nat}{ops:Tad}(b:KY ro (.region id ops false) Q)(h:wpOps P ops Q (List.range ops.size) a w):WP ro P (.region id ops false) Q a w:=by
 cases ro with
 |none=>exact wp_region h
 |some l=>
  obtain⟨d,c⟩:=b rfl;exact wpIn_region (vZ d c _ _ _ h)
def WP.IM{id:Nat}{ops:Tad}(c:KY ro (.region id ops true) Q)(b:P.follows .mixedOrders=true)(h:wpAny P .any ops Q ops.size (Array.replicate ops.size false) a {w with drawn:=w.drawn+1}):WP ro P (.region id ops true) Q a w:=by
 cases ro with
 |none=>exact wp_region_any b h
 |some l=>
  obtain⟨e,d⟩:=c rfl;exact wpIn_region_any b (wC e d _ _ _ _ h)
end
section
variable{C:Cx}{w w0 w1 w':Tam}{G:Gh}{S0 S1:gK}{σ:St}{a:Act}{n:Nat}
structure Ext(w0:Tam)(S0:gK)(w1:Tam)(S1:gK):Prop where
 below:gw S0.mu w0 w1
 mu:∀b,S1.mu b->jn w0 S0 b
 jG:∀b o,S0.jG b o->S1.jG b o
 NM:∀b o,S0.jG b o->w1.cell? ⟨b,o,none⟩=w0.cell? ⟨b,o,none⟩
 NL:∀b o,S1.jG b o->S0.jG b o\/jn w0 S0 b
 qq:∀i b,S0.qq i=some b->S1.qq i=some b
 VE:∀i b,S1.qq i=some b->S1.mu b->Hg w0 S0 b
 fr:S0.fr->S1.fr
 wz:S0.wz->S1.wz
 prog:S1.prog=S0.prog
def Ext.new(x:Ext w0 S0 w1 S1){b:Nat}(h:jn w1 S1 b):jn w0 S0 b:=by
 rcases h with h|h
 .exact .inl (aY x.below.size h)
 exact x.mu b h
def Ext.box(x:Ext w0 S0 w1 S1){b:Nat}(h:Hg w1 S1 b):Hg w0 S0 b:=by
 rcases h with h|⟨h,i,c⟩
 .exact .inl (aY x.below.size h)
 exact x.VE i b c h
def Ext.refl(w0:Tam)(S0:gK):Ext w0 S0 w0 S0:=⟨.refl _ _,fun _ h=>.inr h,fun _ _ h=>h,fun _ _ _=>rfl,fun _ _ h=>.inl h,fun _ _ h=>h,fun i _ c b=>.inr ⟨b,i,c⟩,id,id,rfl⟩
def Ext.block(x:Ext w0 S0 w1 S1){k:Nat}(c:k<w0.heap.size)(b:¬S0.mu k):¬S1.mu k:=by
 intro h;rcases x.mu k h with h|h
 .omega
 exact b h
def Ext.trans{d:Tam}{f:gK}(x:Ext w0 S0 w1 S1)(y:Ext w1 S1 d f):Ext w0 S0 d f where
 below:=⟨y.below.os.trans x.below.os,y.below.tape.trans x.below.tape,y.below.output.trans x.below.output,aY x.below.size y.below.size,fun k c e=>(y.below.block k (az c x.below.size) (x.block c e)).trans (x.below.block k c e)⟩
 mu b h:=x.new (y.mu b h)
 jG b o h:=y.jG b o (x.jG b o h)
 NM b o h:=(y.NM b o (x.jG b o h)).trans (x.NM b o h)
 NL b o h:=by
  rcases y.NL b o h with h|h
  .exact x.NL b o h
  exact .inr (x.new h)
 qq i b h:=y.qq i b (x.qq i b h)
 VE i b h1 h2:=x.box (y.VE i b h1 h2)
 fr h:=y.fr (x.fr h)
 wz h:=y.wz (x.wz h)
 prog:=y.prog.trans x.prog
end
def mark(r:Nat):Deferred:={target:=.collected r,args:=#[]}
structure Dfs(w0:Tam)(S0:gK):Prop where
 ex:∃ms:Tah,S0.YK=ms.map mark/\ms.Nodup/\∀r∈ms,w0.heap[r]?=some (.deferred (some []))/\¬S0.mu r
structure X1(P:Tap)(k:Nat)(fs:Tal)(et:Ty)(Pre:Taf->Prop)(Φ:Taf->D):Prop where
 enter:∀(args:Tbd Tan) (w:Tam),(callFunc k args).run P w=.ok (.enter k args) w
 calls:∀(w:Tam) (S:bE) (vs:Tac) (ds:Taf),(∀b o,S b o->b<w.heap.size)->vs.length=ds.length->(∀(i:Nat) v d,vs[i]?=some v->ds[i]?=some d->cg w S v d)->dx (.V fs) ds->Pre ds->
  ∀(l:Nat) (J:Nat->(Tai)->Tae) (Jx:Tae) (X0:Tai),
   (∀i X W W',J i X W->Below W.heap.size W W'->J i X W')->(∀W W',Jx W->Below W.heap.size W W'->Jx W')->(∀i X W,J i X W->∀b,X b->b<W.heap.size)->
   (∀i x v X W,J i X W->(Φ ds).A[i]?=some x->(∀(W':Tam) (S':bE),cg W' S' v x)->Has et x->
    YieldAt Fence.wide 0 P l #[v] W fun e W'=>
     (e=.returned (.bool true)/\(∃X',J (i+1) X' W'/\∀b,X' b->X b\/W.heap.size<=b)/\gw X W W'/\∀b o,S b o->W'.cell? ⟨b,o,none⟩=W.cell? ⟨b,o,none⟩)\/
     (e=.returned (.bool false)/\Jx W'))->
   J 0 X0 w->
   Calls P k (#[.func (.yield l) #[] #[]]++vs.toArray) w fun e W'=>(∃v,e=.returned v)/\((∃X,J (Φ ds).A.length X W')\/Jx W')
inductive VC where
 |kx (pc:dM) (e:E) (k:VC)
 |call (p f:Nat) (args:E) (pc:dM) (k:VC)
 |room (pc:dM) (e:E) (bytes:Nat) (k:VC)
 |branch (e:E) (t f:VC)
 |loop (v0:Nat) (es:List E) (GZ:Tal) (body:VC)
 |again (i:Nat) (es:List E)
 |ret (e:E)
 |any (p:Nat) (t:Ty) (k:VC)
 |Ym (p:Nat) (fs:List (E×E)) (k:VC)
 |range (v0 f:Nat) (args:E) (es:List E) (GZ:Tal) (et:Ty) (body done:VC)
 |stuck (why:Nat)
def VC.holds(Φ:Taa)(Pre:eN)(R:D->Prop):VC->(Nat->D)->List (Taf->Prop)->Prop
 |.kx pc e k,ρ,kV=>(bc ρ pc=true->(den ρ e).W=true)/\k.holds Φ Pre R ρ kV
 |.call p f args pc k,ρ,kV=>(bc ρ pc=true->Pre f (den ρ args).A)/\∀d,d=Φ f (den ρ args).A->k.holds Φ Pre R (fC ρ p d) kV
 |.room pc e bytes k,ρ,kV=>(bc ρ pc=true->(den ρ e).A.length<=maxLen/\(den ρ e).A.length*bytes<=140737488355328)/\k.holds Φ Pre R ρ kV
 |.branch e t f,ρ,kV=>((den ρ e).W=true->t.holds Φ Pre R ρ kV)/\((den ρ e).W=false->f.holds Φ Pre R ρ kV)
 |.loop v0 es GZ body,ρ,kV=>∃(I:Taf->Prop) (m:Taf->Nat),I (es.map (den ρ))/\∀b,dx (.V GZ) b->I b->body.holds Φ Pre R (fX ρ v0 b) ((fun c=>I c/\m c<m b)::kV)
 |.again i es,ρ,kV=>match kV[i]? with
  |some J=>J (es.map (den ρ))
  |none=>False
 |.ret e,ρ,_=>R (den ρ e)
 |.any p t k,ρ,kV=>∀d,Has t d->k.holds Φ Pre R (fC ρ p d) kV
 |.Ym p fs k,ρ,kV=>∀d,(∀x∈fs,(den (fC ρ p d) x.1).A.length=(den (fC ρ p d) x.2).A.length)->k.holds Φ Pre R (fC ρ p d) kV
 |.range v0 f args es GZ et body done,ρ,kV=>Pre f (den ρ args).A/\∃I:eN,I 0 (es.map (den ρ))/\
   (∀i x b,(Φ f (den ρ args).A).A[i]?=some x->Has et x->dx (.V GZ) b->I i b->body.holds Φ Pre R (fC (fX ρ v0 b) (v0+GZ.length) x) ((fun c=>I (i+1) c)::kV))/\
   ∀b,dx (.V GZ) b->I (Φ f (den ρ args).A).A.length b->done.holds Φ Pre R (fX ρ v0 b) kV
 |.stuck _,_,_=>False
inductive Ex where
 |normal
 |exit (i:Nat)
 |ret
def Ex.to:Ex->Exit
 |.normal=>.normal
 |.exit i=>.exit i
 |.ret=>.ret
def rT(q:Nat):Item->Bool
 |.Ju _ _=>false
 |.kx pc e=>pc.all (fun x=>x.1.lt q)&&e.lt q
 |.call p _ args pc=>p==q&&args.lt q&&pc.all fun x=>x.1.lt q
 |.room pc e _=>pc.all (fun x=>x.1.lt q)&&e.lt q
def xd:Nat->List (Nat×Item)->Bool
 |_,[]=>true
 |lo,(q,it)::r=>decide (lo<=q)&&rT q it&&xd (match it with| .call .. =>q+1|_=>q) r
def tw:List (Nat×Item)->VC->VC
 |[],k=>k
 |(_,.Ju _ _)::r,k=>tw r k
 |(_,.kx pc e)::r,k=>.kx pc e (tw r k)
 |(_,.call p f args pc)::r,k=>.call p f args pc (tw r k)
 |(_,.room pc e b)::r,k=>.room pc e b (tw r k)
def iZ:Code->Tak
 |.region id _ _=>some id
 |.seq a b=>match iZ a with|some i=>some i|none=>iZ b
 |.cond _ a b=>match iZ a with|some i=>some i|none=>iZ b
 |.block _ c| .loop c| .scope c=>iZ c
 |_=>none
def EX(σ:St)(x:Slot×Ty×Tao oQ):St:=
 match x with
 |(.tmp t,.ptr _,none)=>
  match σ.tm t with
  |some ([],.one (.qo id 0))=>
   match σ.hp id with
   |some (_,cs)=>match gZ cs with
    |some (ds,ts)=>⟨fC σ.tm t (some ([],.one (.gH (.un .qv (.V ds)) (.ptr (.V ts))))),fC σ.hp id (some (true,cs)),σ.live⟩
    |none=>σ
   |none=>σ
  |_=>σ
 |_=>σ
def Ff(l:List (Slot×Ty×Tao oQ))(σ:St):St:=l.foldl EX σ
def gQ.EX{w0:Tam}{S0:gK}{C:Cx}{G:Gh}{σ:St}{a:Act}{w:Tam}{n:Nat}(f:gQ n w0 S0 C G σ a w)(x:Slot×Ty×Tao oQ):∃B,gQ n w0 S0 C B (dF.EX σ x) a w:=by
 unfold dF.EX;split
 .rename_i t Z;split
  .rename_i id Q;split
   .rename_i X cs o;split
    .rename_i K W g;obtain⟨B,b,R,q,O,_⟩:=f.m.freeze o (jc g);refine⟨B,⟨R.congr rfl rfl,?_,f.sz,f.defers⟩⟩;have z:=f.t.later b;intro u c s h;by_cases k:u=t
     .subst k;simp only[dZ,aa,ah]at h;obtain⟨rfl,rfl⟩:=h;obtain⟨v,P,_,_,I⟩:=f.t u _ _ Q;obtain⟨_,_,r,_⟩:=f.m.box _ _ _ o;obtain⟨L,T,A,l⟩:=r.cells (jc g);obtain⟨H,F,Y,N,M⟩:=mj g l;have J:den C.ρ (.un .qv (.V K))=.ptr (K.map (den C.ρ)):=by simp only[den,gg,U.den,D.A]
      have y:v=.pointer (some ⟨G.β id,0,none⟩):=by have:bc C.ρ ([]:dM)=true:=rfl;rw[if_pos this]at I;exact I.2
      refine⟨v,P,by simp,by simpa [SV.lt,SC.lt,E.lt]using H,?_⟩;have:bc C.ρ ([]:dM)=true:=rfl;rw[if_pos this];refine⟨by simpa [E.lt]using H,?_,?_⟩
      .rw[J,y];refine .ptr _ L _ (by simp[F]) (fun i j=>q i (by simp[F,l.1]at j;exact j)) (fun i v j=>?_) (fun i v d j p=>?_)
       .rw[cell_of_row w _ i _ T _ A];simpa using j
       simp only[ab,dn]at p;obtain⟨e,V,rfl⟩:=p;exact(N i v e j V).keep b.S b.cell
      rw[J];exact kJ.2 (.inr ⟨_,rfl,M⟩)
     simp only[fu _ _ k]at h;exact z u c s h
    exact⟨G,f⟩
   exact⟨G,f⟩
  exact⟨G,f⟩
 exact⟨G,f⟩
def gQ.Ff{w0:Tam}{S0:gK}{C:Cx}{a:Act}{w:Tam}{n:Nat}:∀(l:List (Slot×Ty×Tao oQ)) {G:Gh} {σ:St},gQ n w0 S0 C G σ a w->∃b,gQ n w0 S0 C b (dF.Ff l σ) a w
 |[],G,_,h=>⟨G,h⟩
 |x::l,_,_,h=>by obtain⟨b,c⟩:=h.EX x;exact gQ.Ff l c
structure En where
 P:Tap
 cs:ni
 n:Nat
 BD:List (Nat×EH)
 fw:Qp
 wl:Qp
 US:List (Nat×(Tal×Ty)):=[]
def NR(σ:St)(P:Tap)(x:Tbb):Tao E:=
 match fA P σ [] x 0 with
 |some (e,.bool)=>some e
 |_=>none
def r5:dM->E
 |[]=>.fa true
 | [(e,true)]=>e
 |(e,true)::r=>.bin .and e (r5 r)
 |(e,false)::r=>.bin .and (.un .not e) (r5 r)
def rA(N:En)(ops:Tad)(b M:Nat)(c:List (Nat×jh)->St->VC):Tah->List (Nat×jh)->St->VC
 |[],acc,σ=>c acc σ
 |i::r,acc,σ=>
  match ops[i]? with
  |none=>.stuck 21
  |some o=>
   match xg N.P N.cs ops σ (b+i) o with
   |some e=>
    if e.tW.2.lt M&&xd (b+i) (e.items.map fun f=>(b+i,f)) then
     tw (e.items.map fun f=>(b+i,f)) (rA N ops b M c r (acc++[(i,e)]) (e.app σ))
    else .stuck (1000+i)
   |none=>
    match MA N.cs o with
    |some y=>
     match Yd N.P σ o y,ku (some true) N.P N.cs ops σ (b+i) o,ku (some false) N.P N.cs ops σ (b+i) o with
     |some x,some et,some ef=>
      if et.tW.2.lt M&&ef.tW.2.lt M&&x.args.lt (b+i) then
       .call (b+i) x.k x.args [] (.branch (KE (b+i)) (rA N ops b M c r (acc++[(i,ef)]) (ef.app σ)) (rA N ops b M c r (acc++[(i,et)]) (et.app σ)))
      else .stuck (5500+i)
     |_,_,_=>.stuck (2500+i)
    |none=>
    match guardOf ops σ o,(guardOf ops σ o).bind (fun d=>iQ N.P N.cs σ d o),ku (some true) N.P N.cs ops σ (b+i) o,ku (some false) N.P N.cs ops σ (b+i) o with
    |some d,some x,some et,some ef=>
     if et.tW.2.lt M&&ef.tW.2.lt M&&(d.all fun y=>y.1.lt (b+i))&&x.args.lt (b+i) then
      .branch (r5 d) (.call (b+i) x.k x.args [] (rA N ops b M c r (acc++[(i,et)]) (et.app σ))) (rA N ops b M c r (acc++[(i,ef)]) (ef.app σ))
     else .stuck (5000+i)
    |_,_,_,_=>.stuck (2000+i)
def Kv(ops:Tad):Nat->Nat->Bool
 |0,_=>false
 |f+1,t=>ops.any fun o=>o.dst==some t&&match o.op with
  |.fieldAddr _ (.tmp x) _=>Kv ops f x
  |.indexAddr .. =>true
  |_=>false
def Qu(ops:Tad):Bool:=decide (0<ops.size)&&match ops[ops.size-1]? with
 |some o=>match o.op with
  |.store _ (.tmp x) _=>Kv ops 10 x
  |_=>false
 |none=>false
def Ax(l:Qp)(o:Tbc):Bool:=match o.op with
 |.call {callee:=.value (.func k),.. }=>(lk l k).isSome
 |_=>false
def acN(N:En)(ops:Tad)(b:Bool):Tak:=
 if b||N.cs.fr !=0 then none else(List.range ops.size).find? fun c=>decide (c+2<ops.size)&&match ops[c]?,ops[c+2]? with
  |some o,some o2=>Ax N.fw o&&Ax N.wl o2
  |_,_=>false
def afU(o:Tbc):Bool:=match o.op with
 |.binOp .eql _ _ y _=>uT y
 |_=>false
def Ro(o:Tbc):Bool:=match o.op with
 |.store _ _ (.tmp _)=>true
 |_=>false
def acs(ops:Tad):Bool:=match ops[ops.size-1]? with
 |some o=>afU o
 |none=>false
def aaK(N:En)(ops:Tad):Bool:=match ops[ops.size-2]?,ops[ops.size-1]? with
 |some o,some o2=>Ax N.wl o&&Ro o2
 |_,_=>false
def DG(N:En)(ops:Tad)(b:Bool):Tao (Nat×Bool):=
 if b then none else
 if acs ops=true/\0<ops.size then some (ops.size-1,true)
 else if aaK N ops=true/\N.cs.fr=2/\1<ops.size then some (ops.size-2,false)
 else none
def ID{N:En}{ops:Tad}{d b:Bool}{c:Nat}(h:DG N ops d=some (c,b)):d=false/\(if b then c+1=ops.size else c+2=ops.size/\N.cs.fr=2):=by
 unfold DG at h;split at h
 .cases h
 rename_i f;refine⟨by simpa using f,?_⟩;split at h
 .rename_i e;simp only[aa,ah]at h;obtain⟨rfl,rfl⟩:=h;simp only[if_true];omega
 split at h
 .rename_i e;simp only[aa,ah]at h;obtain⟨rfl,rfl⟩:=h;simp only[aj,if_false];exact⟨by omega,e.2.1⟩
 cases h
def TF(N:En)(ops:Tad):Bool:=ops.toList.all fun o=>match o.dst with|some d=>decide (d<N.n)|none=>true
def KU(id:Nat)(σ:St)(i:Nat):St:=
 match σ.hp id with
 |some (false,cs)=>match cs[i]? with
  |some (.xo g u)=>match σ.live g with
   |some (e,_,u')=>if u'=u/\g.ex=true/\0<u.cells.length then⟨σ.tm,fC σ.hp id (some (false,cs.set i (.gH e (.list u)))),fun b=>if b=g then none else σ.live b⟩ else σ
   |none=>σ
  |_=>σ
 |_=>σ
def KR(σ:St)(t:Nat):St:=
 match σ.tm t with
 |some ([],.one (.qo id 0))=>match σ.hp id with
  |some (_,cs)=>(List.range cs.length).foldl (KU id) σ
  |none=>σ
 |_=>σ
def KT(N:En)(r:Nat)(σ:St):St:=if N.cs.fr==0 then(((lk N.BD r).getD {}).drop.filterMap fun x=>if 3000000<=x&&x<4000000 then some (x-3000000) else none).foldl KR σ else σ
def MG(N:En)(r:Nat)(σ:St):St:=(((lk N.BD r).getD {}).drop.filterMap fun x=>if 9000000000<=x then some (x-9000000000) else none).foldl (fun σ t=>EX σ (.tmp t,.ptr .nil,none)) σ
def Qf(x:Nat):Nat×Nat:=((x-4000000) % 1000,(x-4000000)/1000)
def splitAt(N:En)(r:Nat)(σ:St)(p:Nat):Tao (Nat×E×IntKind×Nat):=
 match ((lk N.BD r).getD {}).drop.find? (fun x=>4000000<=x&&x<5000000) with
 |some x=>match σ.tm (Qf x).1 with
  |some ([],.one (.gH e (.int kd)))=>if e.lt p then some ((Qf x).1,e,kd,(Qf x).2) else none
  |_=>none
 |none=>none
def yX(f:St->VC)(σ:St)(t:Nat)(e:E)(b:IntKind):Tah->VC
 |[]=>.stuck 9100
 |j::r=>.branch (.bin .eq e (.aZ b j)) (f (ES σ t (.gH (.aZ b j) (.int b)))) (yX f σ t e b r)
def Mv(σ:St)(id c:Nat)(cs:List SC)(x:SC):St:=⟨σ.tm,fC σ.hp id (some (false,cs.set c x)),σ.live⟩
def uQ(N:En)(r:Nat)(σ:St)(p:Nat):Tao (Nat×Nat×List SC×E×IntKind×Nat):=
 match ((lk N.BD r).getD {}).drop.find? (fun x=>5000000<=x&&x<9000000000) with
 |some x=>match σ.tm ((x-5000000) % 1000) with
  |some ([],.one (.qo id 0))=>match σ.hp id with
   |some (false,cs)=>match cs[(x-5000000)/100000]? with
    |some (.gH e (.int kd))=>if e.lt p then some (id,(x-5000000)/100000,cs,e,kd,((x-5000000)/1000) % 100) else none
    |_=>none
   |_=>none
  |_=>none
 |none=>none
def vW(f:St->VC)(σ:St)(id c:Nat)(cs:List SC)(e:E)(b:IntKind):Tah->VC
 |[]=>.stuck 9100
 |j::r=>.branch (.bin .eq e (.aZ b j)) (f (Mv σ id c cs (.gH (.aZ b j) (.int b)))) (vW f σ id c cs e b r)
def DH(N:En)(r p:Nat)(f:St->VC)(σ:St):VC:=
 match splitAt N r σ p with
 |some (t,e,kd,m)=>yX f σ t e kd (List.range m)
 |none=>match uQ N r σ p with
  |some (id,c,cs,e,kd,m)=>vW f σ id c cs e kd (List.range m)
  |none=>f σ
def Sy(N:En)(id:Nat)(ops:Tad)(b:Bool)(k:Ex->St->Nat->Nat->VC)(p d:Nat)(σ:St):VC:=
  match DG N ops b with
  |some (c,true)=>rA N ops p (p+c) (fun _ f=>match (ops[c]?).bind (VV N.P N.n (p+c) f) with
    |some (t,e)=>
     if TF N ops then .branch (.bin .eq (.un .len e) (.aZ .i64 0)) (.any (p+c) .bool (k .normal (ES f t (.gH (.var (p+c)) .bool)) (p+ops.size) d)) (.any (p+c) .bool (k .normal (ES f t (.gH (.fa false) .bool)) (p+ops.size) d))
     else .stuck 9001
    |none=>.stuck 9000) (List.range' 0 c) [] σ
  |some (c,false)=>.stuck 9004
  |none=>
  if N.cs.fr==2&&Qu ops then
   .stuck 7000
  else
  match acN N ops b with
  |some c=>.stuck 8000
  |none=>
  match MY N.P N.cs σ ops b with
  |some c=>rA N ops p (p+c) (fun _ f=>
    match (ops[c]?).bind (VG N.P N.cs N.n f) with
    |some x=>
     if x.e.lt (p+c)&&(ops.toList.all fun o=>match o.dst with|some d=>decide (d<N.n)|none=>true) then
      .call (p+c) x.k (.cons x.e .nil) [] (rA N ops p (p+ops.size) (fun _ g=>k .normal g (p+ops.size) d) (List.range' (c+1) (ops.size-(c+1))) [] (x.after f (p+c)))
     else .stuck 6001
    |none=>.stuck 6000) (List.range' 0 c) [] σ
  |none=>rA N ops p (p+ops.size) (fun r h=>
   if(!b||(qE ops r&&UL ops))&&(ops.toList.all fun o=>match o.dst with|some d=>decide (d<N.n)|none=>true) then k .normal h (p+ops.size) d
   else .stuck (1000+id)) (List.range ops.size) [] σ
def lQ:E->Tao Bool
 |.fa b=>some b
 |.un .not e=>(lQ e).map (!·)
 |.un .zr .gI=>some true
 |.bin .or a b=>match lQ a,lQ b with
  |some true,_=>some true
  |_,some true=>some true
  |some false,some false=>some false
  |_,_=>none
 |.bin .and a b=>match lQ a,lQ b with
  |some false,_=>some false
  |_,some false=>some false
  |some true,some true=>some true
  |_,_=>none
 |_=>none
def FV{ρ:Nat->D}:∀{e:E} {b:Bool},lQ e=some b->(den ρ e).W=b:=by
 intro e
 induction e with
 |fa b=>intro i h;simp only[lQ,aa]at h;subst h;rfl
 |un o e ih=>
  intro b h;cases o<;>try (simp only[lQ]at h;done)
  all_goals first
   |(simp only[lQ,dn]at h
     obtain⟨i,c,rfl⟩:=h;rw[show(den ρ (.un .not e)).W= !(den ρ e).W from rfl,ih c])
   |(cases e<;>simp only[lQ,aa,reduceCtorEq]at h
     subst h;rfl)
   |(simp[lQ]at h)
 |bin o x y Yf P4=>
  intro b h;have f:(den ρ (.bin .or x y)).W=((den ρ x).W||(den ρ y).W):=rfl;have g:(den ρ (.bin .and x y)).W=((den ρ x).W&&(den ρ y).W):=rfl;cases o<;>try (simp[lQ]at h;done)
  all_goals
   simp only[lQ]at h
   try rw[f]
   try rw[g]
   cases hx:lQ x with
   |none=>cases hy:lQ y with
    |none=>rw[hx,hy]at h;cases h
    |some by'=>
     rw[hx,hy]at h;have d:=P4 hy;cases by'<;>simp only[aa,reduceCtorEq]at h
     subst h;simp[d]
   |some bx=>cases hy:lQ y with
    |none=>
     rw[hx,hy]at h;have c:=Yf hx;cases bx<;>simp only[aa,reduceCtorEq]at h
     subst h;simp[c]
    |some by'=>
     rw[hx,hy]at h;have c:=Yf hx;have d:=P4 hy;cases bx<;>cases by'<;>simp only[aa,reduceCtorEq]at h<;>subst h<;>simp[c,d]
 |_=>intro b h;simp[lQ]at h
def vc(N:En):Code->(Ex->St->Nat->Nat->VC)->St->Nat->Nat->VC
 |.skip,k,σ,p,d=>k .normal σ p d
 |.label _,k,σ,p,d=>k .normal σ p d
 |.exit i,k,σ,p,d=>k (.exit i) σ p d
 |.ret,k,σ,p,d=>k .ret σ p d
 |.region id ops draw,k,σx,p,d=>
  DH N id p (Sy N id ops draw k p d) (MG N id (KT N id σx))
 |.seq a b,k,σ,p,d=>vc N a (fun ex σ p d=>match ex with| .normal=>vc N b k σ p d|e=>k e σ p d) σ p d
 |.cond c x y,k,σ,p,d=>
  match NR σ N.P c with
  |some (.fa true)=>vc N x k σ p d
  |some (.fa false)=>vc N y k σ p d
  |some e=>match lQ e with
   |some true=>vc N x k σ p d
   |some false=>vc N y k σ p d
   |none=>if e.lt p then .branch e (vc N x k σ p d) (vc N y k σ p d) else .stuck 1
  |none=>.stuck 2
 |.block i c,k,σ,p,d=>vc N c (fun ex σ p d=>match ex with| .exit j=>if j=i then k .normal σ p d else k (.exit j) σ p d|e=>k e σ p d) σ p d
 |.loop c,k,σ,p,d=>
  if !N.US.isEmpty&& !gv c then .stuck 35 else
  let h:=uN N.n (((iZ c).bind (lk N.BD)).getD {}) ((((iZ c).bind (lk N.BD)).getD {}).own.map (·.1)++assigned c) σ p
  match Fg N.n h σ with
  |some es=>.loop p es (h.iM.map fun x=>lU x.2.1 x.2.2) (vc N c (fun ex f l g=>match ex with
    |.normal=>match Fg N.n h (Ff h.iM f) with
     |some es'=>.again (g-1-d) es'
     |none=>.stuck (3000+p)
    |e=>k e f l g) h.st (p+h.size) (d+1))
  |none=>.stuck (4000+p)
 |_,_,_,_,_=>.stuck 3
def E.np{n m:Nat}(h:n<=m):∀{e:E},e.lt n=true->e.lt m=true:=by
 intro e
 induction e with
 |var i=>intro d;simp only[E.lt,bk]at d⊢;omega
 |aZ|fa|BC|gI|nil=>intro _;rfl
 |cons a b pX pW=>intro d;simp only[E.lt,aT]at d⊢;exact⟨pX d.1,pW d.2⟩
 |un o e ih=>intro d;exact ih d
 |bin o a b pX pW=>intro d;simp only[E.lt,aT]at d⊢;exact⟨pX d.1,pW d.2⟩
 |ite c a b KF pX pW=>intro d;simp only[E.lt,aT]at d⊢;exact⟨⟨KF d.1.1,pX d.1.2⟩,pW d.2⟩
def jV{ρ b:Nat->D}{n:Nat}(h:∀i,i<n->b i=ρ i){c:dM}(e:(c.all fun x=>x.1.lt n)=true):bc b c=bc ρ c:=by
 unfold bc;rw[bY]at e;rw[dJ,bY,bY];constructor
 .intro H x d;rw[<-dQ h (e x d)];exact H x d
 intro H x d;rw[dQ h (e x d)];exact H x d
def qP{Φ:Taa}{Pre:eN}{R:D->Prop}{k:VC}{o:List (Taf->Prop)}{N:Nat}{M:Tai}:∀{L:List (Nat×Item)} {lo:Nat} {ρ:Nat->D},xd lo L=true->(∀x∈L,x.1<N)->
  (tw L k).holds Φ Pre R ρ o->∃c,(∀i,i<lo->c i=ρ i)/\(∀x∈L,fc ⟨c,N,M⟩ Φ Pre x.2)/\k.holds Φ Pre R c o
 |[],lo,ρ,_,_,h=>⟨ρ,fun _ _=>rfl,by simp,h⟩
 |(q,it)::r,lo,ρ,hb,hN,h=>by
  simp only[xd,aT,bk]at hb;obtain⟨⟨H,d⟩,z⟩:=hb;have m:∀x∈r,x.1<N:=fun x j=>hN x (aK _ j);have F:q<N:=hN (q,it) (br ..);cases it with
  |Ju pc b=>simp[rT]at d
  |kx pc e=>
   obtain⟨u,t⟩:=h;obtain⟨c,l,y,v⟩:=qP (lo:=q) z m t;simp only[rT,aT]at d;refine⟨c,fun i B=>l i (by omega),fun x j=>?_,v⟩;rcases aH.1 j with rfl|j
   .exact⟨E.np (by show q<=N;omega) d.2,fun s=>by show(den c e).W=true;rw[dQ l d.2];exact u ((jV l d.1).symm.trans s)⟩
   exact y x j
  |call p f args pc=>
   obtain⟨u,t⟩:=h;simp only[rT,aT,beq_iff_eq]at d;obtain⟨⟨rfl,g⟩,A⟩:=d;obtain⟨c,l,y,v⟩:=qP (lo:=p+1) z m (t _ rfl);have agree:∀i,i<p->c i=ρ i:=fun i B=>(l i (by omega)).trans (fu _ _ (by omega));refine⟨c,fun i B=>agree i (by omega),fun x j=>?_,v⟩;rcases aH.1 j with rfl|j
   .refine⟨E.np (by show p<=N;omega) g,F,?_,fun s=>?_⟩
    .show c p=Φ f (den c args).A;rw[l p (by omega),dZ,dQ agree g]
    show Pre f (den c args).A;rw[dQ agree g];exact u ((jV agree A).symm.trans s)
   exact y x j
  |room pc e b=>
   obtain⟨u,t⟩:=h;obtain⟨c,l,y,v⟩:=qP (lo:=q) z m t;simp only[rT,aT]at d;refine⟨c,fun i B=>l i (by omega),fun x j=>?_,v⟩;rcases aH.1 j with rfl|j
   .exact⟨E.np (by show q<=N;omega) d.2,fun s=>by show(den c e).A.length<=maxLen/\(den c e).A.length*b<=_;rw[dQ l d.2];exact u ((jV l d.1).symm.trans s)⟩
   exact y x j
def vb{ρ:Nat->D}:∀{pc:dM},(den ρ (r5 pc)).W=bc ρ pc
 |[]=>rfl
 | [(e,true)]=>by simp[r5,bc]
 | [(e,false)]=>by simp[r5,bc,den,B.den,U.den,D.W]
 |(e,true)::x::r=>by have:=vb (ρ:=ρ) (pc:=x::r);show((den ρ e).W&&(den ρ (r5 (x::r))).W)=_;rw[this];simp[bc]
 |(e,false)::x::r=>by have:=vb (ρ:=ρ) (pc:=x::r);show(!(den ρ e).W&&(den ρ (r5 (x::r))).W)=_;rw[this];simp[bc]
def Bc:∀{L:List (Nat×Item)} {lo:Nat},xd lo L=true->∀x∈L,rT x.1 x.2=true
 |[],_,_,x,b=>by simp at b
 |(q,it)::r,lo,h,x,b=>by
  simp only[xd,aT]at h;rcases aH.1 b with rfl|b
  .exact h.1.2
  exact Bc h.2 x b
def Eo{Φ:Taa}{Pre:eN}{ρ d:Nat->D}{N q:Nat}{M:Tai}{it:Item}(h:fc ⟨ρ,N,M⟩ Φ Pre it)(j:rT q it=true)(l:∀i,i<q+1->d i=ρ i):fc ⟨d,N,M⟩ Φ Pre it:=by
 have c:∀i,i<q->d i=ρ i:=fun i u=>l i (by omega);cases it with
 |Ju pc b=>simp[rT]at j
 |kx pc e=>
  simp only[rT,aT]at j;refine⟨h.1,fun k=>?_⟩;show(den d e).W=true;rw[dQ c j.2];exact h.2 ((jV c j.1).symm.trans k)
 |call p f args pc=>
  simp only[rT,aT,beq_iff_eq]at j;obtain⟨⟨rfl,g⟩,m⟩:=j;obtain⟨t,s,r,o⟩:=h;refine⟨t,s,?_,fun k=>?_⟩
  .show d p=Φ f (den d args).A;rw[l p (by omega),dQ c g];exact r
  show Pre f (den d args).A;rw[dQ c g];exact o ((jV c m).symm.trans k)
 |room pc e b=>
  simp only[rT,aT]at j;refine⟨h.1,fun k=>?_⟩;show(den d e).A.length<=maxLen/\(den d e).A.length*b<=_;rw[dQ c j.2];exact h.2 ((jV c j.1).symm.trans k)
def jR{N:En}{Φ:Taa}{Pre:eN}{R:D->Prop}{ops:Tad}{f M:Nat}{MM:Tai}{F:List (Nat×jh)->St->VC}{kV:List (Taf->Prop)}:
  ∀(n s:Nat) (acc:List (Nat×jh)) (σ:St) (ρ:Nat->D),(rA N ops f M F (List.range' s n) acc σ).holds Φ Pre R ρ kV->f+s+n<=M->
   ∃(c:Nat->D) (r:List (Nat×jh)) (σ':St),(∀i,i<f+s->c i=ρ i)/\rP N.P N.cs ops f M r σ σ'/\r.map (·.1)=List.range' s n/\(∀x∈r,∀m∈x.2.items,fc ⟨c,M,MM⟩ Φ Pre m)/\(F (acc++r) σ').holds Φ Pre R c kV
 |0,s,acc,σ,ρ,h,_=>⟨ρ,[],σ,fun _ _=>rfl,.nil σ,rfl,by simp,by rw[dh];exact h⟩
 |n+1,s,acc,σ,ρ,h,hM=>by
  rw[List.range'_succ]at h⊢;simp only[rA]at h;split at h
  .exact h.elim
  rename_i o W;split at h
  .rename_i e p;split at h
   .rename_i H;simp only[aT]at H;obtain⟨t,V⟩:=H
    obtain⟨Z,a1,a2,a3⟩:=qP (N:=M) (M:=MM) V (fun x u=>by obtain⟨m,_,rfl⟩:=bq.1 u;show f+s<M;omega) h
    obtain⟨c,r,σ',v,O,L,K,J⟩:=jR n (s+1) _ _ Z a3 (by omega);refine⟨c,(s,e)::r,σ',fun i Q=>(v i (by omega)).trans (a1 i Q),.cons W ⟨none,p⟩ t O,by simp[L],?_,by simpa using J⟩;intro x u m d;rcases aH.1 u with rfl|u
    .have hm:(f+s,m)∈e.items.map fun m=>(f+s,m):=bq.2 ⟨m,d,rfl⟩;exact Eo (a2 _ hm) (Bc V _ hm) (fun i Q=>v i (by show i<f+(s+1);have:i<f+s+1:=Q;omega))
    exact K x u m d
   exact h.elim
  split at h
  .rename_i y A;split at h
   .rename_i x et ef u j l;split at h
    .rename_i H;simp only[aT]at H;obtain⟨⟨t,I⟩,g⟩:=H;obtain⟨k1,k2⟩:=h;obtain⟨Y,X⟩:=k2 _ rfl
     have S:∀(b:Bool) (e:jh),ku (some b) N.P N.cs ops σ (f+s) o=some e->e.tW.2.lt M=true->(den (fC ρ (f+s) (Φ x.k (den ρ x.args).A)) (KE (f+s))).W= !b->
       (rA N ops f M F (List.range' (s+1) n) (acc++[(s,e)]) (e.app σ)).holds Φ Pre R (fC ρ (f+s) (Φ x.k (den ρ x.args).A)) kV->
       ∃(c:Nat->D) (r:List (Nat×jh)) (σ':St),(∀i,i<f+s->c i=ρ i)/\rP N.P N.cs ops f M r σ σ'/\r.map (·.1)=s::List.range' (s+1) n/\(∀x∈r,∀m∈x.2.items,fc ⟨c,M,MM⟩ Φ Pre m)/\(F (acc++r) σ').holds Φ Pre R c kV:=by
      intro b e p a4 a5 hh;obtain⟨c,r,σ',v,O,L,K,J⟩:=jR n (s+1) _ _ _ hh (by omega);have ag:∀i,i<f+s->c i=ρ i:=fun i Q=>(v i (by omega)).trans (fu _ _ (by omega));refine⟨c,(s,e)::r,σ',ag,.cons W ⟨some b,p⟩ a4 O,by simp[L],?_,by simpa using J⟩;intro z hz m d;rcases aH.1 hz with rfl|hz
      .unfold ku at p;simp only[A]at p;split at p
       .cases p
       split at p
       .rename_i fs a9;rw[u]at p;simp only[aV,aa]at p;have B:e.items=[.Ju [(KE (f+s),!b)] true,.call (f+s) x.k x.args []]:=by rw[<-p];cases b<;>rfl
        rw[B]at d;have T:c (f+s)=Φ x.k (den ρ x.args).A:=by rw[v (f+s) (by omega),dZ]
        simp only[aH,cb,or_false]at d;rcases d with rfl|rfl
        .show bc c [(KE (f+s),!b)]=true;simp only[bc,List.all_cons,bX,Bool.and_true,beq_iff_eq,KE,den,T];rw[<-a5];simp only[KE,den,dZ]
        refine⟨E.np (by show f+s<=M;omega) g,by show f+s<M;omega,?_,fun _=>?_⟩
        .show c (f+s)=Φ x.k (den c x.args).A;rw[T,dQ ag g]
        show Pre x.k (den c x.args).A;rw[dQ ag g];exact k1 rfl
       cases p
      exact K z hz m d
     cases hb:(den (fC ρ (f+s) (Φ x.k (den ρ x.args).A)) (KE (f+s))).W with
     |true=>exact S false ef l I hb (Y hb)
     |false=>exact S true et j t hb (X hb)
    exact h.elim
   exact h.elim
  rename_i U;split at h
  .rename_i pc x et ef hg u j l;split at h
   .rename_i H;simp only[aT]at H;obtain⟨⟨⟨t,I⟩,a0⟩,g⟩:=H;obtain⟨Y,X⟩:=h;rw[vb]at Y X;have agree:∀c:Nat->D,(∀i,i<f+s->c i=ρ i)->bc c pc=bc ρ pc:=fun c a6=>jV a6 a0;cases hb:bc ρ pc with
    |true=>
     obtain⟨k1,k2⟩:=Y hb;have k3:=k2 _ rfl;obtain⟨c,r,σ',v,O,L,K,J⟩:=jR n (s+1) _ _ _ k3 (by omega);have ag:∀i,i<f+s->c i=ρ i:=fun i Q=>(v i (by omega)).trans (fu _ _ (by omega));refine⟨c,(s,et)::r,σ',ag,.cons W ⟨some true,j⟩ t O,by simp[L],?_,by simpa using J⟩;intro y A m d;rcases aH.1 A with rfl|A
     .rw[hg,cq]at u;unfold ku at j;simp only[U,hg,u]at j;split at j
      .cases j
      injection j with j;rw[<-j]at d;simp only[aH,cb,or_false]at d;rcases d with rfl|rfl
      .show bc c pc=true;rw[agree c ag,hb]
      refine⟨E.np (by show f+s<=M;omega) g,by show f+s<M;omega,?_,fun _=>?_⟩
      .show c (f+s)=Φ x.k (den c x.args).A;rw[v (f+s) (by omega),dZ,dQ ag g]
      show Pre x.k (den c x.args).A;rw[dQ ag g];exact k1 rfl
     exact K y A m d
    |false=>
     obtain⟨c,r,σ',v,O,L,K,J⟩:=jR n (s+1) _ _ _ (X hb) (by omega);have ag:∀i,i<f+s->c i=ρ i:=fun i Q=>v i (by omega);refine⟨c,(s,ef)::r,σ',ag,.cons W ⟨some false,l⟩ I O,by simp[L],?_,by simpa using J⟩;intro y A m d;rcases aH.1 A with rfl|A
     .unfold ku at l;simp only[U,hg]at l;split at l
      .rename_i a8 a7 q _;injection q with q;subst q;injection l with l;rw[<-l]at d;simp only[aH,cb,or_false]at d;subst d;show bc c pc=false;rw[agree c ag,hb]
      cases l
     exact K y A m d
   exact h.elim
  exact h.elim
section
variable{w0:Tam}{S0:gK}{C:Cx}{G:Gh}{σ:St}{a:Act}{w:Tam}{n:Nat}
def gQ.drew(h:gQ n w0 S0 C G σ a w):gQ n w0 S0 C G σ a {w with drawn:=w.drawn+1}:=by
 have b:dS C w G C {w with drawn:=w.drawn+1} G:=⟨fun _ h=>⟨rfl,h⟩,fun _ h=>h,fun _ _ h=>h,fun _ _ _=>rfl,fun _ _=>rfl,fun _ _=>rfl⟩;refine⟨⟨h.m.below.drew,h.m.jI,h.m.keep,h.m.qq,h.m.lq,h.m.dT,h.m.gY,h.m.na,?_,h.m.inj,?_,h.m.gh,h.m.jA,h.m.eV,h.m.mX b rfl (fun _ _ _=>rfl) (fun _ _ h _=>h),h.m.wz⟩,h.t.later b,h.sz,h.defers⟩
 .intro id d l c;obtain⟨k,j,i,f⟩:=h.m.box id d l c;exact⟨k,j,i.later b rfl,f⟩
 intro g e T t c;exact(h.m.own g e T t c).later b (fun _ _=>rfl) (fun _ _ _ h=>h)
structure Wg(N:En)(Φ:Taa)(Pre:eN)(w0:Tam)(S0:gK):Prop where
 fl:∀k sig ob,lk N.cs.l k=some sig->sig.ob=some ob->ob.wW=true->∀b o,S0.jG b o->¬jn w0 S0 b
 cf:Hf N.P N.cs S0 Φ Pre
 wz:N.cs.fr=2->(∀b o,¬S0.jG b o)/\S0.wz
 YK:N.US≠[]->Dfs w0 S0
def Marks(w0:Tam)(S0 c:gK):Prop:=∃b:Tah,c.YK=b.map mark++S0.YK/\∀r∈b,w0.heap.size<=r
def Marks.refl(w0:Tam)(S0:gK):Marks w0 S0 S0:=⟨[],rfl,by simp⟩
def Marks.trans{w0 c:Tam}{S0 d S2:gK}(h:Marks w0 S0 d)(j:w0.heap.size<=c.heap.size)(k:Marks c d S2):Marks w0 S0 S2:=by
 obtain⟨f,m,l⟩:=h;obtain⟨e,i,g⟩:=k;refine⟨e++f,by rw[i,m];simp,fun r b=>?_⟩;rcases aM.1 b with b|b
 .exact aY j (g r b)
 exact l r b
structure pI(N:En)(Φ:Taa)(Pre:eN)(c:Code)(w0:Tam)(S0:gK)(w1:Tam)(S1:gK):Prop where
 same:N.US=[] \/gv c=true->w1=w0/\S1=S0
 ext:Ext w0 S0 w1 S1
 env:Wg N Φ Pre w1 S1
 marks:Marks w0 S0 S1
def pI.refl{N:En}{Φ:Taa}{Pre:eN}{c:Code}{w0:Tam}{S0:gK}(h:Wg N Φ Pre w0 S0):pI N Φ Pre c w0 S0 w0 S0:=⟨fun _=>⟨rfl,rfl⟩,Ext.refl _ _,h,Marks.refl _ _⟩
def pI.seq{N:En}{Φ:Taa}{Pre:eN}{x y z:Code}{w0 c b:Tam}{S0 e d:gK}(g:gv z=true->gv x=true)(f:gv z=true->gv y=true)(h:pI N Φ Pre x w0 S0 c e)(k:pI N Φ Pre y c e b d):pI N Φ Pre z w0 S0 b d where
 same hc:=by obtain⟨rfl,rfl⟩:=h.same (hc.imp id g);exact k.same (hc.imp id f)
 ext:=h.ext.trans k.ext
 env:=k.env
 marks:=h.marks.trans h.ext.below.size k.marks
def pI.sub{N:En}{Φ:Taa}{Pre:eN}{x z:Code}{w0 b:Tam}{S0 S1:gK}(c:gv z=true->gv x=true)(h:pI N Φ Pre x w0 S0 b S1):pI N Φ Pre z w0 S0 b S1:=⟨fun d=>h.same (d.imp id c),h.ext,h.env,h.marks⟩
def KY.sub{ro:Tak}{z c:Code}{Q Q':Iv}(h:KY ro z Q)(f:gv z=true->gv c=true)(e:∀a w,Q' .outgrown a w->Q .outgrown a w):KY ro c Q':=fun b=>⟨f (h b).1,fun a w d=>(h b).2 a w (e a w d)⟩
section
variable{w0:Tam}{S0:gK}{C:Cx}{G:Gh}{σ:St}{a:Act}{w:Tam}{n:Nat}
def fg.Ru(h:fg w0 S0 C G σ w){g:Tag}{e:E}{T:Tba}{t:Ty}(K:σ.live g=some (e,T,t))(a0:g.ex=true)(P:0<t.cells.length)(U:¬S0.fr)(R:¬S0.wz):
  ∃Z,dS C w G C w Z/\fg w0 S0 C Z {σ with live:=fun m=>if m=g then none else σ.live m} w/\e.lt C.N=true/\cg w Z.S (G.τ g) (den C.ρ e)/\Has (.list t) (den C.ρ e):=by
 have q:=h.own g e T t K;obtain⟨M,l,hd,F,hS,hr⟩:=q.own
 have r:dS C w G C w {G with S:=fun b o=>G.S b o\/((G.τ g).ownBlock=some b/\o<M.length)}:=
  ⟨fun _ h=>⟨rfl,h⟩,fun _ h=>h,fun _ _ h=>.inl h,fun _ _ _=>rfl,fun _ _=>rfl,fun _ _=>rfl⟩
 have f:∀{m:Tag} {x:E×Tba×Ty},(if m=g then none else σ.live m)=some x->m≠g/\σ.live m=some x:=by
  intro m x k;split at k
  .cases k
  rename_i p;exact⟨p,k⟩
 refine⟨{G with S:=fun b o=>G.S b o\/((G.τ g).ownBlock=some b/\o<M.length)},r,?_,q.lt,?_,q.has⟩
 .refine⟨h.below,fun b o u=>.inl (h.jI b o u),h.keep,h.qq,h.lq,?_,?_,h.na,?_,h.inj,?_,?_,?_,?_,fun hf=>absurd hf U,fun hz=>absurd hz R⟩
  .rintro b o (u|⟨s,_⟩)
   .exact h.dT b o u
   exact(q.gG b s).2
  .rintro b o (u|⟨s,_⟩)
   .exact h.gY b o u
   exact .inr (h.gh g _ b K s)
  .intro i D Y k;obtain⟨J,I,X,L⟩:=h.box i D Y k;refine⟨J,I,X.later r rfl,?_⟩;cases D with
   |true=>simp only[if_true]at L⊢;exact fun o Q=>.inl (L o Q)
   |false=>
    simp only[aj,if_false]at L⊢;rintro o (Q|⟨he,_⟩)
    .exact L o Q
    exact h.eV g i _ _ _ K k he rfl
  .intro m e' T' t' k;obtain⟨p,k⟩:=f k;refine(h.own m e' T' t' k).later r (fun _ _=>rfl) (fun b s o u=>?_);rcases u with u|⟨W,_⟩
   .exact u
   exact absurd (h.jA m g _ _ b k K s W) p
  .intro m x b k s;exact h.gh m x b (f k).2 s
  .intro g1 g2 x y b k O J I;exact h.jA g1 g2 x y b (f k).2 (f O).2 J I
  intro m i x y b k O s;exact h.eV m i x y b (f k).2 O s
 rw[hd];obtain⟨hl,hh⟩:=F;rcases hh with⟨hv,hn⟩|⟨b,cap,cur,hv,s,hgb,Mr,Yl,GW,uj⟩
 .have:l=[]:=au hn;subst this;rw[hv];exact .nil none 0
 have z:=q.has;rw[hd]at z;obtain⟨l',A,_,k⟩:=bO.1 z;injection A with A;subst A;by_cases p:l=[]
 .subst p;rw[hv];exact .nil _ cap
 have H:(G.τ g).ownBlock=some b:=by rw[hv];rfl
 rw[hv]at H⊢;refine .list b 0 cap t.cells.length M l P p Mr hl (fun i B=>?_) (fun i v B=>?_) (fun i d V=>?_) (fun i d j v c J I X=>(hr i d j v c J I X).keep (fun _ _ h=>.inl h) (fun _ _ _=>rfl))
 .rw[av];exact .inr ⟨H,B⟩
 .rw[av,cell_of_row w b i cur T (0,0) hgb];rw[<-uj,aq]at B;split at B
  .simpa using B
  cases B
 exact(cB (k d (bQ V))).1
def gQ.KU(h:gQ n w0 S0 C G σ a w)(Y:¬S0.fr)(W:¬S0.wz)(id i:Nat):∃P,gQ n w0 S0 C P (KU id σ i) a w:=by
 unfold dF.KU;split
 .rename_i z K;split
  .rename_i g u E;split
   .rename_i e T N hg;split
    .rename_i s;obtain⟨rfl,a1,V⟩:=s;obtain⟨P,q,f,Z,H,L⟩:=h.m.Ru hg a1 V Y W;have D:i<z.length:=(aO.1 E).1
     have X:mapOf z=none:=by
      unfold mapOf;split
      .rename_i e' kt T';have:i=0:=by simpa using D
       subst this;cases E
      rfl
     have a2:mapOf (z.set i (.gH e (.list N)))=none:=by
      unfold mapOf;split
      .rename_i e' kt T' M;have hl:=congrArg List.length M;simp at hl;have:i=0:=by omega
       subst this;cases z with
       |nil=>simp at D
       |cons c r=>simp at M
      rfl
     have J:(⟨σ.tm,σ.hp,fun O=>if O=g then none else σ.live O⟩:St).hp id=some (false,z):=K;refine⟨P,⟨?_,h.t.later q,h.sz,h.defers⟩⟩
     have o:∀{j:Nat} {x:Bool×List SC},fC σ.hp id (some (false,z.set i (.gH e (.list N)))) j=some x->∃y,σ.hp j=some y:=by
      intro j x d;by_cases I:j=id
      .exact⟨_,I▸K⟩
      rw[fu _ _ I]at d;exact⟨_,d⟩
     refine⟨f.below,f.jI,f.keep,f.qq,f.lq,f.dT,f.gY,?_,?_,?_,f.own,f.gh,f.jA,?_,f.fresh,f.wz⟩
     .intro j x d;obtain⟨y,F⟩:=o d;exact f.na j y F
     .intro j l p d;by_cases I:j=id
      .subst I;have d:fC σ.hp j (some (false,z.set i (.gH e (.list N)))) j=some (l,p):=d;simp only[dZ,aa,ah]at d;obtain⟨rfl,rfl⟩:=d;obtain⟨b1,b2,b3,b4⟩:=f.box j _ _ J;obtain⟨vs,Tb,a0,B⟩:=b3.cells X;refine⟨b1,?_,.mk a0 ⟨by rw[aQ];exact B.1,fun k c v s hv=>?_⟩,?_⟩
       .rw[bY]at b2⊢;intro x d;rcases cX d with d|rfl
        .exact b2 x d
        rfl
       .by_cases hk:k=i
        .subst hk;rw[List.getElem?_set_self D]at s;injection s with s;subst s;obtain⟨hM,U,_⟩:=B.2 k _ v E hv;have R:P.τ g=G.τ g:=q.τ g hM;exact⟨Z,by rw[U,R];exact H,L⟩
        rw[List.getElem?_set_ne (fun e=>hk e.symm)]at s;exact B.2 k c v s hv
       simp only[aj,if_false]at b4⊢;exact b4
      have d:σ.hp j=some (l,p):=by
       have d:fC σ.hp id (some (false,z.set i (.gH e (.list N)))) j=some (l,p):=d
       rwa [fu _ _ I]at d
      exact f.box j l p d
     .intro j k x y d F he;obtain⟨x',S⟩:=o d;obtain⟨Q,A⟩:=o F;exact f.inj j k x' Q S A he
     intro O j x y b d F hb;obtain⟨Q,A⟩:=o F;exact f.eV O j x Q b d A hb
    exact⟨G,h⟩
   exact⟨G,h⟩
  exact⟨G,h⟩
 exact⟨G,h⟩
def gQ.aaF(c:¬S0.fr)(b:¬S0.wz)(id:Nat):∀(l:Tah) {G:Gh} {σ:St},gQ n w0 S0 C G σ a w->∃d,gQ n w0 S0 C d (l.foldl (dF.KU id) σ) a w
 |[],G,_,h=>⟨G,h⟩
 |t::l,_,_,h=>by obtain⟨d,e⟩:=h.KU c b id t;exact gQ.aaF c b id l e
def gQ.KR(h:gQ n w0 S0 C G σ a w)(c:¬S0.fr)(b:¬S0.wz)(t:Nat):∃d,gQ n w0 S0 C d (KR σ t) a w:=by
 unfold dF.KR;split
 .split
  .exact gQ.aaF c b _ _ h
  exact⟨G,h⟩
 exact⟨G,h⟩
def gQ.TD(c:¬S0.fr)(b:¬S0.wz):∀(l:Tah) {G:Gh} {σ:St},gQ n w0 S0 C G σ a w->∃d,gQ n w0 S0 C d (l.foldl dF.KR σ) a w
 |[],G,_,h=>⟨G,h⟩
 |t::l,_,_,h=>by obtain⟨d,e⟩:=h.KR c b t;exact gQ.TD c b l e
def gQ.aaE:∀(l:Tah) {G:Gh} {σ:St},gQ n w0 S0 C G σ a w->∃c,gQ n w0 S0 C c (l.foldl (fun σ t=>dF.EX σ (.tmp t,.ptr .nil,none)) σ) a w
 |[],G,_,h=>⟨G,h⟩
 |t::l,_,_,h=>by obtain⟨d,b⟩:=h.EX (.tmp t,.ptr .nil,none);exact gQ.aaE l b
def gQ.MG{N:En}(r:Nat)(h:gQ n w0 S0 C G σ a w):∃b,gQ n w0 S0 C b (dF.MG N r σ) a w:=gQ.aaE _ h
def gQ.KT{N:En}(r:Nat)(h:gQ n w0 S0 C G σ a w)(c:N.cs.fr=0->¬S0.fr/\¬S0.wz):∃f,gQ n w0 S0 C f (KT N r σ) a w:=by
 unfold dF.KT;split
 .rename_i b;obtain⟨e,d⟩:=c (by simpa using b);exact gQ.TD e d _ h
 exact⟨G,h⟩
end
def fg.setCell(h:fg w0 S0 C G σ w){id c:Nat}{cs:List SC}{x y:SC}(o:σ.hp id=some (false,cs))(l:cs[c]?=some x)(I:x.scalar=true->y.scalar=true)(q:∀e E T,x≠ .uC e E T)(p:∀v,ru C w G x v->ru C w G y v):fg w0 S0 C G (Mv σ id c cs y) w:=by
 have m:∀i z,(Mv σ id c cs y).hp i=some z->(i=id/\z=(false,cs.set c y))\/(i≠id/\σ.hp i=some z):=by
  intro i z d;simp only[Mv]at d;by_cases r:i=id
  .subst r;rw[dZ]at d;injection d with d;exact .inl ⟨rfl,d.symm⟩
  rw[fu _ _ r]at d;exact .inr ⟨r,d⟩
 have f:∀i z,(Mv σ id c cs y).hp i=some z->∃z',σ.hp i=some z':=by
  intro i z d;rcases m i z d with⟨rfl,_⟩|⟨_,h⟩
  .exact⟨_,o⟩
  exact⟨_,h⟩
 refine{below:=h.below,jI:=h.jI,keep:=h.keep,qq:=h.qq,lq:=h.lq,dT:=h.dT,gY:=h.gY,na:=?_,box:=?_,inj:=?_,own:=h.own,gh:=h.gh,jA:=h.jA,eV:=?_,fresh:=h.fresh,wz:=h.wz}
 .intro i z d;obtain⟨z',N⟩:=f i z d;exact h.na i z' N
 .intro i W P d;rcases m i _ d with⟨rfl,h2⟩|⟨_,h2⟩
  .simp only[ah]at h2;obtain⟨rfl,rfl⟩:=h2;obtain⟨U,B,S,R⟩:=h.box _ _ _ o
   have J:mapOf cs=none:=by
    unfold mapOf;split
    .rename_i e E T;cases c with
     |zero=>simp at l;exact absurd l.symm (q _ _ _)
     |succ c=>simp at l
    rfl
   obtain⟨H,T,O,A⟩:=S.cells J;have L:c<cs.length:=(aO.1 l).1;refine⟨U,?_,jL.mk (vs:=H) (T:=T) O ⟨by simpa using A.1,?_⟩,by simpa using R⟩
   .rw[bY]at B⊢;intro z d;rcases cX d with d|rfl
    .exact B z d
    exact I (B x (bQ l))
   intro i z v d F;rw[bj]at d;split at d
   .rename_i s;subst s;injection d with d;subst d;exact p v (A.2 _ _ _ l F)
   exact A.2 _ _ _ d F
  exact h.box _ _ _ h2
 .intro i j a b M t;obtain⟨V,u⟩:=f i a M;obtain⟨D,k⟩:=f j b t;exact h.inj i j V D u k
 intro g i a b Q K t;obtain⟨D,k⟩:=f i b t;exact h.eV g i a D Q K k
def Gf{N:En}{Φ:Taa}{Pre:eN}{R:D->Prop}{r p n:Nat}{f:St->VC}{σ:St}{ρ:Nat->D}{g:List (Taf->Prop)}{w0 w:Tam}{S0:gK}{G:Gh}{a:Act}{id c m:Nat}{cs:List SC}{e:E}{k:IntKind}(b:uQ N r σ p=some (id,c,cs,e,k,m))(o:gQ n w0 S0 ⟨ρ,p,fun i=>i<p⟩ G σ a w):∀l:Tah,(vW f σ id c cs e k l).holds Φ Pre R ρ g->∃d,(f d).holds Φ Pre R ρ g/\gQ n w0 S0 ⟨ρ,p,fun i=>i<p⟩ G d a w:=by
 have H:σ.hp id=some (false,cs)/\cs[c]?=some (.gH e (.int k)):=by
  unfold uQ at b;split at b
  .split at b
   .split at b
    .rename_i y;split at b
     .rename_i A;split at b
      .injection b with b;simp only[ah]at b;obtain⟨rfl,rfl,rfl,rfl,rfl,_⟩:=b;exact⟨y,A⟩
      cases b
     cases b
    cases b
   cases b
  cases b
 obtain⟨x,I⟩:=H;intro l
 induction l with
 |nil=>intro h;exact h.elim
 |cons j r ih=>
  intro h;unfold vW at h;obtain⟨K,J⟩:=h;cases hb:(den ρ (.bin .eq e (.aZ k j))).W with
  |false=>exact ih (J hb)
  |true=>
   refine⟨_,K hb,⟨o.m.setCell x I (fun _=>rfl) (fun _ _ _ h=>by cases h) ?_,o.t,o.sz,o.defers⟩⟩;rintro v ⟨P0,KP,af1⟩;obtain⟨z,F,q⟩:=dt.1 af1
   have s:z=(j:Int):=by have u:den ρ e=.int k z:=F;simp only[den,B.den,u,D.q,D.W]at hb;simpa using hb
   subst s;refine⟨rfl,?_,dt.2 ⟨(j:Int),rfl,q⟩⟩;rw[F]at KP;exact KP
def IG{N:En}{Φ:Taa}{Pre:eN}{R:D->Prop}{r p n:Nat}{f:St->VC}{σ:St}{ρ:Nat->D}{k:List (Taf->Prop)}{w0 w:Tam}{S0:gK}{G:Gh}{a:Act}(h:(DH N r p f σ).holds Φ Pre R ρ k)(u:gQ n w0 S0 ⟨ρ,p,fun i=>i<p⟩ G σ a w):∃g,(f g).holds Φ Pre R ρ k/\gQ n w0 S0 ⟨ρ,p,fun i=>i<p⟩ G g a w:=by
 unfold DH at h;split at h
 .rename_i t e o m b
  have Q:σ.tm t=some ([],.one (.gH e (.int o))):=by
   unfold splitAt at b;split at b
   .rename_i O _;generalize Qf O=y at b;split at b
    .rename_i K;split at b
     .injection b with b;simp only[ah]at b;obtain⟨rfl,rfl,rfl,_⟩:=b;exact K
     cases b
    cases b
   cases b
  obtain⟨v,P,V,_,M⟩:=u.t t _ _ Q;simp only[bc,bX,if_true]at M;obtain⟨S,q,A⟩:=M;obtain⟨z,L,F⟩:=dt.1 A
  have go:∀l:Tah,(yX f σ t e o l).holds Φ Pre R ρ k->∃g,(f g).holds Φ Pre R ρ k/\gQ n w0 S0 ⟨ρ,p,fun i=>i<p⟩ G g a w:=by
   intro l
   induction l with
   |nil=>intro h;exact h.elim
   |cons j r ih=>
    intro h;unfold yX at h;obtain⟨U,T⟩:=h;cases hb:(den ρ (.bin .eq e (.aZ o j))).W with
    |false=>exact ih (T hb)
    |true=>
     have H:z=(j:Int):=by have I:den ρ e=.int o z:=L;simp only[den,B.den,I,D.q,D.W]at hb;simpa using hb
     subst H;refine⟨_,U hb,⟨u.m.congr (σ':=ES σ t (.gH (.aZ o j) (.int o))) rfl rfl,?_,u.sz,u.defers⟩⟩;intro E c s J;have d:fC σ.tm t (some ([],.one (.gH (.aZ o j) (.int o)))) E=some (c,s):=J;by_cases x:E=t
     .subst x;rw[dZ]at d;injection d with d;simp only[ah]at d;obtain⟨rfl,rfl⟩:=d;refine⟨v,P,by simp,rfl,?_⟩;simp only[bc,bX,if_true];refine⟨rfl,?_,dt.2 ⟨(j:Int),rfl,F⟩⟩;rw[L]at q;exact q
     rw[fu _ _ x]at d;exact u.t E c s d
  exact go _ h
 split at h
 .rename_i b;exact Gf b u _ h
 exact⟨σ,h,u⟩
def K2{N:En}{Φ:Taa}{Pre:eN}{R:D->Prop}(i3:N.P.follows .mixedOrders=true)(b7:∀k g9,lk N.cs.l k=some g9->bu N.P k g9 (Pre k) (Φ k))(l5:∀k y,lk N.fw k=some y->D3 N.P k y.1 y.2 (fun _=>True) (Φ k))(l1:∀k y,lk N.wl k=some y->Iw N.P k y.1 y.2)(f3:∀k y,lk N.US k=some y->X1 N.P k y.1 y.2 (Pre k) (Φ k)):
  ∀(c:Code) (ro:Tak) (k:Ex->St->Nat->Nat->VC) (σ:St) (p d:Nat) (ρ:Nat->D) (v:List (Taf->Prop)) (Q:Iv) (w0:Tam) (S0:gK),Wg N Φ Pre w0 S0->KY ro c Q->
  (vc N c k σ p d).holds Φ Pre R ρ v->v.length=d->(∀i b,S0.qq i=some b->i<p)->
  (∀L S1,pI N Φ Pre c w0 S0 L S1->∀ex z p' d' f q a w G,(∀i b,S1.qq i=some b->i<p')->p<=p'->(∀i,i<p->f i=ρ i)->q.length=d'->(∃l,q=l++v)->(k ex z p' d').holds Φ Pre R f q->gQ N.n L S1 ⟨f,p',fun i=>i<p'⟩ G z a w->Q ex.to a w)->
  ∀a w G,gQ N.n w0 S0 ⟨ρ,p,fun i=>i<p⟩ G σ a w->WP ro N.P c Q a w:=by
 intro c
 induction c with
 |skip=>intro ro k σ p d ρ v Q w0 S0 X A h hd g O a w G M;exact WP.skip (O _ _ (pI.refl X) .normal _ _ _ _ _ a w G g (aU _) (fun _ _=>rfl) hd ⟨[],rfl⟩ h M)
 |label l=>intro ro k σ p d ρ v Q w0 S0 X A h hd g O a w G M;exact WP.label (O _ _ (pI.refl X) .normal _ _ _ _ _ a w G g (aU _) (fun _ _=>rfl) hd ⟨[],rfl⟩ h M)
 |exit i=>intro ro k σ p d ρ v Q w0 S0 X A h hd g O a w G M;exact WP.exit (O _ _ (pI.refl X) (.exit i) _ _ _ _ _ a w G g (aU _) (fun _ _=>rfl) hd ⟨[],rfl⟩ h M)
 |ret=>intro ro k σ p d ρ v Q w0 S0 X A h hd g O a w G M;exact WP.ret (O _ _ (pI.refl X) .ret _ _ _ _ _ a w G g (aU _) (fun _ _=>rfl) hd ⟨[],rfl⟩ h M)
 |region id ops draw=>
  intro ro k σ p d ρ v Q w0 S0 X A h hd g O a w G M;have k1:=X.fl;have c7:=X.cf;have l0:=X.wz
  replace O:∀ex z p' d' f q a w G,p<=p'->(∀i,i<p->f i=ρ i)->q.length=d'->(∃l,q=l++v)->(k ex z p' d').holds Φ Pre R f q->gQ N.n w0 S0 ⟨f,p',fun i=>i<p'⟩ G z a w->Q ex.to a w:=
   fun ex z p' d' f q a w G hp=>O w0 S0 (pI.refl X) ex z p' d' f q a w G (fun i b H=>az (g i b H) hp) hp
  simp only[vc]at h;obtain⟨G,M⟩:=M.KT (N:=N) id (fun hz=>⟨fun hf=>by have:=X.cf.1 hf;omega,fun hf=>by have:=X.cf.2 hf;omega⟩);obtain⟨G,M⟩:=M.MG (N:=N) id;generalize MG N id (KT N id σ)=σ at h M;obtain⟨b4,h2,B⟩:=IG h M;clear h M;clear σ;revert h2 B;revert b4;intro σ h M;unfold Sy at h;split at h
  .rename_i c hx;obtain⟨rfl,i9⟩:=ID hx;simp only[if_true]at i9;obtain⟨S,r1,j3,V,a9,J,c2,a0⟩:=jR (MM:=fun i=>i<p) c 0 [] σ ρ h (by omega);rw[dO]at V;split at a0
   .rename_i t e a7;rw[ez]at a7;obtain⟨o,ho,a7⟩:=a7;split at a0
    .rename_i a6;simp only[TF]at a6
     have b1:∀(i:Nat) (o:Tbc) (dd:Nat),ops[i]?=some o->o.dst=some dd->dd<N.n:=fun i o dd ho e2=>by have:=bY.1 a6 o (by simpa using Array.mem_of_getElem? ho);rw[e2]at this;simpa using this
     have d7:∀y∈r1,y.1<c:=fun y T=>by
      have:y.1∈List.range' 0 c:=by rw[<-J];exact bq.2 ⟨y,T,rfl⟩
      rw[List.mem_range'_1]at this;omega
     have c1:dS ⟨ρ,p,fun i=>i<p⟩ w G ⟨S,p+c,fun i=>i<p⟩ w G:=
      ⟨fun e he=>⟨dQ V he,E.np (cP _ _) he⟩,fun _ h=>h,fun _ _ h=>h,fun _ _ _=>rfl,fun _ _=>rfl,fun _ _=>rfl⟩
     have d9:oY N.P N.cs ops p N.n S0 ⟨S,p+c,fun i=>i<p⟩ Φ Pre r1:=
      ⟨b7,c2,fun y T=>by have:=d7 y T;show p+y.1<p+c;omega,b1,c7⟩
     refine WP.region A ?_
     have a8:List.range ops.size=r1.map (·.1)++List.range' c (ops.size-c):=by rw[J,List.range_eq_range'];have h2:=List.range'_append_1 (s:=0) (m:=c) (n:=ops.size-c);rw[av]at h2;rw[h2];congr 1;omega
     rw[a8]
     refine kK _ a9 d9 (M.iv c1) (by rw[J];exact List.nodup_range') (fun y T h=>by have h':p+y.1<p:=h;omega) ?_
     intro a1 L G1 M1 g6 c6
     have d5:=c6.iv (dS.JR ⟨S,p+c,M1⟩ L G1 (M':=fun i=>i<p+c) (fun i H=>by
      rcases g6 i H with h|⟨y,T,rfl⟩
      .have h':i<p:=h;show i<p+c;omega
      have:=d7 y T;show p+y.1<p+c;omega))
     have i0:List.range' c (ops.size-c)=[c]:=by rw[show ops.size-c=1 by omega];rfl
     rw[i0];obtain⟨g1,g2⟩:=a0
     have i8:(den S (.bin .eq (.un .len e) (.aZ .i64 0))).W=decide ((den S e).A.length=0):=by show((((den S e).A.length:Nat):Int)==0)=_;rw[dJ];simp
     refine Re ho a7 d5 Q [] (fun f9 b a2 B=>?_) (fun f9 a2 B=>?_)
     .have h3:=g1 (by rw[i8];exact decide_eq_true f9) (.bool b) (dg.2 ⟨_,rfl⟩);have e1:p+c+1=p+ops.size:=by omega
      rw[e1]at B;exact O .normal _ (p+ops.size) d _ v a2 L G1 (cP _ _) (fun i H=>(fu _ _ (by omega)).trans (V i H)) hd ⟨[],rfl⟩ h3 B
     have h3:=g2 (by rw[i8];exact decide_eq_false f9) (.bool false) (dg.2 ⟨_,rfl⟩);have e1:p+c+1=p+ops.size:=by omega
     rw[e1]at B;exact O .normal _ (p+ops.size) d _ v a2 L G1 (cP _ _) (fun i H=>(fu _ _ (by omega)).trans (V i H)) hd ⟨[],rfl⟩ h3 B
    exact a0.elim
   exact a0.elim
  .rename_i c hx;exact h.elim
  split at h
  .rename_i l3;exact h.elim
  split at h
  .rename_i c hx;exact h.elim
  split at h
  .rename_i c hx;obtain⟨rfl,f2,i9⟩:=O5 hx;have j7:¬S0.fr:=fun g5=>by have:=c7.1 g5;rw[f2]at this;cases this
   have j6:¬S0.wz:=fun g5=>by have:=c7.2 g5;rw[f2]at this;cases this
   obtain⟨S,r1,j3,V,a9,J,c2,a0⟩:=jR (MM:=fun i=>i<p) c 0 [] σ ρ h (by omega);rw[dO]at V;split at a0
   .rename_i x a7;rw[ez]at a7;obtain⟨o,ho,a7⟩:=a7;split at a0
    .rename_i hc;simp only[aT]at hc;obtain⟨k9,a6⟩:=hc;obtain⟨h7,h2⟩:=a0;have f6:Pre x.k [den S x.e]:=h7 rfl;have k7:=h2 _ rfl;obtain⟨Y,r2,b4,f4,e6,c0,g0,k2⟩:=jR (MM:=fun i=>i<p+c+1) (ops.size-(c+1)) (c+1) [] _ _ k7 (by omega)
     have b1:∀(i:Nat) (o:Tbc) (dd:Nat),ops[i]?=some o->o.dst=some dd->dd<N.n:=fun i o dd ho e2=>by have:=bY.1 a6 o (by simpa using Array.mem_of_getElem? ho);rw[e2]at this;simpa using this
     have d7:∀y∈r1,y.1<c:=fun y T=>by
      have:y.1∈List.range' 0 c:=by rw[<-J];exact bq.2 ⟨y,T,rfl⟩
      rw[List.mem_range'_1]at this;omega
     have f5:∀y∈r2,c+1<=y.1/\y.1<ops.size:=fun y T=>by
      have:y.1∈List.range' (c+1) (ops.size-(c+1)):=by rw[<-c0];exact bq.2 ⟨y,T,rfl⟩
      rw[List.mem_range'_1]at this;omega
     have c1:dS ⟨ρ,p,fun i=>i<p⟩ w G ⟨S,p+c,fun i=>i<p⟩ w G:=
      ⟨fun e he=>⟨dQ V he,E.np (cP _ _) he⟩,fun _ h=>h,fun _ _ h=>h,fun _ _ _=>rfl,fun _ _=>rfl,fun _ _=>rfl⟩
     have d9:oY N.P N.cs ops p N.n S0 ⟨S,p+c,fun i=>i<p⟩ Φ Pre r1:=
      ⟨b7,c2,fun y T=>by have:=d7 y T;show p+y.1<p+c;omega,b1,c7⟩
     refine WP.region A ?_
     have a8:List.range ops.size=r1.map (·.1)++(c::(r2.map (·.1)++[])):=by rw[J,c0,dh,List.range_eq_range'];have h1:c::List.range' (c+1) (ops.size-(c+1))=List.range' c (ops.size-(c+1)+1):=List.range'_succ.symm;have h2:=List.range'_append_1 (s:=0) (m:=c) (n:=ops.size-(c+1)+1);rw[av]at h2;rw[h1,h2];congr 1;omega
     rw[a8]
     refine kK _ a9 d9 (M.iv c1) (by rw[J];exact List.nodup_range') (fun y T h=>by have h':p+y.1<p:=h;omega) ?_
     intro a1 L G1 M1 g6 c6
     have d5:=c6.iv (dS.JR ⟨S,p+c,M1⟩ L G1 (M':=fun i=>i<p+c) (fun i H=>by
      rcases g6 i H with h|⟨y,T,rfl⟩
      .have h':i<p:=h;show i<p+c;omega
      have:=d7 y T;show p+y.1<p+c;omega))
     have d3:=QH (ops:=ops) a7 b7 d5 f6 k1 j7 j6 (wpOps N.P ops Q (r2.map (·.1)++[])) Q (fun a2 w2 G2 B=>by
      have f8:dS ⟨fC S (p+c) (Φ x.k [den S x.e]),p+c+1,fun i=>i<p+c+1⟩ w2 G2 ⟨Y,p+ops.size,fun i=>i<p+c+1⟩ w2 G2:=
       ⟨fun e he=>⟨dQ (fun i H=>f4 i (by show i<p+(c+1);have:i<p+c+1:=H;omega)) he,E.np (by show p+c+1<=p+ops.size;omega) he⟩,fun _ h=>h,fun _ _ h=>h,fun _ _ _=>rfl,fun _ _=>rfl,fun _ _=>rfl⟩
      have i1:oY N.P N.cs ops p N.n S0 ⟨Y,p+ops.size,fun i=>i<p+c+1⟩ Φ Pre r2:=
       ⟨b7,g0,fun y T=>by have:=f5 y T;show p+y.1<p+ops.size;omega,b1,c7⟩
      refine kK _ e6 i1 (B.iv f8) (by rw[c0];exact List.nodup_range') (fun y T h=>by have h':p+y.1<p+c+1:=h;have:=f5 y T;omega) ?_
      intro a3 w3 G3 M3 k4 j4
      have h0:=j4.iv (dS.JR ⟨Y,p+ops.size,M3⟩ w3 G3 (M':=fun i=>i<p+ops.size) (fun i H=>by
       rcases k4 i H with h|⟨y,T,rfl⟩
       .have h':i<p+c+1:=h;show i<p+ops.size;omega
       have:=f5 y T;show p+y.1<p+ops.size;omega))
      show Q .normal a3 w3;refine O .normal b4 (p+ops.size) d Y v a3 w3 G3 (cP _ _) (fun i H=>?_) hd ⟨[],rfl⟩ k2 h0;rw[f4 i (by omega),fu _ _ (by omega),V i H])
     simp only[wpOps,ho];rw[d3.1,if_pos rfl];exact .inl d3.2
    exact a0.elim
   exact a0.elim
  rw[List.range_eq_range']at h;obtain⟨f,r,z,j0,d6,f7,f3,hf⟩:=jR (MM:=fun i=>i<p) ops.size 0 [] σ ρ h (by omega);have j1:∀i,i<p->f i=ρ i:=j0;have a5:r.map (·.1)=List.range ops.size:=by rw[List.range_eq_range'];exact f7
  rw[dW]at hf;split at hf
  .rename_i hc
   .simp only[aT]at hc;obtain⟨b2,a6⟩:=hc;have j9:=hf
    have c4:∀x∈r,x.1<ops.size:=by
     intro x hx;have:x.1∈List.range ops.size:=by rw[<-a5];exact bq.2 ⟨x,hx,rfl⟩
     simpa using this
    have i5:dS ⟨ρ,p,fun i=>i<p⟩ w G ⟨f,p+ops.size,fun i=>i<p⟩ w G:=
     ⟨fun e he=>⟨dQ j1 he,E.np (cP _ _) he⟩,fun _ h=>h,fun _ _ h=>h,fun _ _ _=>rfl,fun _ _=>rfl,fun _ _=>rfl⟩
    have c6:=M.iv i5
    have e0:oY N.P N.cs ops p N.n S0 ⟨f,p+ops.size,fun i=>i<p⟩ Φ Pre r:=
     ⟨b7,f3,
      fun x hx=>by have:=c4 x hx;show p+x.1<p+ops.size;omega,
      fun i o d ho e2=>by have:=bY.1 a6 o (by simpa using Array.mem_of_getElem? ho);simpa [e2]using this,c7⟩
    have hM:∀x∈r,¬(fun i=>i<p) (p+x.1):=fun x _ h=>by have h':p+x.1<p:=h;omega
    have i2:(r.map (·.1)).Nodup:=by rw[a5];exact List.nodup_range
    have j2:∀a' w' G' M',(∀i,M' i->i<p\/∃x∈r,i=p+x.1)->gQ N.n w0 S0 ⟨f,p+ops.size,M'⟩ G' z a' w'->Q .normal a' w':=by
     intro a' w' G' M' k5 W
     have B:=W.iv (dS.JR ⟨f,p+ops.size,M'⟩ w' G' (M':=fun i=>i<p+ops.size) (fun i H=>by
      rcases k5 i H with h|⟨x,hx,rfl⟩
      .show i<_;omega
      have:=c4 x hx;show p+x.1<_;omega))
     exact O .normal z (p+ops.size) d f v a' w' G' (cP _ _) j1 hd ⟨[],rfl⟩ j9 B
    cases draw with
    |false=>
     refine WP.region A ?_;rw[<-a5];exact AQ d6 e0 c6 i2 hM j2
    |true=>
     simp only[Bool.not_true,fW,aT]at b2;refine WP.IM A i3 ?_;have l4:r.length=ops.size:=by have:=congrArg List.length a5;simpa using this
     refine Iz ops.size d6 e0 c6.drew i2 hM b2.1 (by simp) ?_ (by omega) ?_ c4 ?_ ?_ j2
     .intro j o ho hj;have k0:j<ops.size:=(aP.1 ho).1;simp[k0]at hj
     .intro i H;rw[a5];simp[H]
     .intro j8;exact Bi b2.2 (by simp) (r:=r.map (·.1)) (fun i H=>by rw[a5];simp[H]) (by simpa using j8) (fun x hx=>by obtain⟨y,T,rfl⟩:=bq.1 hx;exact c4 y T)
     intro l r' h1 _ h3 h4 h5;exact Bi b2.2 h1 h3 (by simpa using h4) (fun x hx=>by obtain⟨y,T,rfl⟩:=bq.1 hx;exact h5 y T)
  exact hf.elim
 |seq x y ihx ihy=>
  intro ro k σ p d ρ v Q w0 S0 X A h hd g O a w G M;have b9:gv (.seq x y)=true->gv x=true:=fun h=>by simp only[gv,aT]at h;exact h.1
  have d8:gv (.seq x y)=true->gv y=true:=fun h=>by simp only[gv,aT]at h;exact h.2
  refine WP.seq (ihx ro _ σ p d ρ v (Exit.then (WP ro N.P y Q) Q) w0 S0 X (A.sub b9 (fun _ _ h=>h)) h hd g ?_ a w G M);intro L S1 hg ex z p' d' f q a' w' G' F hp b6 hl ⟨l,U⟩ Z W;cases ex with
  |normal=>
   refine ihy ro k z p' d' f q Q L S1 hg.env (A.sub d8 (fun _ _ h=>h)) Z hl F ?_ a' w' G' W;intro w2 S2 e9 k8 b4 p2 d2 Y b5 a2 e5 G2 b0 j5 d0 e8 ⟨l2,B6⟩ Js B;exact O w2 S2 (hg.seq b9 d8 e9) k8 b4 p2 d2 Y b5 a2 e5 G2 b0 (by omega) (fun i H=>(d0 i (by omega)).trans (b6 i H)) e8 ⟨l2++l,by rw[B6,U,dP]⟩ Js B
  |exit i=>exact O L S1 (hg.sub b9) (.exit i) z p' d' f q a' w' G' F hp b6 hl ⟨l,U⟩ Z W
  |ret=>exact O L S1 (hg.sub b9) .ret z p' d' f q a' w' G' F hp b6 hl ⟨l,U⟩ Z W
 |cond c x y ihx ihy=>
  intro ro k σ p d ρ v Q w0 S0 X A h hd g O a w G M;have b9:gv (.cond c x y)=true->gv x=true:=fun h=>by simp only[gv,aT]at h;exact h.1
  have d8:gv (.cond c x y)=true->gv y=true:=fun h=>by simp only[gv,aT]at h;exact h.2
  have c3:∀e,NR σ N.P c=some e->∃b,a.eval c=.bool b/\den ρ e=.bool b:=by
   intro e he;unfold NR at he;split at he
   .rename_i e' k3;injection he with he;subst he;obtain⟨_,h2,h3⟩:=dV M.t (pc:=[]) rfl k3;obtain⟨b,hb⟩:=dg.1 h3;exact⟨b,(hb▸h2).gU,hb⟩
   cases he
  have g8:=fun h=>ihx ro k σ p d ρ v Q w0 S0 X (A.sub b9 (fun _ _ h=>h)) h hd g (fun L S1 hg=>O L S1 (hg.sub b9)) a w G M;have g7:=fun h=>ihy ro k σ p d ρ v Q w0 S0 X (A.sub d8 (fun _ _ h=>h)) h hd g (fun L S1 hg=>O L S1 (hg.sub d8)) a w G M;simp only[vc]at h;split at h
  .rename_i e4;obtain⟨b,b8,a4⟩:=c3 _ e4;simp only[den,D.bool.injEq]at a4;subst a4;exact WP.cond b8 (g8 h)
  .rename_i e4;obtain⟨b,b8,a4⟩:=c3 _ e4;simp only[den,D.bool.injEq]at a4;subst a4;exact WP.cond b8 (g7 h)
  .rename_i e _ _ e4;obtain⟨b,b8,a4⟩:=c3 _ e4;split at h
   .rename_i g3;have:=FV (ρ:=ρ) g3;rw[a4]at this;simp only[D.W]at this;subst this;exact WP.cond b8 (g8 h)
   .rename_i g3;have:=FV (ρ:=ρ) g3;rw[a4]at this;simp only[D.W]at this;subst this;exact WP.cond b8 (g7 h)
   split at h
   .obtain⟨h1,h2⟩:=h;cases b with
    |true=>exact WP.cond b8 (g8 (h1 (by rw[a4];rfl)))
    |false=>exact WP.cond b8 (g7 (h2 (by rw[a4];rfl)))
   exact h.elim
  exact h.elim
 |block i c ih=>
  intro ro k σ p d ρ v Q w0 S0 X A h hd g O a w G M;refine WP.block (ih ro _ σ p d ρ v (Exit.inBlock i Q) w0 S0 X (A.sub (fun h=>h) (fun _ _ h=>h)) h hd g ?_ a w G M);intro L S1 hg ex z p' d' f q a' w' G' F hp b6 hl U Z W;have f0:pI N Φ Pre (.block i c) w0 S0 L S1:=pI.sub (x:=c) (fun h=>h) hg;cases ex with
  |normal=>exact O L S1 f0 .normal z p' d' f q a' w' G' F hp b6 hl U Z W
  |ret=>exact O L S1 f0 .ret z p' d' f q a' w' G' F hp b6 hl U Z W
  |exit j=>
   simp only at Z;show(if j=i then Q .normal a' w' else Q (.exit j) a' w');by_cases hj:j=i
   .rw[if_pos hj]at Z⊢;exact O L S1 f0 .normal z p' d' f q a' w' G' F hp b6 hl U Z W
   rw[if_neg hj]at Z⊢;exact O L S1 f0 (.exit j) z p' d' f q a' w' G' F hp b6 hl U Z W
 |loop c ih=>
  intro ro k σ p d ρ v Q w0 S0 X A h hd g O a w G M;simp only[vc]at h;split at h
  .exact h.elim
  rename_i h9
  have h8:N.US=[] \/gv c=true:=by
   simp only[aT,eT,not_and,Bool.not_eq_false]at h9;cases hq:N.US with
   |nil=>exact .inl rfl
   |cons x r=>exact .inr (h9 (by rw[hq];rfl))
  split at h
  .rename_i es i7;obtain⟨I,m,k6,e7⟩:=h;have e0:=Lz N.n (((iZ c).bind (lk N.BD)).getD {}) ((((iZ c).bind (lk N.BD)).getD {}).own.map (·.1)++assigned c) σ p;generalize hh:uN N.n (((iZ c).bind (lk N.BD)).getD {}) ((((iZ c).bind (lk N.BD)).getD {}).own.map (·.1)++assigned c) σ p=K at*;have d1:K.v0=p:=by rw[<-hh];rfl
   have f1:∀{c9:List E} {f:Nat->D},c9.length=K.size->(∀(j:Nat) x e,K.iM[j]?=some x->c9[j]?=some e->Has (lU x.2.1 x.2.2) (den f e))->dx (.V (K.iM.map fun x=>lU x.2.1 x.2.2)) (c9.map (den f)):=by intro c9 f h1 h2;refine jk (by simp[h1,Head.size]) fun j u x hj hx=>?_;simp only[ab,dn]at hj hx;obtain⟨y,T,rfl⟩:=hj;obtain⟨e,he,rfl⟩:=hx;exact h2 j y e T he
   obtain⟨q1,q2,G1,q3⟩:=FW M e0 i7 (ρ0:=ρ) (fun _ _=>rfl) (fun i b H=>by rw[d1];exact g i b H);rw[d1]at q3
   refine WP.loop (fun kk a' w'=>∃L S1 xs G',pI N Φ Pre (.loop c) w0 S0 L S1/\(∀i b,S1.qq i=some b->i<p)/\dx (.V (K.iM.map fun x=>lU x.2.1 x.2.2)) xs/\I xs/\m xs=kk/\gQ N.n L S1 ⟨fX ρ p xs,p+K.size,fun i=>i<p+K.size⟩ G' K.st a' w') _
    ⟨w0,S0,es.map (den ρ),G1,pI.refl X,g,f1 q1 q2,k6,rfl,q3⟩ ?_
   rintro kk a' w' ⟨L,S1,xs,G',YH,Tv,UX,hI,rfl,W⟩;refine ih ro _ K.st (p+K.size) (d+1) (fX ρ p xs) _ (Exit.then (fun a' w'=>∃n',n'<m xs/\∃L S1 xs G',pI N Φ Pre (.loop c) w0 S0 L S1/\(∀i b,S1.qq i=some b->i<p)/\dx (.V (K.iM.map fun x=>lU x.2.1 x.2.2)) xs/\I xs/\m xs=n'/\gQ N.n L S1 ⟨fX ρ p xs,p+K.size,fun i=>i<p+K.size⟩ G' K.st a' w') Q) L S1 YH.env (A.sub (fun h=>h) (fun _ _ h=>h)) (e7 xs UX hI) (by simp[hd]) (fun i b H=>az (Tv i b H) (cP _ _)) ?_ a' w' G' W;intro w2 S2 e9 ex b4 p2 d2 Y b5 a2 e5 G2 b0 j5 d0 e8 ⟨l2,B6⟩ Js B;have b3:∀i,i<p->Y i=ρ i:=fun i H=>(d0 i (by omega)).trans (JX H);have e3:pI N Φ Pre (.loop c) w0 S0 w2 S2:=YH.seq (x:=.loop c) (y:=c) (fun h=>h) (fun h=>h) e9;cases ex with
   |normal=>
    simp only at Js;split at Js
    .rename_i c9 g4
     have i4:l2.length=d2-1-d:=by have:=congrArg List.length B6;simp only[ai,bg]at this;omega
     have i6:b5[d2-1-d]?=some (fun ys=>I ys/\m ys<m xs):=by rw[B6,<-i4,aL (aU _),Nat.sub_self];rfl
     simp only[VC.holds,i6]at Js;obtain⟨l6,h6⟩:=B.Ff K.iM;have d4:∀i b,S2.qq i=some b->i<p:=by rw[(e9.same h8).2];exact Tv
     obtain⟨r1,r2,G3,r3⟩:=FW h6 e0 g4 (ρ0:=ρ) (fun i H=>by rw[d1]at H;exact(b3 i H).symm) (fun i b H=>by rw[d1];exact d4 i b H);rw[d1]at r3;exact⟨_,Js.2,w2,S2,c9.map (den Y),G3,e3,d4,f1 r1 r2,Js.1,rfl,r3⟩
    exact Js.elim
   |exit i=>exact O w2 S2 e3 (.exit i) b4 p2 d2 Y b5 a2 e5 G2 b0 (by omega) b3 e8 ⟨l2++[fun ys=>I ys/\m ys<m xs],by rw[B6];simp⟩ Js B
   |ret=>exact O w2 S2 e3 .ret b4 p2 d2 Y b5 a2 e5 G2 b0 (by omega) b3 e8 ⟨l2++[fun ys=>I ys/\m ys<m xs],by rw[B6];simp⟩ Js B
  exact h.elim
 |_=>intro ro k σ p d ρ v Q w0 S0 X A h;exact h.elim
def Fl{N:En}{Φ:Taa}{Pre:eN}{R:D->Prop}(t:N.P.follows .mixedOrders=true)(u:∀k j,lk N.cs.l k=some j->bu N.P k j (Pre k) (Φ k))(J:∀k j M,lk N.cs.l k=some j->j.ob=some M->M.wW=true->∀b o,S0.jG b o->¬jn w0 S0 b)(K:Hf N.P N.cs S0 Φ Pre)(I:∀k y,lk N.fw k=some y->D3 N.P k y.1 y.2 (fun _=>True) (Φ k))(A:∀k y,lk N.wl k=some y->Iw N.P k y.1 y.2)(z:N.cs.fr=2->(∀b o,¬S0.jG b o)/\S0.wz)(F:N.US=[]):
  ∀(c:Code) (k:Ex->St->Nat->Nat->VC) (σ:St) (p d:Nat) (ρ:Nat->D) (g:List (Taf->Prop)) (Q:Iv),(vc N c k σ p d).holds Φ Pre R ρ g->g.length=d->(∀i b,S0.qq i=some b->i<p)->
  (∀ex m q v f e a w G,p<=q->(∀i,i<p->f i=ρ i)->e.length=v->(∃l,e=l++g)->(k ex m q v).holds Φ Pre R f e->gQ N.n w0 S0 ⟨f,q,fun i=>i<q⟩ G m a w->Q ex.to a w)->
  ∀a w G,gQ N.n w0 S0 ⟨ρ,p,fun i=>i<p⟩ G σ a w->c.wp N.P Q a w:=by intro c k σ p d ρ g Q h X s V a w G S;refine K2 t u I A (fun k y h=>by rw[F]at h;cases h) c none k σ p d ρ g Q w0 S0 ⟨J,K,z,fun h=>absurd F h⟩ (fun h=>by cases h) h X s ?_ a w G S;intro w1 S1 W ex m q v f e Y O Z _ T x U E H r;obtain⟨B,L⟩:=W.same (.inl F);rw[B,L]at r;exact V ex m q v f e Y O Z T x U E H r
end
def tn(P:Tap)(σ:St):ResultVar->Tao (Bool×List SC)
 |.tmp t=>match σ.tm t with
  |some ([],.one c)=>if c.scalar then some (false,[c]) else none
  |some ([],.agg l)=>some (true,l)
  |_=>none
 |.cell t T=>match σ.tm t with
  |some ([],.one (.qo id 0))=>match σ.hp id with
   |some (_,cs)=>if(mapOf cs).isSome then none else if jd P T then(if iy P T=some cs.length then some (true,cs) else none)
     else(match cs with| [c]=>if(P.underlying T).isSome then some (false,[c]) else none|_=>none)
   |none=>none
  |_=>none
def vM(σ:St)(r:Bool×List bF)(c:Bool×List SC):Tao (E×lj):=
 if r.1=c.1 then match gy σ r.2 c.2 with
  |some (es,l)=>if r.1 then some (.un .agg (.V es),l) else match es with| [e]=>some (e,l)|_=>none
  |none=>none
 else none
def jq(P:Tap)(σ:St):List (Bool×List bF)->List ResultVar->Tao (List E×lj)
 |[],[]=>some ([],[])
 |r::rs,x::xs=>match (tn P σ x).bind (vM σ r),jq P σ rs xs with
  |some (e,l),some (es,ls)=>some (e::es,l++ls)
  |_,_=>none
 |_,_=>none
def JA(P:Tap)(b:dL)(fn:Func)(σ:St):VC:=
 match jq P σ b.res fn.results.toList with
 |some (es,l)=>if pK l then(match b.res,es with| [_],[e]=>.ret e|_,es=>.ret (.un .ff (.V es))) else .stuck 10
 |none=>.stuck 11
def mr(a:Act):ResultVar->Sem Tan
 |.tmp t=>pure (a.tmps.getD t undef)
 |.cell p t=>do loadVar t (<-asAddr (a.tmps.getD p undef))
def Hn:Tac->Tan
 | [v]=>v
 |vs=>.tuple vs.toArray
def St.start(ps:Tal):St:=⟨fun t=>match ps[t]? with|some ty=>some ([],.one (.gH (.var t) ty))|none=>none,fun _=>none,fun _=>none⟩
section
variable{P:Tap}{C:Cx}{w w0:Tam}{S0:gK}{G:Gh}{σ:St}{a:Act}{n:Nat}
def IK{L:lj}(B:fg w0 S0 C G σ w)(A:(L.map (·.1)).Nodup){r:Bool×List bF}{c:Bool×List SC}{e:E}{l:lj}{v:Tan}(h:vM σ r c=some (e,l))(b:lR C w G c v)(F:∀x∈l,x∈L):
  gk w 0 G.S (pY G L) r v (den C.ρ e):=by
 unfold vM at h;split at h
 .rename_i f;split at h
  .rename_i J M d;unfold lR at b;unfold gk;cases hr1:r.1 with
   |true=>
    rw[<-f,hr1]at b;simp only[hr1,if_true]at b h⊢;obtain⟨rfl,rfl⟩:=iP h;obtain⟨H,rfl,o⟩:=b;obtain⟨m,t,k⟩:=jU B A d o F;refine⟨H,J.map (den C.ρ),rfl,by simp only[den,gg,U.den,D.A],t,by simp[m],fun i x u y g j z=>?_⟩;simp only[ab,dn]at z;obtain⟨e,I,rfl⟩:=z;exact k i x u e g j I
   |false=>
    rw[<-f,hr1]at b;simp only[hr1,aj,if_false]at b h⊢;split at h
    .rename_i K;obtain⟨rfl,rfl⟩:=iP h;obtain⟨N,s,q⟩:=b;rw[s]at d
     obtain⟨m,t,k⟩:=jU B A d (vs:=[v]) ⟨rfl,fun i c u p j=>by
      cases i with
      |zero=>simp at p j;subst p;subst j;exact q
      |succ i=>simp at p⟩ F
     obtain⟨x,g⟩:=bI.1 m.symm;exact⟨x,g,k 0 x v K (by rw[g];rfl) rfl rfl⟩
    cases h
  cases h
 cases h
def Gg{x:ResultVar}{c:Bool×List SC}(p:gQ n w0 S0 C G σ a w)(h:tn P σ x=some c):
  ∃v,(mr a x).run P w=.ok v w/\lR C w G c v:=by
 unfold tn at h;split at h
 .rename_i t;split at h
  .rename_i F g;split at h
   .injection h with h;subst h;obtain⟨v,k,_,_,e⟩:=p.t t _ _ g;simp only[bc,bX,if_true]at e;refine⟨v,by simp[mr,k],?_⟩;unfold lR;simp only[aj,if_false];exact⟨_,rfl,e⟩
   cases h
  .rename_i l g;injection h with h;subst h;obtain⟨v,k,_,_,e⟩:=p.t t _ _ g;simp only[bc,bX,if_true]at e;refine⟨v,by simp[mr,k],?_⟩;unfold lR;simp only[if_true];exact e
  cases h
 rename_i t T;split at h
 .rename_i id g;obtain⟨v,k,_,_,e⟩:=p.t t _ _ g;simp only[bc,bX,if_true]at e;obtain⟨_,rfl⟩:=e;split at h
  .rename_i I J y;obtain⟨_,_,i,_⟩:=p.m.box _ _ _ y;split at h
   .cases h
   rename_i s;obtain⟨o,H,D,q⟩:=i.cells (by simpa using s);have d:∀j,w.cell? ⟨G.β id,j,none⟩=o[j]? :=by intro j;rw[cell_of_row w _ j _ H _ D];simp
   have b:∀{u:Tan},(Instr.loadAt T (.pointer (some ⟨G.β id,0,none⟩))).run P w=.ok u w->(do loadVar T (<-asAddr (a.tmps.getD t undef)):Sem Tan).run P w=.ok u w:=by
    intro u B;have E:a.tmps.getD t undef=.pointer (some ⟨G.β id,0,none⟩):=by simp[k]
    rw[E];simpa [Instr.loadAt,Instr.sureAddr,asAddr]using B
   split at h
   .rename_i z;split at h
    .rename_i r;injection h with h;subst h;refine⟨.agg o.toArray,b (jW r z q.1 (fun j v A=>by rw[av,d];exact A)),?_⟩;unfold lR;simp only[if_true];exact⟨o,rfl,q⟩
    cases h
   rename_i z;split at h
   .rename_i F;split at h
    .rename_i f;injection h with h;subst h;obtain⟨u,rfl⟩:∃u,o=[u]:=bI.1 q.1;refine⟨u,b (nr (by simpa using z) f (by rw[d];rfl)),?_⟩;unfold lR;simp only[aj,if_false];exact⟨_,rfl,q.2 0 _ u rfl rfl⟩
    cases h
   cases h
  cases h
 cases h
def qX{L:lj}(k:gQ n w0 S0 C G σ a w)(q:(L.map (·.1)).Nodup):∀{b:List (Bool×List bF)} {xs:List ResultVar} {es:List E} {l:lj},jq P σ b xs=some (es,l)->(∀x∈l,x∈L)->
  ∃d:Tac,(xs.mapM (m:=Sem) (mr a)).run P w=.ok d w/\d.length=b.length/\es.length=b.length/\xs.length=b.length/\
   ∀(i:Nat) r v e,b[i]?=some r->d[i]?=some v->es[i]?=some e->gk w 0 G.S (pY G L) r v (den C.ρ e)
 |[],[],es,l,h,_=>by simp only[jq,aa,ah]at h;obtain⟨rfl,rfl⟩:=h;exact⟨[],by simp,rfl,rfl,rfl,by intro i r v e f;simp at f⟩
 |[],_::_,_,_,h,_=>by cases h
 |_::_,[],_,_,h,_=>by cases h
 |r::b,x::xs,es,l,h,hL=>by
  simp only[jq]at h;split at h
  .rename_i e M I K p H;obtain⟨rfl,rfl⟩:=iP h;cases hc:tn P σ x with
   |none=>simp[hc]at p
   |some c=>
    simp only[hc,cq]at p;obtain⟨v,F,D⟩:=Gg k hc;obtain⟨d,B,A,z,y,u⟩:=qX k q H (fun x g=>hL x (by simp[g]));refine⟨v::d,?_,by simp[A],by simp[z],by simp[y],fun i t s J f j o=>?_⟩
    .rw[List.mapM_cons,bw,F,bZ,bw,B];rfl
    cases i with
    |zero=>simp at f j o;subst f;subst j;subst o;exact IK k.m q p D (fun x g=>hL x (by simp[g]))
    |succ i=>exact u i t s J (by simpa using f) (by simpa using j) (by simpa using o)
  cases h
def sy{fn:Func}{vs:Tac}(h:(fn.results.toList.mapM (m:=Sem) (mr a)).run P w=.ok vs w):
  (results fn a.tmps).run P w=.ok (Hn vs) w:=by
 have c:results fn a.tmps=(do
   let vs<-fn.results.mapM (mr a)
   pure (if h:vs.size=1 then vs[0] else .tuple vs)):=by unfold results;rfl
 rw[c]
 have b:(fn.results.mapM (m:=Sem) (mr a)).run P w=.ok vs.toArray w:=by have d:=Array.mapM_eq_mapM_toList (m:=Sem) (f:=mr a) (xs:=fn.results);rw[d,Sem.run_map,h];rfl
 rw[bw,b,bZ]
 match vs with
 |[]=>rfl
 | [v]=>rfl
 |_::_::_=>rfl
def nt:∀{rs:List (Bool×List bF)} {xs:List ResultVar} {es:List E} {l:lj},jq P σ rs xs=some (es,l)->cU rs=l.map (·.1)
 |[],xs,es,l,h=>by
  cases xs<;>simp[jq]at h
  obtain⟨rfl,rfl⟩:=h;rfl
 |_::_,[],_,_,h=>by cases h
 |r::rs,x::xs,es,l,h=>by
  simp only[jq]at h;split at h
  .rename_i b e;injection h with h;simp only[ah]at h;rw[<-h.2,ck,<-nt e];have:cU (r::rs)=(r.2.filterMap fun x=>x.2.map (·.1))++cU rs:=by simp[cU]
   rw[this];congr 1;cases YE:tn P σ x with
   |none=>simp[YE]at b
   |some c=>
    simp only[YE,cq]at b;unfold vM at b;split at b
    .split at b
     .rename_i d;split at b
      .injection b with b;simp only[ah]at b;rw[<-b.2];exact nu d
      split at b
      .injection b with b;simp only[ah]at b;rw[<-b.2];exact nu d
      cases b
     cases b
    cases b
  cases h
def pS:∀{f:List (Bool×List bF)} {xs:List ResultVar} {es:List E} {l:lj},jq P σ f xs=some (es,l)->∀j g,(j,some g)∈l->∃z,σ.live g=some z
 |[],xs,es,l,h,j,g,d=>by cases xs<;>simp[jq]at h;obtain⟨rfl,rfl⟩:=h;simp at d
 |r::f,[],es,l,h,j,g,d=>by cases h
 |r::f,x::xs,es,l,h,j,g,d=>by
  simp only[jq]at h;split at h
  .rename_i b i;injection h with h;simp only[ah]at h;rw[<-h.2]at d;rcases aM.1 d with d|d
   .cases YE:tn P σ x with
    |none=>simp[YE]at b
    |some c=>
     simp only[YE,cq]at b;unfold vM at b;split at b
     .split at b
      .rename_i e;split at b
       .injection b with b;simp only[ah]at b;rw[<-b.2]at d;exact mB e d
       split at b
       .injection b with b;simp only[ah]at b;rw[<-b.2]at d;exact mB e d
       cases b
      cases b
     cases b
   exact pS i j g d
  cases h
def Ee{f:Nat}{fn:Func}{c:Code}{p:dL}{a0:Taf->Prop}{B:Taf->D}(cs:ni)(fw wl:Qp)(Φ:Taa)(Pre:eN)(Z:List (Nat×EH))(v:VC)(hf:P.funcs[f]?=some fn)(K:fn.body=some c)(a1:(fn.name== "runtime.NumGoroutine")=false)(a9:P.follows .mixedOrders=true)(c9:p.params.length<=fn.ntmps)(a8:p.ob=none)(a2:cs.mp=[]/\cs.et=[])(b2:∀k p,lk cs.l k=some p->bu P k p (Pre k) (Φ k))(J:cs.fr=0/\Mz p.res=true\/cs.fr=1)(c2:∀k y,lk fw k=some y->D3 P k y.1 y.2 (fun _=>True) (Φ k))(b6:∀k y,lk wl k=some y->Iw P k y.1 y.2)(hv:vc ⟨P,cs,fn.ntmps,Z,fw,wl,[]⟩ c (fun ex σ _ _=>match ex with| .exit _=>.stuck 20|_=>JA P p fn σ) (St.start p.params) p.params.length 0=v)(hc:∀ds,dx (.V p.params) ds->a0 ds->v.holds Φ Pre (fun d=>d=B ds) (fun i=>ds.getD i .top) []):bu P f p a0 B where
 enter args w:=by
  unfold callFunc;have d2:fn.body.isNone=false:=by rw[K];rfl
  have V:fn.name≠ "runtime.NumGoroutine" :=by simpa using a1
  simp[hf,K,V]
 zC ob MF:=by rw[a8]at MF;cases MF
 Hp ob MF:=by rw[a8]at MF;cases MF
 calls _ w S vs ds C2 hlen KP UX V2:=by
  have d1:ds.length=p.params.length:=by rw[fH UX,Ty.dm]
  refine calls_of_wp hf K ?_;have I:=hc ds UX V2;rw[<-hv]at I
  refine Fl (w0:=w) (S0:=⟨S,fun _=>False,fun _=>none,cs.fr=1,False,P,[]⟩) (N:=⟨P,cs,fn.ntmps,Z,fw,wl,[]⟩) a9 b2 (fun _ _ _ _ _ _ b o K=>by
   rintro(h|h)
   .exact absurd (C2 b o K) (by show¬b<w.heap.size;have:w.heap.size<=b:=h;omega)
   exact h) ⟨fun h=>h,fun h=>h.elim,rfl,fun T kt h=>(by rw[show cs.mp=[] from a2.1]at h;cases h),fun k sg h=>(by rw[show cs.et=[] from a2.2]at h;cases h),fun k sg _ _ h=>(by rw[show cs.et=[] from a2.2]at h;cases h)⟩ c2 b6 (fun h=>by have:cs.fr=2:=h;omega) rfl c _ _ _ 0 _ [] _ I rfl (fun i b h=>(by cases h)) ?_ _ w ⟨S,fun _=>0,fun _=>.nilIface⟩ ?_
  .intro ex b4 p' d' M a4 a' w' G' _ _ _ _ F Q
   have b3:(JA P p fn b4).holds Φ Pre (fun d=>d=B ds) M a4->a'.defers=[]/\∃v,(results fn a'.tmps).run P w'=.ok v w'/\∃v0 S' τ,Ending.returned v=.returned v0/\Below w.heap.size w w'/\(∀b o,S b o->S' b o)/\(∀b o,S' b o->b<w'.heap.size)/\(∀b o,S' b o->S b o\/w.heap.size<=b)/\
     im w' 0 S' τ p.res v0 (B ds)/\(∀j b,j∈cU p.res->(τ j).ownBlock=some b->w.heap.size<=b)/\(∀j k b,j∈cU p.res->k∈cU p.res->(τ j).ownBlock=some b->(τ k).ownBlock=some b->j=k)/\∀j,j∈cU p.res->RZ j=true->yV (fun b=>w.heap.size<=b) w' S' (τ j):=by
    intro F;refine⟨Q.defers,?_⟩;unfold JA at F;split at F
    .rename_i es l A;split at F
     .rename_i R;have X:=R;unfold pK at R;simp only[aT,bk]at R;obtain⟨d0,b7⟩:=R;have H:=pS A;obtain⟨us,h1,h2,h3,h4,h5⟩:=qX (L:=l) Q b7 A (fun x q=>q);refine⟨_,sy h1,_,G'.S,pY G' l,rfl,Q.m.below.to (fun _ h=>h),Q.m.jI,Q.m.dT,fun b o K=>(Q.m.gY b o K).imp (fun h=>h) (fun h=>h.elim (fun h=>h) (fun h=>h.elim)),?_,?_,?_,?_⟩
      .split at F
       .rename_i r e a7;have hd:den M e=B ds:=F;rw[a7]at h2 h5⊢;obtain⟨u,rfl⟩:∃u,us=[u]:=bI.1 h2;exact .inl ⟨r,rfl,by rw[<-hd];exact h5 0 r u e rfl rfl rfl⟩
       rename_i c7 _ d3 b8;have hd:den M (.un .ff (.V _))=B ds:=F
       have b0:p.res.length≠1:=by intro h;obtain⟨r,hr⟩:=bI.1 h;obtain⟨e,he⟩:=bI.1 (h3.trans h);exact b8 r e hr he
       have b9:Hn us=.tuple us.toArray:=by
        match us,h2 with
        |[],_=>rfl
        | [u],h2=>exact absurd h2.symm b0
        |_::_::_,_=>rfl
       rw[b9];refine .inr ⟨b0,us,c7.map (den M),rfl,by rw[<-hd];simp only[den,gg,U.den,D.A],h2,by simp[h3],fun i r u y hr hu hy=>?_⟩;simp only[ab,dn]at hy;obtain⟨e,he,rfl⟩:=hy;exact h5 i r u e hr hu he
      .intro j b hj K;rw[nt A]at hj;obtain⟨g,c0,c1⟩:=vN X hj K;obtain⟨z,hz⟩:=H _ _ c0;exact(Q.m.gh g z b hz c1).elim (fun h=>h) (fun h=>h.elim)
      .intro j k b hj b1 c6 c4;rw[nt A]at hj b1;exact xw Q.m X H hj b1 c6 c4
      intro j hj c3;rcases J with J|J
      .have:=bY.1 J.2 j hj;rw[c3]at this;cases this
      unfold pY;split
      .exact(Q.m.fresh J _).YN fun b K=>K.elim (fun h=>h) (fun h=>h.elim)
      intro a n d4 hv;exact .inl (by cases hv;rfl)
     exact F.elim
    exact F.elim
   cases ex with
   |normal=>exact b3 F
   |ret=>exact b3 F
   |exit i=>exact F.elim
  refine⟨⟨gw.refl _ _,fun _ _ h=>h,fun _ _ _=>rfl,fun i b h=>(by cases h),fun i b h=>(by cases h),C2,fun _ _ h=>.inl h,?_,?_,?_,?_,fun g x b q=>(by cases q),?_,?_,fun _ _=>yV.nilIface,fun h=>h.elim⟩,?_,?_,rfl⟩
  .intro id x q;cases q
  .intro id ro cs q;cases q
  .intro i j x y q;cases q
  .intro g e T t q;cases q
  .intro g g' x y b q;cases q
  .intro g id x y b q;cases q
  .intro t c s O;simp only[St.start]at O;split at O
   .rename_i ty W;obtain⟨rfl,rfl⟩:=iP O;have a6:t<p.params.length:=(aO.1 W).1;have a3:ds[t]?=some (ds[t]'(by omega)):=aS _;have a5:vs[t]?=some (vs[t]'(by omega)):=aS _;obtain⟨x,q,b5⟩:=cJ UX t ty (by rw[Ty.dm];exact W);rw[a3]at q;injection q with q;have Y:den (fun i=>ds.getD i .top) (.var t)=ds[t]'(by omega):=by show ds.getD t .top=_;exact gx a3
    refine⟨vs[t]'(by omega),?_,by simp,by simpa [SV.lt,SC.lt,E.lt]using a6,?_⟩
    .rw[Array.getElem?_append_left (by simp;omega)];simp[a5]
    simp only[bc,bX,if_true];refine⟨by simpa [E.lt]using a6,?_,?_⟩
    .show cg w S _ (den (fun i=>ds.getD i .top) (.var t));rw[Y];exact KP t _ _ a5 a3
    show Has ty (den (fun i=>ds.getD i .top) (.var t));rw[Y,q];exact b5
   cases O
  simp;omega
end
def mL:Nat->List bF->List SC
 |_,[]=>[]
 |k,c::r=>oc true 0 (.var k) c::mL (k+1) r
def tk:Nat->List bF->List (Tag×Tao (E×Tba×Ty))
 |_,[]=>[]
 |k,c::r=>kE 0 (.var k) c++tk (k+1) r
def ir(l:List Bool):Nat:=(l.filter fun b=> !b).length
def pL(c:Nat)(b:List (List bF))(o:Nat):Nat:=c+(b.take o).flatten.length
def zR(ob:Ob):Tak:=if ij ob.shape<ob.cH.length then some (ob.cH.length-1) else none
def St.oa(b:dL)(ob:Ob):St:=
 ⟨fun i=>match ob.shape[i]? with
   |some false=>(b.params[ir (ob.shape.take i)]?).map fun d=>([],.one (.gH (.var (ir (ob.shape.take i))) d))
   |some true=>some ([],.one (.qo (ij (ob.shape.take i)) 0))
   |none=>none,
  fun o=>(ob.cH[o]?).map fun c=>(false,uE (zR ob) c (mL (pL (ir ob.shape) ob.cH o) c)),
  fx (fun _=>none) (tk (ir ob.shape) ob.cH.flatten)⟩
def Z7(P:Tap)(σ:St)(b:dL)(ob:Ob)(fn:Func):Tao (E×lj×Tah):=
 match ob.new with
 |true=>match fn.results.toList with
  | [.tmp t]=>match σ.tm t with
   |some ([],.one (.qo id 0))=>if ob.cH.length<=id then some (.un .ff .nil,[],[id]) else none
   |_=>none
  |_=>none
 |false=>match jq P σ b.res fn.results.toList with
  |some (es,l)=>some ((match b.res,es with| [_],[e]=>e|_,es=>.un .ff (.V es)),l,[])
  |none=>none
def vC(σ:St)(ob:Ob)(fr:Tah):Tah:=if ob.mv then List.range (ob.cH.length-1)++(match σ.hp 0,ob.outs with
  |some (_,cs),rc::_=>(Iq rc cs).toList
  |_,_=>[]) else List.range ob.cH.length++fr
def VH(ob:Ob)(ids:Tah):Tak:=if ob.mv then ids[ob.cH.length-1]? else zR ob
def zy(P:Tap)(b:dL)(ob:Ob)(fn:Func)(σ:St):VC:=
 match Z7 P σ b ob fn with
 |some (e,l,fr)=>match ug σ ob.outs (vC σ ob fr) with
  |some (YJ,ls)=>if pK (l++ls)&&yH σ ob.outs (vC σ ob fr) (VH ob (vC σ ob fr))&&(!ob.mv||decide ((vC σ ob fr).Nodup)) then .ret (.un .ff (.cons e (.V (YJ.map fun c=>.un .agg (.V c))))) else .stuck 10
  |none=>.stuck 12
 |none=>.stuck 11
def UR(fn:Func)(b:dL)(ob:Ob):Bool:=
 fn.body.isSome&& !(fn.name== "runtime.NumGoroutine")&&decide (ob.shape.length<=fn.ntmps)&&decide (0<b.params.length)&&decide (ob.cH.length<=b.params.length)&&(ob.cH.all fun c=>c.all Z8)&&
 decide (b.params.length=ir ob.shape+ob.cH.flatten.length)&&decide (ij ob.shape<=ob.cH.length)&&decide (ob.jH.Nodup)&&decide (ob.outs.length=ob.cH.length+ob.new.toNat)&&(!ob.new||b.res.isEmpty)&&(!ob.mv||decide (ij ob.shape<ob.cH.length))
def qW:∀(l:List bF) (k i:Nat),(mL k l)[i]?=(l[i]?).map fun c=>oc true 0 (.var (k+i)) c
 |[],k,i=>by simp[mL]
 |c::l,k,0=>by simp[mL]
 |c::l,k,i+1=>by simp only[mL,dw,qW l (k+1) i];congr 2;funext c;congr 2;omega
def wD:∀(l:List bF) (k:Nat),(mL k l).length=l.length
 |[],_=>rfl
 |_::l,k=>by simp[mL,wD l]
def xX:∀{l:List bF} {k:Nat} {x},x∈tk k l->∃(i:Nat) (c:bF),l[i]?=some c/\x∈kE 0 (.var (k+i)) c
 |[],k,x,h=>by simp[tk]at h
 |c::l,k,x,h=>by
  simp only[tk,aM]at h;rcases h with h|h
  .exact⟨0,c,rfl,h⟩
  obtain⟨i,e,d,b⟩:=xX h;exact⟨i+1,e,by simpa using d,by rw[show k+(i+1)=k+1+i by omega];exact b⟩
def yg{b:Type}:∀{ls:List (List b)} {i:Nat} {x:b},ls.flatten[i]?=some x->∃(o c:Nat) (l:List b),ls[o]?=some l/\l[c]?=some x/\i=(ls.take o).flatten.length+c
 |[],i,x,h=>by simp at h
 |l::ls,i,x,h=>by
  rw[eS]at h;by_cases e:i<l.length
  .rw[an e]at h;exact⟨0,i,l,rfl,h,by simp⟩
  rw[aL (by omega)]at h;obtain⟨o,c,d,g,f,j⟩:=yg h;exact⟨o+1,c,d,by simpa using g,f,by simp only[fO,eS,ai];omega⟩
def uX{b:Type}:∀{ls:List (List b)} {o c:Nat} {l:List b} {x:b},ls[o]?=some l->l[c]?=some x->ls.flatten[(ls.take o).flatten.length+c]?=some x
 |[],o,c,l,x,h,_=>by simp at h
 |l'::ls,0,c,l,x,h,h'=>by simp at h;subst h;have d:c<l'.length:=(aO.1 h').1;simp only[List.take_zero,List.flatten_nil,fj,av,eS];rw[an d];exact h'
 |l'::ls,o+1,c,l,x,h,h'=>by have:=uX (ls:=ls) (o:=o) (c:=c) (by simpa using h) h';simp only[fO,eS,ai];rw[aL (by omega),show l'.length+(ls.take o).flatten.length+c-l'.length=(ls.take o).flatten.length+c by omega];exact this
def wL{b β:Type}:∀{xs:List (List b)} {ys:List (List β)},xs.length=ys.length->(∀(i:Nat) x y,xs[i]?=some x->ys[i]?=some y->x.length=y.length)->∀o,(xs.take o).flatten.length=(ys.take o).flatten.length
 |[],[],_,_,o=>by simp
 |[],_::_,h,_,_=>by simp at h
 |_::_,[],h,_,_=>by simp at h
 |x::xs,y::ys,h,h',0=>by simp
 |x::xs,y::ys,h,h',o+1=>by have:=wL (xs:=xs) (ys:=ys) (by simpa using h) (fun i x y d c=>h' (i+1) x y (by simpa using d) (by simpa using c)) o;simp only[fO,eS,ai,this,h' 0 x y rfl rfl]
def xG{w:Tam}{S:bE}{β:Nat->Nat}:∀{c:List Bool} {k:Nat} {vs:Tac} {dd:Taf},rV w S β c k vs dd->vs.length=c.length/\dd.length=ir c/\
  ∀(i:Nat) b,c[i]?=some b->∃v,vs[i]?=some v/\(if b then v=.pointer (some ⟨β (k+ij (c.take i)),0,none⟩) else∃d,dd[ir (c.take i)]?=some d/\cg w S v d)
 |[],k,[],[],_=>⟨rfl,rfl,by intro i b h;simp at h⟩
 |true::c,k,v::vs,dd,⟨h1,h2⟩=>by
  obtain⟨l,j,g⟩:=xG h2;refine⟨by simp[l],by simp[ir,j],fun i b e=>?_⟩;cases i with
  |zero=>simp at e;subst e;exact⟨v,rfl,by simpa [ij]using h1⟩
  |succ i=>
   obtain⟨u,m,f⟩:=g i b (by simpa using e);refine⟨u,by simpa using m,?_⟩;cases b with
   |true=>simp only[if_true]at f⊢;rw[f];simp only[fO,ij,List.filter_cons,if_true,bg];rw[show k+1+(List.filter (fun b=>b) (List.take i c)).length=k+((List.filter (fun b=>b) (List.take i c)).length+1) by omega]
   |false=>simpa [ir]using f
 |false::c,k,v::vs,d::dd,⟨h1,h2⟩=>by
  obtain⟨l,j,g⟩:=xG h2;refine⟨by simp[l],by simp only[ir,List.filter_cons,Bool.not_false,if_true,bg]at j⊢;omega,fun i b e=>?_⟩;cases i with
  |zero=>simp at e;subst e;exact⟨v,rfl,by simpa [ir]using h1⟩
  |succ i=>
   obtain⟨u,m,f⟩:=g i b (by simpa using e);refine⟨u,by simpa using m,?_⟩;cases b with
   |true=>simpa [ij]using f
   |false=>simpa [ir]using f
 |[],_,_::_,_,h=>by simp[rV]at h
 |[],_,[],_::_,h=>by simp[rV]at h
 |true::_,_,[],_,h=>by simp[rV]at h
 |false::_,_,[],_,h=>by simp[rV]at h
 |false::_,_,_::_,[],h=>by simp[rV]at h
def CM:∀{l:List Bool} {i:Nat},l[i]?=some true->ij (l.take i)<ij l
 |[],i,h=>by simp at h
 |b::l,0,h=>by simp at h;subst h;simp[ij]
 |b::l,i+1,h=>by have:=CM (l:=l) (i:=i) (by simpa using h);unfold ij at this⊢;cases b<;>simp at this⊢<;>omega
section
variable{P:Tap}{C:Cx}{w w0:Tam}{S0:gK}{G:Gh}{σ:St}{a:Act}{n:Nat}
def My(cs:List (Nat×dL)):Bool:=cs.all fun x=>match x.2.ob with|some ob=> !ob.wW|none=>true
def Rf{cs:List (Nat×dL)}(h:My cs=true){k:Nat}{b:dL}{ob:Ob}(e:lk cs k=some b)(c:b.ob=some ob)(d:ob.wW=true):False:=by have:=bY.1 h _ (iL e);simp only[c,d]at this;cases this
def ya{f:Nat}{fn:Func}{c:Code}{q:dL}{ob:Ob}{f8:Taf->Prop}{yS:Taf->D}(cs:ni)(Φ:Taa)(Pre:eN)(f7:List (Nat×EH))(v:VC)(hf:P.funcs[f]?=some fn)(hb:fn.body=some c)(j2:P.follows .mixedOrders=true)(d0:q.ob=some ob)(m3:cs.mp=[])(j1:∀k sg,lk cs.et k=some sg->∃sF t,sg.nn=some (sF,t)/\Qo P k sF (Pre k) (Φ k))(hB:UR fn q ob=true)(l9:My cs.l=true)(o7:cs.fr=0)(k5:∀k q,lk cs.l k=some q->bu P k q (Pre k) (Φ k))(hv:vc ⟨P,cs,fn.ntmps,f7,[],[],[]⟩ c (fun ex σ _ _=>match ex with| .exit _=>.stuck 20|_=>zy P q ob fn σ) (St.oa q ob) q.params.length 0=v)(hc:∀ds,dx (.V q.params) ds->f8 ds->v.holds Φ Pre (fun d=>d=yS ds) (fun i=>ds.getD i .top) []):bu P f q f8 yS:=by
 unfold UR at hB;simp only[aT,bk]at hB;obtain⟨⟨⟨⟨⟨⟨⟨⟨⟨⟨⟨_,g6⟩,o4⟩,f1⟩,n7⟩,g0⟩,g2⟩,o8⟩,n8⟩,a4⟩,d5⟩,f2⟩:=hB;have d2:ob.mv=true->ij ob.shape<ob.cH.length:=fun hm=>by rw[hm]at f2;simpa using f2
 refine⟨fun o0 w=>?_,fun J=>(by rw[d0]at J;cases J),fun l0 J _ w S β τ vs dd oo a1 i2 i7=>?_,fun l0 J b2=>absurd b2 (by rw[d0]at J;injection J with J;subst J;intro b2;unfold Ob.wW at b2;simp only[aT,List.isEmpty_iff,beq_iff_eq]at b2;obtain⟨⟨_,H⟩,A⟩:=b2;have h3:=a4;rw[A,H]at h3;cases M:ob.new<;>rw[M]at h3<;>simp at h3)⟩
 .unfold callFunc
  have e8:fn.name≠ "runtime.NumGoroutine" :=by simpa using g6
  simp[hf,hb,e8]
 rw[d0]at J;injection J with J;subst J;obtain⟨o3,n9,k7⟩:=xG a1.args
 have i8:∀(o:Nat) F cells,ob.cH[o]?=some F->oo[o]?=some cells->F.length=cells.length:=by intro o F cells H A;obtain⟨_,_,_,_,h3,_⟩:=a1.cH o F cells H A;exact h3.symm
 have i9:∀o,(ob.cH.take o).flatten.length=(oo.take o).flatten.length:=wL (by rw[a1.len]) i8;let ds:=dd++oo.flatten
 have i1:∀(o c:Nat) cells d,oo[o]?=some cells->cells[c]?=some d->ds.getD (pL (ir ob.shape) ob.cH o+c) .top=d:=by intro o c cells d H A;refine gx ?_;show(dd++oo.flatten)[_]?=_;rw[aL (by unfold pL;omega)];have:=uX H A;rw[<-i9]at this;rw[<-this];congr 1;unfold pL;omega
 have f6:∀(o c:Nat) F r,ob.cH[o]?=some F->F[c]?=some r->pL (ir ob.shape) ob.cH o+c<q.params.length:=by intro o c F r H A;have:=(aO.1 (uX H A)).1;rw[g2];unfold pL;omega
 let S1:gK:=⟨S,uB ob β τ,fun o=>if o<ob.cH.length then some (β o) else none,False,False,P,[]⟩;let G1:Gh:=⟨S,β,fun g=>τ g.2⟩;let C1:Cx:=⟨fun i=>ds.getD i .top,q.params.length,fun i=>i<q.params.length⟩
 have d8:∀(o:Nat) F,ob.cH[o]?=some F->∃cells O T,oo[o]?=some cells/\w.heap[β o]?=some (.cells (List.toArray O) T (0,0))/\O.length=F.length/\(∀o',¬S (β o) o')/\
   ∀(i:Nat) r u,F[i]?=some r->O[i]?=some u->∃d,C1.ρ (pL (ir ob.shape) ob.cH o+i)=d/\jN w 0 S τ r u d:=by
  intro o F ho;have c2:o<oo.length:=by rw[a1.len];exact(aO.1 ho).1
  obtain⟨O,T,H,A,h3,h4,h5⟩:=a1.cH o F _ ho (aS c2);refine⟨_,O,T,aS c2,H,A,h5,fun i r u hr hu=>?_⟩;have a2:i<oo[o].length:=by rw[h3];exact(aO.1 hr).1
  exact⟨_,i1 o i _ _ (aS c2) (aS a2),h4 i r u _ hr hu (aS a2)⟩
 have Q:∀g x,(St.oa q ob).live g=some x->∃(o c:Nat) (F:List bF) (t:Ty) (j:Nat) (T:Tba),ob.cH[o]?=some F/\F[c]?=some (t,some (j,T))/\g=(0,j)/\x=(.var (pL (ir ob.shape) ob.cH o+c),T,t):=by
  intro g x Y;have e5:fx (fun _=>none) (tk (ir ob.shape) ob.cH.flatten) g=some x:=Y;unfold fx at e5;split at e5
  .rename_i y hy;subst e5;obtain⟨i,r,hr,hm⟩:=xX (iL hy);obtain⟨o,c,F,H,A,h3⟩:=yg hr;obtain⟨t,_|⟨j,T⟩⟩:=r
   .simp[kE]at hm
   simp only[kE,ax,ah,aa]at hm;obtain⟨rfl,rfl⟩:=hm;exact⟨o,c,F,t,j,T,H,A,rfl,by rw[h3];unfold pL;rw[eB]⟩
  cases e5
 have a5:∀(o c:Nat) F t j T,ob.cH[o]?=some F->F[c]?=some (t,some (j,T))->j∈ob.jH:=by intro o c F t j T H A;unfold Ob.jH;refine dj.2 ⟨F,bQ H,?_⟩;unfold E5;exact bH.2 ⟨_,bQ A,rfl⟩
 have g3:∀g e T t,(St.oa q ob).live g=some (e,T,t)->jg C1 w 0 G1 g e T t:=by
  intro g e T t Y;obtain⟨o,c,F,t',j,T',H,A,rfl,he⟩:=Q g _ Y;simp only[ah]at he;obtain⟨rfl,rfl,rfl⟩:=he;obtain⟨cells,O,T0,_,_,h3,_,h4⟩:=d8 o F H;have g9:c<O.length:=by rw[h3];exact(aO.1 A).1
  obtain⟨d,hd,h8⟩:=h4 c _ _ A (aS g9);obtain⟨_,n0⟩:=h8;exact n0.ok (C:=C1) (G:=G1) (g:=(0,j)) f1 (by simpa [E.lt]using f6 o c F _ H A) hd rfl rfl
 have e6:gQ fn.ntmps w S1 C1 G1 (St.oa q ob) ⟨vs.toArray++Array.replicate (fn.ntmps-vs.length) undef,[]⟩ w:=by
  refine⟨⟨gw.refl _ _,fun _ _ h=>h,fun _ _ _=>rfl,?_,?_,a1.lt,fun _ _ h=>.inl h,?_,?_,?_,g3,?_,?_,?_,fun h=>h.elim,fun h=>h.elim⟩,?_,?_,rfl⟩
  .intro i b B;simp only[S1]at B;split at B
   .rename_i o6;injection B with B;exact⟨by show i<q.params.length;omega,B⟩
   cases B
  .exact fun _ _ _=>trivial
  .intro o x Y;simp only[St.oa,dn]at Y;obtain⟨F,b1,_⟩:=Y;have:=(aO.1 b1).1;show o<q.params.length;omega
  .intro o ro p0 Y;simp only[St.oa,dn,ah]at Y;obtain⟨F,b1,rfl,rfl⟩:=Y;have c2:=(aO.1 b1).1;obtain⟨cells,O,T,_,H,A,h3,h4⟩:=d8 o F b1;refine⟨.inr ⟨.inl ⟨o,c2,rfl⟩,o,by simp only[S1];rw[if_pos c2]⟩,?_,jL.mk (vs:=O) (T:=T) H ⟨by rw[AE,wD,A],?_⟩,by simpa using h3⟩
   .rw[bY];intro y hy;obtain⟨j,hj⟩:=aE hy;obtain⟨c0,hj,b8⟩:=sr hj;rcases b8 with rfl|⟨_,_,_,rfl⟩
    rotate_left
    .rfl
    rw[qW]at hj;simp only[dn]at hj;obtain⟨r,hr,rfl⟩:=hj;have:=bY.1 (bY.1 g0 F (bQ b1)) r (bQ hr);obtain⟨t,_|⟨j0,T0⟩⟩:=r
    .exact this
    cases KJ:BA j0<;>simp[oc,KJ,SC.scalar]
   intro i y u hy hu;obtain⟨c0,hy,b8⟩:=sr hy;rcases b8 with rfl|⟨l1,R,l7,rfl⟩
   rotate_left
   .have b9:ij ob.shape<ob.cH.length:=by
     unfold zR at R;split at R
     .assumption
     cases R
    have j8:l1=ob.cH.length-1:=by unfold zR at R;rw[if_pos b9]at R;injection R with R;exact R.symm
    have hl:=a1.link b9 o i F b1 l7;rw[cell_of_row w _ i _ T (0,0) H,dr,hu]at hl;injection hl with hl;subst j8;exact⟨by show ob.cH.length-1<q.params.length;omega,hl⟩
   rw[qW]at hy;simp only[dn]at hy;obtain⟨r,hr,rfl⟩:=hy;obtain⟨d,hd,h8⟩:=h4 i r u hr hu;exact tS (C:=C1) (G:=G1) (e:=.var (pL (ir ob.shape) ob.cH o+i)) h8 f1 (by simpa [E.lt]using f6 o i F r b1 hr) hd (fun _=>rfl) true
  .intro i j x y B hj he;simp only[St.oa,dn]at B hj;obtain⟨_,B,_⟩:=B;obtain⟨_,hj,_⟩:=hj;exact a1.inj i j (aO.1 B).1 (aO.1 hj).1 he
  .intro g x b Y a6;obtain⟨o,c,F,t,j,T,H,A,rfl,_⟩:=Q g x Y;exact .inr (.inr ⟨j,a5 o c F t j T H A,a6⟩)
  .intro g g' x y b Y hy a6 j9;obtain⟨o,c,F,t,j,T,H,A,rfl,_⟩:=Q g x Y;obtain⟨o',c',o2,t',j',T',n4,n3,rfl,_⟩:=Q g' y hy;rw[a1.own j j' b (a5 _ _ _ _ _ _ H A) (a5 _ _ _ _ _ _ n4 n3) a6 j9]
  .intro g o x y b Y hy a6;obtain⟨o',c,F,t,j,T,H,A,rfl,_⟩:=Q g x Y;simp only[St.oa,dn]at hy;obtain⟨_,hy,_⟩:=hy;exact a1.eV j o b (a5 _ _ _ _ _ _ H A) (aO.1 hy).1 a6
  .intro t p1 s a3;simp only[St.oa]at a3;split at a3
   .rename_i e7;simp only[dn,ah]at a3;obtain⟨ty,f0,rfl,rfl⟩:=a3;obtain⟨u,hu,e2⟩:=k7 t false e7;simp only[aj,if_false]at e2;obtain⟨d,hd,i6⟩:=e2;have m8:ir (ob.shape.take t)<dd.length:=(aO.1 hd).1;have k4:ds[ir (ob.shape.take t)]?=some d:=by show(dd++oo.flatten)[_]?=_;rw[an m8];exact hd
    obtain⟨x,Y,l2⟩:=cJ i2 _ ty (by rw[Ty.dm];exact f0)
    have l3:x=d:=by have:ds[ir (ob.shape.take t)]?=some x:=Y;rw[k4]at this;injection this with this;exact this.symm
    subst l3;have f5:den C1.ρ (.var (ir (ob.shape.take t)))=x:=gx k4;have f3:ir (ob.shape.take t)<q.params.length:=(aO.1 f0).1;refine⟨u,?_,by simp,by simpa [SV.lt,SC.lt,E.lt]using f3,?_⟩
    .have f9:t<vs.length:=(aO.1 hu).1;rw[Array.getElem?_append_left (by simpa using f9)];simpa using hu
    simp only[bc,bX,if_true];exact⟨by simpa [E.lt]using f3,by rw[f5];exact i6,by rw[f5];exact l2⟩
   .rename_i e7;injection a3 with a3;simp only[ah]at a3;obtain⟨rfl,rfl⟩:=a3;obtain⟨u,hu,e2⟩:=k7 t true e7;simp only[if_true,av]at e2;refine⟨u,?_,by simp,rfl,?_⟩
    .have f9:t<vs.length:=(aO.1 hu).1;rw[Array.getElem?_append_left (by simpa using f9)];simpa using hu
    simp only[bc,bX,if_true];refine⟨?_,e2⟩;show ij (ob.shape.take t)<q.params.length;have:=CM e7;omega
   cases a3
  simp;omega
 refine calls_of_wp hf hb ?_;have d7:=hc ds i2 i7;rw[<-hv]at d7;refine Fl (w0:=w) (S0:=S1) (N:=⟨P,cs,fn.ntmps,f7,[],[],[]⟩) j2 k5 (fun k q ob hk d0 b2=>(Rf l9 hk d0 b2).elim) ⟨fun h=>h.elim,fun h=>h.elim,rfl,fun T kt h=>(by rw[show cs.mp=[] from m3]at h;cases h),fun k sg h hn=>(by obtain⟨_,_,A,_⟩:=j1 k sg h;rw[hn]at A;cases A),fun k sg sF t h hn=>(by obtain⟨o1,t2,A,h3⟩:=j1 k sg h;rw[hn]at A;obtain⟨rfl,rfl⟩:=iP A;exact h3)⟩ (fun _ _ h=>by cases h) (fun _ _ h=>by cases h) (fun h=>by have:cs.fr=2:=h;omega) rfl c _ _ _ 0 _ [] _ d7 rfl (fun i b h=>?_) ?_ _ w G1 ?_
 .simp only[S1]at h;split at h
  .omega
  cases h
 .intro ex e4 p' d' a7 i0 a' w' G' _ _ _ _ hk hs
  have k8:(zy P q ob fn e4).holds Φ Pre (fun d=>d=yS ds) a7 i0->a'.defers=[]/\∃v,(results fn a'.tmps).run P w'=.ok v w'/\∃v0 S' k9 βn,Ending.returned v=.returned v0/\OO w S q ob β τ v0 (yS ds) w' S' k9 βn:=by
   intro hk;refine⟨hs.defers,?_⟩;unfold zy at hk;split at hk
   .rename_i e l fr I;split at hk
    .rename_i h9 ls c9;split at hk
     .rename_i b6;simp only[aT]at b6;obtain⟨⟨b6,d3⟩,d1⟩:=b6;obtain⟨ids,a9⟩:∃ids,ids=vC e4 ob fr:=⟨_,rfl⟩;rw[<-a9]at c9 d3 d1;have m1:ob.mv=true->ids.Nodup:=fun hm=>by rw[hm]at d1;simpa using d1
      have c7:=b6;unfold pK at b6;simp only[aT,bk]at b6;obtain⟨o5,g4⟩:=b6;obtain⟨q1,q2,q3,q4,q5,q6⟩:=Aq c9;have hd:den a7 (.un .ff (.cons e (.V (h9.map fun es=>.un .agg (.V es)))))=yS ds:=hk
      have m9:yS ds=.ff (den a7 e::(h9.map fun es=>es.map (den a7)).map .agg):=by rw[<-hd];simp only[den,gg,U.den,D.A,List.map_map];congr 2;apply List.map_congr_left;intro es _;simp only[Function.comp,den,gg,U.den,D.A]
      have X:∀o,o<ob.cH.length->G'.β o=β o:=fun o ho=>(hs.m.qq o (β o) (by simp only[S1];rw[if_pos ho])).2
      have c3:∃v0,(results fn a'.tmps).run P w'=.ok v0 w'/\(∀j g,(j,some g)∈l->∃z,e4.live g=some z)/\(if ob.new then l=[]/\∃id,fr=[id]/\ob.cH.length<=id/\v0=.pointer (some ⟨G'.β id,0,none⟩) else fr=[]/\cU q.res=l.map (·.1)/\im w' 0 G'.S (pY G' (l++ls)) q.res v0 (den a7 e)):=by
       unfold Z7 at I;split at I
       .rename_i M;split at I
        .rename_i t l6;split at I
         .rename_i id ht;split at I
          .rename_i W;obtain⟨rfl,rfl,rfl⟩:=Mi I;obtain⟨u,H,_,_,A⟩:=hs.t t _ _ ht;simp only[bc,bX,if_true]at A;obtain⟨_,rfl⟩:=A;refine⟨_,?_,by simp,by rw[if_pos M];exact⟨rfl,id,rfl,W,rfl⟩⟩;have:=sy (P:=P) (w:=w') (a:=a') (fn:=fn) (vs:=[.pointer (some ⟨G'.β id,0,none⟩)]) (by rw[l6,List.mapM_cons,bw,show(mr a' (.tmp t)).run P w'=.ok (.pointer (some ⟨G'.β id,0,none⟩)) w' from(by simp[mr,H]),bZ,List.mapM_nil];rfl);exact this
          cases I
         cases I
        cases I
       rename_i M;split at I
       .rename_i es l' c4;obtain⟨rfl,rfl,rfl⟩:=Mi I;obtain⟨us,H,A,h3,h4,h5⟩:=qX (L:=l'++ls) hs g4 c4 (fun x Y=>aG _ Y);refine⟨_,sy H,pS c4,?_⟩;rw[M];simp only[aj,if_false];refine⟨trivial,nt c4,?_⟩;split
        .rename_i r e0 g1;rw[g1]at A h5⊢;obtain⟨u,rfl⟩:∃u,us=[u]:=bI.1 A;exact .inl ⟨r,rfl,h5 0 r u e0 rfl rfl rfl⟩
        rename_i n5 _ o9 m0
        have j5:q.res.length≠1:=by intro h;obtain⟨r,hr⟩:=bI.1 h;obtain⟨e,he⟩:=bI.1 (h3.trans h);exact m0 r e hr he
        have m2:Hn us=.tuple us.toArray:=by
         match us,A with
         |[],_=>rfl
         | [u],A=>exact absurd A.symm j5
         |_::_::_,_=>rfl
        rw[m2];refine .inr ⟨j5,us,n5.map (den a7),rfl,by simp only[den,gg,U.den,D.A],A,by simp[h3],fun i r u y hr hu hy=>?_⟩;simp only[ab,dn]at hy;obtain⟨e,he,rfl⟩:=hy;exact h5 i r u e hr hu he
       cases I
      obtain⟨v0,i4,m5,p⟩:=c3;have b7:∀j g,(j,some g)∈l++ls->∃z,e4.live g=some z:=fun j g hm=>(aM.1 hm).elim (m5 j g) (q5 j g)
      have k0:fr.length=ob.new.toNat:=by
       cases M:ob.new with
       |true=>rw[M]at p;simp only[if_true]at p;obtain⟨_,id,rfl,_⟩:=p;rfl
       |false=>rw[M]at p;simp only[aj,if_false]at p;rw[p.1];rfl
      let βn:Nat:=if ob.mv then G'.β (ids.getD (ob.cH.length-1) 0) else G'.β (fr.headD 0)
      have d4:ob.mv=true->∀i,i<ob.cH.length-1->ids[i]?=some i:=by intro hm i B;rw[a9];unfold vC;rw[if_pos hm,an (by simpa using B),da B]
      have e9:∀(i:Nat) id,ids[i]?=some id->kq ob β βn i=G'.β id:=by
       intro i id B;cases K:ob.mv with
       |true=>
        have j3:=d2 K;have g5:=Ob.Dt K
        have f4:i<ob.cH.length:=by have H:=(aO.1 B).1;rw[q2,a4,g5]at H;exact H
        by_cases j4:i<ob.cH.length-1
        .have A:=d4 K i j4;rw[B]at A;injection A with A;subst A;unfold kq;rw[if_pos ⟨f4,fun h=>by omega⟩,X id f4]
        have j7:i=ob.cH.length-1:=by omega
        unfold kq;rw[if_neg (fun h=>h.2 ⟨K,j7⟩)];show(if ob.mv then G'.β (ids.getD (ob.cH.length-1) 0) else G'.β (fr.headD 0))=_;rw[if_pos K,ae,<-j7,B];rfl
       |false=>
       have Z:ids=List.range ob.cH.length++fr:=by rw[a9];unfold vC;rw[K];rfl
       rw[Z]at B;have a8:βn=G'.β (fr.headD 0):=by show(if ob.mv then _ else _)=_;rw[K];rfl
       rw[a8];unfold kq;by_cases a2:i<ob.cH.length
       .rw[an (by simpa using a2)]at B;simp[a2]at B;subst B;rw[if_pos ⟨a2,fun h=>by rw[K]at h;cases h.1⟩,X i a2]
       rw[aL (by simp;omega)]at B;rw[if_neg (fun h=>a2 h.1)]
       have h0:i-(List.range ob.cH.length).length=0:=by have:=(aO.1 B).1;rw[k0]at this;cases M:ob.new<;>rw[M]at this<;>simp at this⊢<;>omega
       rw[h0]at B;show G'.β (fr.headD 0)=_;cases fr with
       |nil=>simp at B
       |cons x r=>simp at B;subst B;rfl
      have c6:kP q ob=(l++ls).map (·.1):=by
       cases M:ob.new with
       |true=>
        rw[M]at p d5;simp only[if_true]at p;have l8:q.res=[]:=by simpa using d5
        rw[p.1];unfold kP;rw[l8];exact q3
       |false=>
        rw[M]at p;simp only[aj,if_false]at p;unfold kP;rw[ck,p.2.1,q3]
      have b0:∀i,i<ob.outs.length->∃id,ids[i]?=some id:=by intro i B;exact⟨_,aS (by rw[q2];exact B)⟩
      refine⟨v0,i4,v0,G'.S,pY G' (l++ls),βn,rfl,⟨hs.m.below,hs.m.jI,hs.m.dT,hs.m.gY,hs.m.keep,⟨den a7 e,h9.map fun es=>es.map (den a7),m9,by simp[q1],?_,?_⟩,?_,?_,?_,?_,?_⟩⟩
      .cases M:ob.new with
       |true=>
        rw[M]at p;simp only[if_true]at p⊢;obtain⟨_,id,rfl,W,l5⟩:=p
        have K:ob.mv=false:=by
         cases hm:ob.mv with
         |false=>rfl
         |true=>rw[Ob.Dt hm]at M;cases M
        have Z:ids=List.range ob.cH.length++[id]:=by rw[a9];unfold vC;rw[K];rfl
        rw[Z]at q4;have a8:βn=G'.β id:=by show(if ob.mv then _ else _)=_;rw[K];rfl
        rw[a8];refine⟨l5,?_⟩;obtain⟨e3,a0⟩:=q4 id (by simp);rcases (hs.m.box _ _ _ a0).1 with h|⟨_,i,B⟩
        .exact h
        simp only[S1]at B;split at B
        .rename_i c1;injection B with B;obtain⟨n6,d6⟩:=q4 i (by simp[c1]);have:=hs.m.inj i id _ _ d6 a0 ((X i c1).trans B);omega
        cases B
       |false=>
        rw[M]at p;simp only[aj,if_false]at p⊢;exact p.2.2
      .intro i F cells H A;simp only[ab,dn]at A;obtain⟨es,m6,rfl⟩:=A;obtain⟨id,W⟩:=b0 i (aO.1 H).1;obtain⟨e3,lo,r1,r2,r3⟩:=q6 i F id es H W m6;obtain⟨_,_,d9,b5⟩:=hs.m.box _ _ _ r1;obtain⟨us,T,b3,b4⟩:=d9.cells (kL r2);obtain⟨k1,k2,k3⟩:=jU (L:=l++ls) hs.m g4 r2 b4 (fun x Y=>bC _ (r3 x Y));rw[e9 i id W];refine⟨us,T,b3,k2,by simp[k1],fun j r u d hr hu hd=>?_,by simpa using b5⟩;simp only[ab,dn]at hd;obtain⟨e1,m7,rfl⟩:=hd;exact k3 j r u e1 hr hu m7
      .intro j b hj hb;rw[c6]at hj;obtain⟨g,g7,a6⟩:=vN c7 hj hb;obtain⟨z,hz⟩:=b7 _ _ g7;exact hs.m.gh g z b hz a6
      .intro j k b hj j6 n2 n1;rw[c6]at hj j6;exact xw hs.m c7 b7 hj j6 n2 n1
      .intro j i b hj B hb;rw[c6]at hj;obtain⟨g,g7,a6⟩:=vN c7 hj hb;obtain⟨z,hz⟩:=b7 _ _ g7;obtain⟨id,W⟩:=b0 i B;obtain⟨e3,a0⟩:=q4 id (bQ W);rw[e9 i id W];exact hs.m.eV g id z _ b hz a0 a6
      .intro b9 i c F H hc;obtain⟨Yg,V⟩:=b0 (ob.cH.length-1) (by rw[a4];omega)
       have m4:VH ob ids=some Yg:=by
        unfold VH;cases K:ob.mv with
        |true=>exact V
        |false=>
         have Z:ids=List.range ob.cH.length++fr:=by rw[a9];unfold vC;rw[K];rfl
         rw[Z,an (by simp;omega),da (by omega)]at V;unfold zR;rw[if_pos b9];exact V
       rw[m4]at d3;obtain⟨id,W⟩:=b0 i (aO.1 H).1;obtain⟨e3,lo,r1,r2,r3⟩:=q6 i F id _ H W (aS (by rw[q1];exact(aO.1 H).1));obtain⟨_,_,d9,b5⟩:=hs.m.box _ _ _ r1;obtain⟨us,T,b3,b4⟩:=d9.cells (kL r2);obtain⟨k1,k2,k3⟩:=jU (L:=l++ls) hs.m g4 r2 b4 (fun x Y=>bC _ (r3 x Y));have g9:c<F.length:=(aO.1 hc).1;have g8:c<us.length:=by rw[k2];exact g9
       have k6:c<e3.length:=by rw[<-b4.1];exact g8
       have i3:=xz (Au d3 H W r1) hc (aS k6);have i5:=b4.2 c _ _ (aS k6) (aS g8);rw[i3]at i5;obtain⟨_,l4⟩:=i5;rw[e9 i id W,cell_of_row w' _ c _ T (0,0) b3,dr,aS g8,l4,e9 _ Yg V]
      intro K;have j3:=d2 K;obtain⟨Yg,V⟩:=b0 (ob.cH.length-1) (by rw[a4];omega)
      have a8:βn=G'.β Yg:=by show(if ob.mv then _ else _)=_;rw[if_pos K,ae,V];rfl
      rw[a8];obtain⟨e3,a0⟩:=q4 Yg (bQ V);rcases (hs.m.box _ _ _ a0).1 with h|⟨_,i,B⟩
      .exact .inr h
      simp only[S1]at B;split at B
      .rename_i c1;injection B with B;by_cases a2:i<ob.cH.length-1
       .exfalso;have A:=d4 K i a2;obtain⟨n6,d6⟩:=q4 i (bQ A);have h3:=hs.m.inj i Yg _ _ d6 a0 ((X i c1).trans B);subst h3;obtain⟨h4,h5⟩:=aO.1 A;obtain⟨h6,h7⟩:=aO.1 V;have:=(List.getElem_inj (m1 K) (h₀:=h4) (h₁:=h6)).1 (h5.trans h7.symm);omega
       have:i=ob.cH.length-1:=by omega
       subst this;exact .inl B.symm
      cases B
     exact hk.elim
    exact hk.elim
   exact hk.elim
  cases ex with
  |normal=>exact k8 hk
  |ret=>exact k8 hk
  |exit i=>exact hk.elim
 exact e6
end
def fvc(P:Tap)(cs:ni)(b:List (Nat×EH))(a:dL)(fn:Func):VC:=
 match fn.body with
 |some c=>vc ⟨P,cs,fn.ntmps,b,[],[],[]⟩ c (fun ex d _ _=>match ex with| .exit _=>.stuck 20|_=>JA P a fn d) (St.start a.params) a.params.length 0
 |none=>.stuck 30
def fnB(fn:Func)(a:dL):Bool:=a.ob.isNone&&fn.body.isSome&& !(fn.name== "runtime.NumGoroutine")&&decide (a.params.length<=fn.ntmps)
def frB(cs:ni)(a:dL):Bool:=cs.fr==0&&Mz a.res||cs.fr==1
def XK{cs:ni}{a:dL}(h:frB cs a=true):cs.fr=0/\Mz a.res=true\/cs.fr=1:=by unfold frB at h;simpa using h
def jm(P:Tap)(Pre:eN)(Φ:Taa)(cs:List (Nat×dL)):Prop:=∀k a,lk cs k=some a->bu P k a (Pre k) (Φ k)
def vQ{P:Tap}{Pre:eN}{Φ:Taa}:jm P Pre Φ []:=fun k a h=>by cases h
def aR{P:Tap}{Pre:eN}{Φ:Taa}{k:Nat}{s:dL}{cs:List (Nat×dL)}(h:bu P k s (Pre k) (Φ k))(t:jm P Pre Φ cs):jm P Pre Φ ((k,s)::cs):=fun j b a=>by
 simp only[lk]at a;split at a
 .rename_i e;subst e;injection a with a;subst a;exact h
 exact t j b a
def Lj{P:Tap}{f:Nat}{fn:Func}{a:dL}{e:Taf->Prop}{yS:Taf->D}{cs:ni}{Φ:Taa}{Pre:eN}{b:List (Nat×EH)}{v:VC}(g:P.follows .mixedOrders=true)(j:jm P Pre Φ cs.l)(o:frB cs a=true)(r:P.funcs[f]?=some fn)(p:fnB fn a=true)(m:fvc P cs b a fn=v)(n:cs.mp=[]/\cs.et=[])(s:∀k,dx (.V a.params) k->e k->v.holds Φ Pre (fun d=>d=yS k) (fun i=>k.getD i .top) []):bu P f a e yS:=by unfold fnB at p;simp only[aT,bk]at p;obtain⟨⟨⟨x,w⟩,u⟩,t⟩:=p;obtain⟨c,q⟩:=dk.1 w;refine Ee cs [] [] Φ Pre b v r q (by simpa using u) g t (by simpa using x) n j (XK o) (fun _ _ h=>by cases h) (fun _ _ h=>by cases h) ?_ s;unfold fvc at m;rw[q]at m;exact m
def db(l:Taf):(D.list l).A=l:=rfl
def eF(l:Taf):(D.agg l).A=l:=rfl
def eD(l:Taf):(D.ff l).A=l:=rfl
def eE(l:Taf):(D.ptr l).A=l:=rfl
def fD(f:Nat)(l:Taf):(D.fn f l).A=l:=rfl
def bU(k:IntKind)(n:Int):(D.int k n).q=n:=rfl
def cV(b:Bool):(D.bool b).W=b:=rfl
def wrap64{n:Int}(b: -9223372036854775808<=n)(a:n<=9223372036854775807):IntKind.wrap .i64 n=n:=by rw[IntKind.wrap_i64];omega
def ui{n:Int}:jX .i64 n↔ -9223372036854775808<=n/\n<=9223372036854775807:=by
 unfold jX;have b:IntKind.min .i64=-9223372036854775808:=by rfl
 have a:IntKind.max .i64=9223372036854775807:=by rfl
 rw[b,a]
end Go.dF
namespace Go.dF
open Go
def opsOf:Code->List Tbc
 |.region _ ops _=>ops.toList
 |.seq a b=>opsOf a++opsOf b
 |.cond _ a b=>opsOf a++opsOf b
 |.block _ c| .loop c| .scope c=>opsOf c
 |.rangeFunc _ _ a b=>opsOf a++opsOf b
 |_=>[]
def Rk(ops:List Tbc)(t:Nat):Nat:=match ops.find? (fun o=>o.dst==some t) with
 |some o=>match o.op with
  |.load _ (.tmp x)| .move (.tmp x)=>x
  |_=>t
 |none=>t
def zZ(ops:List Tbc):Nat->Nat->Nat
 |0,t=>t
 |f+1,t=>match ops.find? (fun o=>o.dst==some t) with
  |some o=>match o.op with
   |.fieldAddr _ (.tmp x) _=>zZ ops f x
   |.nilCheck (.tmp x)| .move (.tmp x)=>zZ ops f x
   |_=>t
  |none=>t
def OR(ops:List Tbc)(c:Code):Tah:=
 dedup ((opsOf c).flatMap fun o=>match o.op with
  |.store _ (.tmp x) _=>[zZ ops 10 x]
  |.mapUpdate _ (.tmp x) _ _=>[Rk ops x]
  |.call {callee:=.value _,args,.. }=>args.toList.filterMap fun x=>match x with| .tmp t=>some (zZ ops 10 t)|_=>none
  |_=>[])
def ph:Code->List (Nat×Code)
 |.seq a b=>ph a++ph b
 |.cond _ a b=>ph a++ph b
 |.block _ c| .scope c=>ph c
 |.loop c=>(match iZ c with|some i=>[(i,c)] |none=>[])++ph c
 |.rangeFunc _ _ a b=>(match iZ a with|some i=>[(i,.seq a b)] |none=>[])++ph b
 |_=>[]
def AW(P:Tap):Nat->Nat->Tba->List (Nat×Tba)
 |0,_,_=>[]
 |n+1,off,t=>match P.underlying t with
  |some (.slice e)=>[(off,e)]
  |some (.struct fs)=>fs.toList.flatMap fun f=>AW P n (off+f.offset) f.type
  |_=>[]
def RN(ops:List Tbc)(t:Nat):Tao Tba:=match ops.find? (fun o=>o.dst==some t) with
 |some o=>match o.op with
  |.alloc T=>some T
  |.box T _=>some T
  |_=>none
 |none=>none
def O7(P:Tap)(ops:List Tbc):List (Nat×Tba):=ops.filterMap fun o=>match o.dst with
 |some t=>match P.underlying o.type with
  |some (.slice e)=>some (t,e)
  |_=>none
 |none=>none
def XW(P:Tap)(all ops:List Tbc)(t:Nat):Tao Tba:=ops.findSome? fun o=>match o.op with
 |.call {callee:=.value _,args,argTypes}=>(args.toList.zip argTypes.toList).findSome? fun x=>match x.1 with
  |.tmp t'=>if zZ all 10 t'=t then(match P.underlying x.2 with|some (.pointer e)=>some e|_=>none) else none
  |_=>none
 |_=>none
def vS(P:Tap)(given:List (Nat×EH))(c:Tao Code):List (Nat×EH):=
 match c with
 |some c=>((ph c).map fun x=>let g:=(lk given x.1).getD {}
   (x.1,{own:=((O7 P (opsOf x.2)).filter fun y=> !g.own.contains (y.1,0))++g.own.filter (fun y=>y.2 !=0),boxes:=(((OR (opsOf c) x.2).filter fun t=> !g.boxes.any fun y=>y.1==t).map fun t=>(t,match (RN (opsOf c) t).orElse (fun _=>XW P (opsOf c) (opsOf x.2) t) with|some T=>AW P 4 0 T|none=>[]))++g.boxes,drop:=g.drop}))++given
 |none=>given
def lB(a:Taf)(d:Tal)(b:Taf->(Taf->Prop)->Prop):Prop:=
 ∃(I:Taf->Prop) (m:Taf->Nat),I a/\∀c,dx (.V d) c->I c->b c (fun e=>I e/\m e<m c)
def lB.intro{a:Taf}{b:Tal}{body:Taf->(Taf->Prop)->Prop}(I:Taf->Prop)(m:Taf->Nat)(e:I a)(h:∀c,dx (.V b) c->I c->body c (fun d=>I d/\m d<m c)):lB a b body:=⟨I,m,e,h⟩
section
variable{Φ:Taa}{Pre:eN}{R:D->Prop}{ρ:Nat->D}{kV:List (Taf->Prop)}
def fp{pc:dM}{e:E}{k:VC}:(VC.kx pc e k).holds Φ Pre R ρ kV=((bc ρ pc=true->(den ρ e).W=true)/\k.holds Φ Pre R ρ kV):=rfl
def ev{p f:Nat}{a:E}{pc:dM}{k:VC}:(VC.call p f a pc k).holds Φ Pre R ρ kV=((bc ρ pc=true->Pre f (den ρ a).A)/\k.holds Φ Pre R (fC ρ p (Φ f (den ρ a).A)) kV):=by simp only[VC.holds,forall_eq]
def ep{pc:dM}{e:E}{b:Nat}{k:VC}:(VC.room pc e b k).holds Φ Pre R ρ kV=((bc ρ pc=true->(den ρ e).A.length<=maxLen/\(den ρ e).A.length*b<=140737488355328)/\k.holds Φ Pre R ρ kV):=rfl
def cN{e:E}{t f:VC}:(VC.branch e t f).holds Φ Pre R ρ kV=(((den ρ e).W=true->t.holds Φ Pre R ρ kV)/\((den ρ e).W=false->f.holds Φ Pre R ρ kV)):=rfl
def eu{v0:Nat}{es:List E}{b:Tal}{a:VC}:(VC.loop v0 es b a).holds Φ Pre R ρ kV=lB (es.map (den ρ)) b (fun c J=>a.holds Φ Pre R (fX ρ v0 c) (J::kV)):=rfl
def dC{i:Nat}{es:List E}:(VC.again i es).holds Φ Pre R ρ kV=(match kV[i]? with|some J=>J (es.map (den ρ))|none=>False):=rfl
def fo{e:E}:(VC.ret e).holds Φ Pre R ρ kV=R (den ρ e):=rfl
end
def MH(given:List (Nat×EH))(c:Tao Code):Tah:=
 let l:=((lk given 1000000).getD {}).drop;let a:=match c with|some c=>opsOf c|none=>[]
 l++(if l.contains 1000000 then a.filterMap fun o=>match o.op with| .call {callee:=.builtin .append,.. }=>o.dst|_=>none else [])++
  (if l.contains 1000001 then
   let b:=a.filterMap fun o=>match o.op with| .call {callee:=.builtin .append,args,.. }=>(match args.toList with| [_,.tmp t]=>some t|_=>none)|_=>none
   a.filterMap fun o=>match o.op with| .buildSlice .. =>(match o.dst with|some d=>if b.contains d then none else some d|none=>none)|_=>none
  else [])
def nR(P:Tap)(cs:List (Nat×dL))(given:List (Nat×EH))(a:dL)(fn:Func):VC:=
 match fn.body,a.ob with
 |some c,some ob=>vc ⟨P,⟨cs,MH given fn.body,0,[],[]⟩,fn.ntmps,vS P given fn.body,[],[],[]⟩ c (fun ex b _ _=>match ex with| .exit _=>.stuck 20|_=>zy P a ob fn b) (St.oa a ob) a.params.length 0
 |_,_=>.stuck 30
def hZ{P:Tap}{f:Nat}{fn:Func}{a:dL}{ob:Ob}{b:Taf->Prop}{yS:Taf->D}{cs:List (Nat×dL)}{Φ:Taa}{Pre:eN}{given:List (Nat×EH)}{v:VC}(j:P.follows .mixedOrders=true)(k:jm P Pre Φ cs)(q:P.funcs[f]?=some fn)(g:a.ob=some ob)(p:UR fn a ob=true)(m:nR P cs given a fn=v)(r:∀l,dx (.V a.params) l->b l->v.holds Φ Pre (fun d=>d=yS l) (fun i=>l.getD i .top) [])(n:My cs=true:=by rfl):bu P f a b yS:=by have e:=p;unfold UR at e;simp only[aT]at e;obtain⟨c,o⟩:=dk.1 e.1.1.1.1.1.1.1.1.1.1.1;refine ya ⟨cs,MH given fn.body,0,[],[]⟩ Φ Pre (vS P given fn.body) v q o j g rfl (fun _ _ h=>by cases h) p n rfl k ?_ r;unfold nR at m;rw[g,o]at m;rw[o];exact m
def Wa(P:Tap)(cs:List (Nat×dL))(et:List (Nat×z8))(given:List (Nat×EH))(a:dL)(fn:Func):VC:=
 match fn.body,a.ob with
 |some c,some ob=>vc ⟨P,⟨cs,MH given fn.body,0,[],et⟩,fn.ntmps,vS P given fn.body,[],[],[]⟩ c (fun ex b _ _=>match ex with| .exit _=>.stuck 20|_=>zy P a ob fn b) (St.oa a ob) a.params.length 0
 |_,_=>.stuck 30
def Gr{P:Tap}{f:Nat}{fn:Func}{a:dL}{ob:Ob}{b:Taf->Prop}{yS:Taf->D}{cs:List (Nat×dL)}{et:List (Nat×z8)}{Φ:Taa}{Pre:eN}{given:List (Nat×EH)}{v:VC}(h:P.follows .mixedOrders=true)(j:jm P Pre Φ cs)(o:∀k q,lk et k=some q->∃r t,q.nn=some (r,t)/\Qo P k r (Pre k) (Φ k))(u:P.funcs[f]?=some fn)(g:a.ob=some ob)(s:UR fn a ob=true)(m:Wa P cs et given a fn=v)(w:∀l,dx (.V a.params) l->b l->v.holds Φ Pre (fun d=>d=yS l) (fun i=>l.getD i .top) [])(n:My cs=true:=by rfl):bu P f a b yS:=by have e:=s;unfold UR at e;simp only[aT]at e;obtain⟨c,p⟩:=dk.1 e.1.1.1.1.1.1.1.1.1.1.1;refine ya ⟨cs,MH given fn.body,0,[],et⟩ Φ Pre (vS P given fn.body) v u p h g rfl o s n rfl j ?_ w;unfold Wa at m;rw[g,p]at m;rw[p];exact m
def KQ(P:Tap)(cs:List (Nat×dL))(given:List (Nat×EH))(a:dL)(fn:Func):VC:=fvc P ⟨cs,MH given fn.body,0,[],[]⟩ (vS P given fn.body) a fn
def Gm{P:Tap}{f:Nat}{fn:Func}{a:dL}{b:Taf->Prop}{yS:Taf->D}{cs:List (Nat×dL)}{Φ:Taa}{Pre:eN}{given:List (Nat×EH)}{v:VC}(c:P.follows .mixedOrders=true)(e:jm P Pre Φ cs)(k:P.funcs[f]?=some fn)(m:fnB fn a=true)(j:KQ P cs given a fn=v)(l:∀g,dx (.V a.params) g->b g->v.holds Φ Pre (fun d=>d=yS g) (fun i=>g.getD i .top) [])(h:Mz a.res=true:=by rfl):bu P f a b yS:=
 Lj c e (by simp[frB,h]) k m j ⟨rfl,rfl⟩ l
def vr(a n:Nat):List E:=(List.range n).map fun i=>.var (a+i)
def cr(j n:Nat)(e:E):List E:=(List.range n).map fun i=>.un (.cell (j+i)) e
def rp(n:Nat)(e:E):List E:=List.replicate n e
def fl:List (List E)->List E
 |[]=>[]
 |l::r=>l++fl r
end Go.dF
namespace Go.dF
open Go Go.RowKit
def I(d:D)(j:Nat):Int:=(d.A.getD j .top).q
def agf:Ty:=.agg (.cons (.int .i64) (.cons (.int .i64) (.cons (.int .i64) (.nil))))
def ON:Ty:=.agg (.cons (.int .i64) (.cons (.int .i64) (.cons (.int .i64) (.cons (.int .i64) (.cons (.int .i64) (.cons (.int .i64) (.cons (.int .i64) (.cons (.int .i64) (.cons (.int .i64) (.cons (.bool) (.cons (.int .i64) (.nil))))))))))))
def CL{a:Type}{l:List a}{i:Nat}{x:a}(h:l[i]?=some x):l.drop i=x::l.drop (i+1):=by obtain⟨b,rfl⟩:=aO.1 h;exact cY b
def tq{a:Type}{l:List a}{i:Nat}{x:a}(h:l[i]?=some x):i<l.length:=(aO.1 h).1
def tA{a:Type}{l:List a}{i:Nat}(h:l[i]?=none):l.length<=i:=eO.1 h
def findF{a:Type}(p:a->Bool):List a->Int->Int
 |[],_=> -1
 |x::r,i=>if p x then i else findF p r (i+1)
def yi{a:Type}(p:a->Bool):∀(l:List a) (i:Int),(findF p l i=-1/\∀x∈l,p x=false)\/∃(n:Nat) (x:a),findF p l i=i+n/\l[n]?=some x/\p x=true/\∀y∈l.take n,p y=false
 |[],i=>.inl ⟨rfl,by simp⟩
 |x::r,i=>by
  unfold findF;cases hp:p x with
  |true=>exact .inr ⟨0,x,by simp,rfl,hp,by simp⟩
  |false=>
   rcases yi p r (i+1) with⟨h1,h2⟩|⟨n,y,h1,h2,h3,h4⟩
   .exact .inl ⟨by simpa using h1,by simp only[aH,forall_eq_or_imp];exact⟨hp,h2⟩⟩
   exact .inr ⟨n+1,y,by simp[h1];omega,by simpa using h2,h3,by simp only[fO,aH,forall_eq_or_imp];exact⟨hp,h4⟩⟩
end Go.dF
namespace Go.dF
open Go Go.RowKit Go.Shelf Go.Sort Go.Proofs
def hR(d:D):List Int:=d.A.map D.q
def fh(l:List Int):hR (.list (l.map (D.int .i64)))=l:=by simp[hR,D.A,List.map_map,Function.comp_def,D.q]
def kg(l:List Int):List Int:=l.mergeSort fun x y=>decide (x<=y)
def JZ:dL:=⟨[.list (.int .i64)],[],some ⟨[],[],[[],[]],false⟩⟩
def KA:dL:=⟨[.list (.int .i64)],[(false,[(.list (.int .i64),none)])],some ⟨[],[],[[],[]],false⟩⟩
def mS(T:Tba):dL:=⟨[.list (.int .i64)],[(false,[(.int .i64,some (1,T))])],none⟩
def yY(ds:Taf):D:=.list ((kg (hR (ds.getD 0 .top))).map (D.int .i64))
def zf(ds:Taf):D:=.list ((Lib.compact (hR (ds.getD 0 .top))).map (D.int .i64))
def wB(ds:Taf):D:=.list (ds.getD 0 .top).A
def qg{l:List Int}:Has (.list (.int .i64)) (.list (l.map (D.int .i64)))↔l.length*8<=140737488355328/\∀x∈l,jX .i64 x:=by
 constructor
 .intro h;obtain⟨_,b,⟨_,c⟩,f⟩:=bO.1 h;injection b with b;subst b;refine⟨by rw[ao]at c;exact c,fun x d=>?_⟩;obtain⟨n,a,e⟩:=dt.1 (f (.int .i64 x) (bq.2 ⟨x,d,rfl⟩));injection a with _ a;subst a;exact e
 rintro⟨b,c⟩;refine bO.2 ⟨_,rfl,⟨by rw[ao];exact aY (show _<=140737488355328 by omega) (by decide),by rw[ao];exact b⟩,fun x d=>?_⟩;obtain⟨n,a,rfl⟩:=bq.1 d;exact dt.2 ⟨n,rfl,c n a⟩
def qj(l:List Int):(kg l).length=l.length:=List.length_mergeSort l
def xy{l:List Int}{x:Int}:x∈kg l↔x∈l:=List.mem_mergeSort
def yd{l:List Int}{x:Int}(h:x∈Lib.compact l):x∈l:=by unfold Lib.compact Lib.compactUpTo at h;obtain⟨i,b,rfl⟩:=bq.1 h;have a:=(List.mem_filter.1 b).1;rw[cI]at a;rw[getElem!_pos _ i (by simpa using a)];simp
section
variable{P:Tap}{ρ:Ren}{fn:Func}
def AH{f:Nat}(e:P.funcs[f]?=some fn)(d:(fn.body.isSome&& !(fn.name== "runtime.NumGoroutine"))=true)(b:Tbd Tan)(w:Tam):(callFunc f b).run P w=.ok (.enter f b) w:=by
 simp only[aT,eT]at d;obtain⟨i,h⟩:=d;unfold callFunc;obtain⟨c,g⟩:=dk.1 i
 have a:fn.name≠ "runtime.NumGoroutine" :=by simpa using h
 simp[e,g,a]
def th{w w':Tam}{g:Nat}(h:w.grownBy w' (some g)):gw (fun b=>(Value.slice (some ⟨g,0,none⟩) 0 0).ownBlock=some b) w w':=
 ⟨h.os,h.tape,h.output,h.size,fun k c a=>h.block k c (fun e=>a (by simp only[aa]at e;subst e;rfl))⟩
def K6(L:Lays.n189 P ρ)(t:P.funcs[ρ.f 189]?=some fn)(u:(fn.body.isSome&& !(fn.name== "runtime.NumGoroutine"))=true):bu P (ρ.f 189) JZ (fun _=>True) yY:=by
 refine⟨AH t u,fun h=>(by cases h),fun p k m=>(by simp only[JZ,aa]at k;subst k;cases m),fun p _ _ w T v a d j _=>?_⟩;obtain⟨y,s⟩:=qg.1 j
 have b:yY [.list (a.map (D.int .i64))]=.list ((kg a).map (D.int .i64)):=by show D.list _=_;rw[show hR ([D.list (a.map (D.int .i64))].getD 0 .top)=a from fh a]
 have c:Has (.list (.int .i64)) (.list ((kg a).map (D.int .i64))):=qg.2 ⟨by rw[qj];exact y,fun x r=>s x (xy.1 r)⟩;rcases d.2 with⟨rfl,h0⟩|⟨g,cap,cur,rfl,Tx,YI,k,m,h3,h4⟩
 .have q:a=[]:=au h0;subst q;have z:kg []=[]:=by simp[kg]
  rw[z]at b c;refine(Any.slices_Sort_int_none L none 0 w).mono ?_;rintro e o ⟨rfl,rfl⟩;exact⟨_,.slice none 0 0,[],rfl,b,c,⟨rfl,⟨rfl,.inl ⟨rfl,rfl⟩⟩,rfl,gw.refl _ _⟩⟩
 have l:cur.toList.take a.length=a.map (Value.int .i64):=by simpa using h4
 refine(Any.slices_Sort_int L g 0 cap a w (holds_of_blockI YI l) (aP.1 YI).1 (by omega)).mono ?_;rintro e o ⟨rfl,n,os,rfl⟩;have i:=ownsRow_sortedI (n:=n) (os:=os) (ts:=kg a) (qj a) Tx YI k m h3;refine⟨_,.slice (some ⟨g,0,none⟩) a.length cap,kg a,rfl,b,c,⟨rfl,?_,rfl,th (grownBy_sortedI _)⟩⟩;rw[qj];exact i
def Ew(L:Lays2.n20 P ρ)(A:P.funcs[ρ.f 20]?=some fn)(B:(fn.body.isSome&& !(fn.name== "runtime.NumGoroutine"))=true):bu P (ρ.f 20) KA (fun _=>True) zf:=by
 refine⟨AH A B,fun h=>(by cases h),fun s l p=>(by simp only[KA,aa]at l;subst l;cases p),fun s _ _ w T v a b j _=>?_⟩;obtain⟨C,z⟩:=qg.1 j;have y:=Lib.compact_length_le a
 have d:zf [.list (a.map (D.int .i64))]=.list ((Lib.compact a).map (D.int .i64)):=by show D.list _=_;rw[show hR ([D.list (a.map (D.int .i64))].getD 0 .top)=a from fh a]
 have i:Has (.list (.int .i64)) (.list ((Lib.compact a).map (D.int .i64))):=qg.2 ⟨by omega,fun x u=>z x (yd u)⟩;rcases b.2 with⟨rfl,h0⟩|⟨g,cap,cur,rfl,Tx,YI,l,p,h3,h4⟩
 .have t:a=[]:=au h0;subst t;refine(Any.slices_Compact_int_empty L none 0 w).mono ?_;rintro e r ⟨rfl,rfl⟩;exact⟨_,.slice none 0 0,Lib.compact [],rfl,d,i,⟨rfl,⟨rfl,.inl ⟨rfl,rfl⟩⟩,rfl,gw.refl _ _⟩⟩
 have m:cur.toList.take a.length=a.map (Value.int .i64):=by simpa using h4
 refine(Any.slices_Compact_int L g 0 cap a w (holds_of_blockI YI m) (by omega) l).mono ?_;rintro e r ⟨rfl,q,rfl⟩;have c:=Lib.ownsRow_putRow (q:=q) (k:=(Lib.compact a).length) (ys:=Lib.compact a++List.replicate (a.length-(Lib.compact a).length) 0) b (by simp;omega) (by omega);rw[List.take_left]at c;have o:=grownBy_sortedI (w:=w) (g:=g) (n:=q) (os:=#[]) (Lib.compact a++List.replicate (a.length-(Lib.compact a).length) 0).toArray;rw[grow_empty]at o;exact⟨_,.slice (some ⟨g,0,none⟩) (Lib.compact a).length cap,Lib.compact a,rfl,d,i,⟨rfl,c,rfl,th o⟩⟩
def Jm(L:Lays2.n15 P ρ)(hf:P.funcs[ρ.f 15]?=some fn)(hb:(fn.body.isSome&& !(fn.name== "runtime.NumGoroutine"))=true):bu P (ρ.f 15) (mS (ρ.t 3)) (fun _=>True) wB:=by
 refine⟨AH hf hb,fun _ w S vs ds hS J I V _=>?_,fun ob Q=>(by cases Q),fun ob Q=>(by cases Q)⟩;obtain⟨d,r,rfl,Y,hr⟩:=aJ.1 V;obtain rfl:=dy.1 hr;obtain⟨v,rfl⟩:∃v,vs=[v]:=bI.1 J;have Z:=I 0 v d rfl rfl;obtain⟨l,rfl,hl,W⟩:=bO.1 Y;obtain⟨p,rfl⟩:=sX W;obtain⟨h8,hk⟩:=qg.1 Y
 have E:∀(y:Tan) (s:Tam),s.ownsRow w.heap.size (ρ.t 3) 1 y p.length (p.map (Value.int .i64))->Below w.heap.size w s->
   ∃u T G,Ending.returned y=.returned u/\Below w.heap.size w s/\(∀b o,S b o->T b o)/\(∀b o,T b o->b<s.heap.size)/\(∀b o,T b o->S b o\/w.heap.size<=b)/\
    im s 0 T G (mS (ρ.t 3)).res u (wB [.list (p.map (D.int .i64))])/\(∀j b,j∈cU (mS (ρ.t 3)).res->(G j).ownBlock=some b->w.heap.size<=b)/\(∀j k b,j∈cU (mS (ρ.t 3)).res->k∈cU (mS (ρ.t 3)).res->(G j).ownBlock=some b->(G k).ownBlock=some b->j=k)/\
    ∀j,j∈cU (mS (ρ.t 3)).res->RZ j=true->yV (fun b=>w.heap.size<=b) s T (G j):=by
  intro y s m n
  have C:∀b,y.ownBlock=some b->w.heap.size<=b:=by
   intro b x;rcases m.2 with⟨rfl,_⟩|⟨g,q,R,rfl,hg,_⟩
   .cases x
   simp only[Value.ownBlock,aa]at x;subst x;exact hg
  have B:s.ownsRow 0 (ρ.t 3) 1 y p.length (p.map (Value.int .i64)):=by
   refine⟨m.1,?_⟩;rcases m.2 with h|⟨g,q,R,Q,_,h3⟩
   .exact .inl h
   exact .inr ⟨g,q,R,Q,aF _,h3⟩
  refine⟨y,fun b o=>S b o\/(y.ownBlock=some b/\o<p.length),fun _=>y,rfl,n,fun b o h=>.inl h,?_,?_,?_,fun j b _ h=>C b h,?_,fun j A X=>(by have e:cU (mS (ρ.t 3)).res=[1]:=rfl;rw[e,ax]at A;subst A;cases X)⟩
  .rintro b o (h|⟨h,_⟩)
   .exact az (hS b o h) n.size
   exact Ot m h
  .rintro b o (h|⟨h,_⟩)
   .exact .inl h
   exact .inr (C b h)
  .refine .inl ⟨_,rfl,?_⟩;refine⟨_,rfl,rfl,?_⟩;refine⟨Y,by decide,p.map (Value.int .i64),p.map (D.int .i64),rfl,by rw[ao];exact B,?_,?_⟩
   .intro b x o;rw[ao];exact⟨fun h=>h.elim (fun h=>absurd (hS b o h) (Nat.not_lt.2 (C b x))) (fun h=>⟨rfl,h.2⟩),fun h=>.inr ⟨x,h.2⟩⟩
   intro i d j u c N O F;simp only[ab,dn]at N;obtain⟨z,U,rfl⟩:=N;cases j with
   |succ j=>simp[D.cells]at O
   |zero=>
    simp only[D.cells,du,aa]at O;subst O;have e1:(Ty.int .i64).cells.length=1:=rfl;rw[e1,bK,dO,ab,U]at F;simp only[aV,aa]at F;subst F;exact .int _ _
  intro j k b A K _ _;have e:cU (mS (ρ.t 3)).res=[1]:=rfl;rw[e,ax]at A K;rw[A,K]
 show Calls P (ρ.f 15) #[v] w _;generalize M:(p.map (D.int .i64))=l at Z;cases Z with
 |nil a q=>
  have U:p=[]:=by cases p with|nil=>rfl|cons z r=>simp at M
  subst U;cases a with
  |none=>
   refine(Any.slices_Clone_int_nil L 0 q w).mono ?_;rintro e s ⟨rfl,rfl⟩;exact E _ _ ⟨rfl,.inl ⟨rfl,rfl⟩⟩ ⟨rfl,rfl,rfl,aU _,fun _ _=>rfl⟩
  |some a=>
   refine(Any.slices_Clone_int_zero L a q w).mono ?_;rintro e s ⟨y,rfl,m,_,n⟩;exact E y s m n
 |list b off q sz xs _ UZ tV rN acz hSx O hw h=>
  subst M
  have H:sz=1:=by
   cases p with
   |nil=>simp at tV
   |cons z r=>rw[<-hw 0 (.int .i64 z) rfl];rfl
  subst H;rw[ao,bK]at acz;rw[ao];refine(Any.slices_Clone_int L b off p.length q p w (aU _) h8 (fun j A=>?_)).mono ?_
  .have F:xs[j]?=some xs[j]:=aS (by omega);rw[O j _ F];have:=h j (.int .i64 p[j]) 0 xs[j] (.int .i64 p[j]) (by simp[A]) rfl (by rw[bK,dO];exact F);rw[this.cQ];simp[List.getD,A]
  rintro e s ⟨y,rfl,m,_,n⟩;rw[dK]at m;exact E y s m n
end
end Go.dF
namespace Go.dF
open Go Go.RowKit Go.ChangeShapes Go.WideShapes
def qh(g:Tba->Tao (Tal))(cells:Tba->Nat):Nat->List Field->Tao (Tal)
 |_,[]=>some []
 |o,f::fs=>if f.offset=o then
   match g f.type with
   |some ts=>if cells f.type=ts.length then(qh g cells (o+ts.length) fs).map (ts++ ·) else none
   |none=>none
  else none
def Oz:Ty->Bool
 |.agg _=>false
 |_=>true
def DC(P:Tap)(e:Tba)(ts:Tal):Tao Ty:=
 if jd P e then some (.agg (.V ts)) else match ts with
  | [t]=>if Oz t then some t else none
  |_=>none
def qn(cells:Nat)(e:Tba)(k:Nat):List Field:=(List.range k).map fun i=>{(default:Field) with type:=e,offset:=i*cells}
def pn(P:Tap):Nat->Tba->Tao (Tal)
 |0,_=>none
 |n+1,T=>match P.underlying T with
  |some .bool=>some [.bool]
  |some (.int k)=>some [.int k]
  |some .string=>some [.str]
  |some (.slice e)=>match pn P n e with
   |some ts=>if 0<ts.length/\P.cellsOf e=ts.length then(DC P e ts).bind fun t=>if P.bytesOf e=t.bytes then some [.list t] else none else none
   |none=>none
  |some (.struct fs)=>match qh (pn P n) P.cellsOf 0 fs.toList with
   |some ts=>if P.cellsOf T=ts.length then some ts else none
   |none=>none
  |some (.array k e)=>match qh (pn P n) P.cellsOf 0 (qn (P.cellsOf e) e k) with
   |some ts=>if P.cellsOf T=ts.length then some ts else none
   |none=>none
  |_=>none
def NT(P:Tap)(n:Nat)(T:Tba):Tao Ty:=(pn P n T).bind (DC P T)
mutual
def D.wt:D->Nat
 |.list l=>ub l+1
 |.agg l=>ub l
 |_=>1
def ub:Taf->Nat
 |[]=>0
 |d::r=>d.wt+ub r
end
mutual
def yU{H:Type}:DataW H->Nat
 |.slice e _=>vu e+1
 |.agg p=>vu p
 |_=>1
def vu{H:Type}:List (DataW H)->Nat
 |[]=>0
 |d::r=>yU d+vu r
end
def AP:∀{a b:Taf},ub (a++b)=ub a+ub b
 |[],b=>by simp[ub]
 |x::a,b=>by simp only[eL,ub,AP (a:=a)];omega
def NY{H:Type}:∀{ds:Taf} {xs:List (DataW H)},ds.length=xs.length->(∀(i:Nat) d x,ds[i]?=some d->xs[i]?=some x->d.wt<=yU x)->ub ds<=vu xs
 |[],[],_,_=>aU _
 |[],_::_,h,_=>by simp at h
 |_::_,[],h,_=>by simp at h
 |d::ds,x::xs,h,h'=>by simp only[ub,vu];have e:=h' 0 d x rfl rfl;have c:=NY (ds:=ds) (xs:=xs) (by simpa using h) (fun i d x a b=>h' (i+1) d x (by simpa using a) (by simpa using b));omega
inductive R3 (K:Nat) (w:Tam) (S:bE):Tac->Taf->Tal->Prop
 |nil:R3 K w S [] [] []
 |cons {v d t vs ds ts} (h:cg w S v d) (ht:qx K t d) (hr:R3 K w S vs ds ts):R3 K w S (v::vs) (d::ds) (t::ts)
section
variable{K:Nat}{d:D}{l:Taf}{k:IntKind}{t h:Ty}{f:Nat}
def FT:qx K (.int k) d↔∃n,d=.int k n/\jX k n:=dA
def CH:qx K .bool d↔∃b,d=.bool b:=dA
def FR:qx K .str d↔∃s,d=.str s:=dA
def tO:qx K (.list t) d↔∃l,d=.list l/\Dw K t l.length/\∀x∈l,qx K t x:=dA
def Pw:qx K (.agg t) d↔∃l,d=.agg l/\rF K t l:=dA
def Ps:qx K (.ff t) d↔∃l,d=.ff l/\rF K t l:=dA
def Pv:qx K (.box t) d↔∃l,d=.ptr l/\rF K t l:=dA
def Pt:qx K (.ptr t) d↔d=.gI\/∃l,d=.ptr l/\rF K t l:=dA
def Rp:qx K (.fn f t) d↔∃l,d=.fn f l/\rF K t l:=dA
def Pu:rF K .nil l↔l=[]:=dA
def LO:rF K (.cons h t) l↔∃a r,l=a::r/\qx K h a/\rF K t r:=dA
end
section
variable{w:Tam}{S:bE}{K:Nat}
def R3.append{vs ds ts P1 ds' ts'}(h:R3 K w S vs ds ts)(c:R3 K w S P1 ds' ts'):R3 K w S (vs++P1) (ds++ds') (ts++ts'):=by
 induction h with
 |nil=>exact c
 |cons a b _ ih=>exact .cons a b ih
def R3.len{vs ds ts}(h:R3 K w S vs ds ts):vs.length=ts.length/\ds.length=ts.length:=by
 induction h with
 |nil=>exact⟨rfl,rfl⟩
 |cons a b _ ih=>exact⟨by simp[ih.1],by simp[ih.2]⟩
def R3.get{vs ds ts}(h:R3 K w S vs ds ts):∀(i:Nat) v d,vs[i]?=some v->ds[i]?=some d->cg w S v d:=by
 induction h with
 |nil=>intro i v d h;simp at h
 |cons a b _ ih=>
  intro i v d e c;cases i with
  |zero=>simp at e c;subst e;subst c;exact a
  |succ i=>exact ih i v d (by simpa using e) (by simpa using c)
def R3.has{vs ds ts}(h:R3 K w S vs ds ts):rF K (.V ts) ds:=by
 induction h with
 |nil=>exact Pu.2 rfl
 |cons a b _ ih=>exact LO.2 ⟨_,_,rfl,b,ih⟩
def EA{t:Ty}{d:D}(h:qx K t d)(c:Oz t=true):d.cells=[d]:=by
 cases t with
 |agg fs=>cases c
 |int k=>obtain⟨n,rfl,_⟩:=FT.1 h;rfl
 |bool=>obtain⟨n,rfl⟩:=CH.1 h;rfl
 |str=>obtain⟨n,rfl⟩:=FR.1 h;rfl
 |list t=>obtain⟨n,rfl,_⟩:=tO.1 h;rfl
 |ff t=>obtain⟨n,rfl,_⟩:=Ps.1 h;rfl
 |box t=>obtain⟨n,rfl,_⟩:=Pv.1 h;rfl
 |ptr t=>rcases Pt.1 h with rfl|⟨n,rfl,_⟩<;>rfl
 |fn f t=>obtain⟨n,rfl,_⟩:=Rp.1 h;rfl
 |nil=>exact h.elim
 |cons a b=>exact h.elim
def Ku{P:Tap}{e:Tba}{ts:Tal}{t:Ty}{vs:Tac}{ds:Taf}(c:DC P e ts=some t)(h:R3 K w S vs ds ts):∃d:D,qx K t d/\d.cells=ds/\(jd P e=true->d=.agg ds)/\(jd P e=false->ds=[d])/\d.wt=ub ds:=by
 unfold DC at c;split at c
 .rename_i g;injection c with c;subst c;exact⟨.agg ds,Pw.2 ⟨ds,rfl,h.has⟩,rfl,fun _=>rfl,(fun h=>by rw[g]at h;cases h),by simp[D.wt]⟩
 rename_i g;split at c
 .rename_i j;split at c
  .rename_i i;injection c with c;subst c;cases h with
   |cons a b hr=>
    cases hr;rename_i d;exact⟨d,b,EA b i,(fun h=>absurd h g),(fun _=>rfl),by simp[ub]⟩
  cases c
 cases c
variable{H:Type}{enc:Tba×Tan->H}{P:Tap}{base:Nat}{spare:Nat->Bool}{held:Bool}
def rG{z:Nat}:∀{ts:List Tba} {ds:List (DataW H)} (i:Nat) {t:Tba} {d:DataW H},ts[i]?=some t->ds[i]?=some d->z∈d.weights P t->z∈DataW.weightsEach P ts ds
 |[],_,i,t,d,h,_,_=>by simp at h
 |_::_,[],i,t,d,_,h,_=>by simp at h
 |t::ts,d::ds,0,u,e,h1,h2,hz=>by simp at h1 h2;subst h1;subst h2;unfold DataW.weightsEach;exact aG _ hz
 |t::ts,d::ds,i+1,u,e,h1,h2,hz=>by unfold DataW.weightsEach;exact bC _ (rG i (by simpa using h1) (by simpa using h2) hz)
def oz{z:Nat}{e:Tba}:∀{ds:List (DataW H)} {d:DataW H},d∈ds->z∈d.weights P e->z∈DataW.weightsAll P e ds
 |[],d,h,_=>by simp at h
 |x::ds,d,h,hz=>by
  unfold DataW.weightsAll;rcases aH.1 h with rfl|h
  .exact aG _ hz
  exact bC _ (oz h hz)
def uZ{n m:Nat}{cs:Tac}(u:∀(T:Tba) (cs:Tac) (x:DataW H×List MemPlace) (ts:Tal),pn P n T=some ts->DataW.trod enc P w base spare held m T cs=some x->(∀b o,MemPlace.cell b o∈x.2->S b o)->(∀z∈x.1.weights P T,z<=K)->∃e,R3 K w S cs e ts/\ub e<=yU x.1):
  ∀(a:List Field) (xs:List (DataW H×List MemPlace)) (o:Nat) (ts:Tal),qh (pn P n) P.cellsOf o a=some ts->cs.length=o+ts.length->xs.length=a.length->
   (∀(i:Nat) f,a[i]?=some f->∃x:DataW H×List MemPlace,xs[i]?=some x/\DataW.trod enc P w base spare held m f.type ((cs.drop f.offset).take (P.cellsOf f.type))=some x/\(∀b o,MemPlace.cell b o∈x.2->S b o)/\∀z∈x.1.weights P f.type,z<=K)->
   ∃e,R3 K w S (cs.drop o) e ts/\ub e<=vu (xs.map (·.1))
 |[],xs,o,ts,h,hl,_,_=>by simp only[qh,aa]at h;subst h;rw[bL (by simp at hl;omega)];exact⟨[],.nil,aF _⟩
 |f::a,[],o,ts,h,hl,Mp,_=>by simp at Mp
 |f::a,x0::xs,o,ts,h,hl,Mp,hx=>by
  simp only[qh]at h;split at h
  .rename_i F;split at h
   .rename_i A s;split at h
    .rename_i I;simp only[dn]at h;obtain⟨v,r,rfl⟩:=h;obtain⟨x,c,q,p,j⟩:=hx 0 f rfl;simp only[du,aa]at c;subst c;obtain⟨L,C,N⟩:=u _ _ _ _ s q p j;rw[ai]at hl
     obtain⟨J,B,M⟩:=uZ (cs:=cs) u a xs (o+A.length) v r (by omega) (by simpa using Mp) (fun i g G=>by obtain⟨y,D,E⟩:=hx (i+1) g (by simpa using G);exact⟨y,by simpa using D,E⟩)
     refine⟨L++J,?_,by rw[AP];simp only[cM,vu];omega⟩;have:=C.append B;rw[I,F]at this;rw[<-List.drop_drop,dq]at this;exact this
    cases h
   cases h
  cases h
def vU:∀(n m:Nat) (T:Tba) (cs:Tac) (x:DataW H×List MemPlace) (ts:Tal),pn P n T=some ts->DataW.trod enc P w base spare held m T cs=some x->(∀b o,MemPlace.cell b o∈x.2->S b o)->(∀z∈x.1.weights P T,z<=K)->∃ds,R3 K w S cs ds ts/\ub ds<=yU x.1
 |0,_,_,_,_,_,h,_,_,_=>by cases h
 |n+1,m,T,cs,x,ts,h,F,hS,UT=>by
  unfold pn at h;split at h
  .rename_i G;injection h with h;subst h;obtain⟨b,rfl,rfl⟩:=DataW.trod_bool G F;exact⟨[.bool b],.cons (.bool b) (CH.2 ⟨b,rfl⟩) .nil,by simp[ub,D.wt,yU]⟩
  .rename_i k G;injection h with h;subst h;obtain⟨i,rfl,rfl,hw⟩:=DataW.trod_int G F;exact⟨[.int k i],.cons (.int k i) (FT.2 ⟨i,rfl,by simpa [Lit.wf,jX]using hw⟩) .nil,by simp[ub,D.wt,yU]⟩
  .rename_i G;injection h with h;subst h;obtain⟨s,rfl,rfl,_⟩:=DataW.trod_string G F;exact⟨[.str s],.cons (.str s) (FR.2 ⟨s,rfl⟩) .nil,by simp[ub,D.wt,yU]⟩
  .rename_i e G;split at h
   .rename_i q N;split at h
    .rename_i r;obtain⟨r,b2⟩:=r;rw[ez]at h;obtain⟨t,b9,h⟩:=h;split at h
     case isFalse=>cases h
     rename_i b3;injection h with h;subst h;rcases DataW.trod_slice G F with⟨rfl,hxn⟩|⟨a,len,cap,elems,rest,Z,rfl,rfl,Yz,_,hlc,Yl,hle,hel,_⟩
     .exact⟨[.list []],.cons (.nil none 0) (tO.2 ⟨[],rfl,ye _ _,by simp⟩) .nil,by rw[hxn];simp[ub,D.wt,yU]⟩
     rcases Nat.eq_zero_or_pos len with h0|h0
     .subst h0;exact⟨[.list []],.cons (.nil (some a) cap) (tO.2 ⟨[],rfl,ye _ _,by simp⟩) .nil,by rw[Yz];simp[ub,D.wt,yU]⟩
     rw[b2]at hel
     have W:∀z∈((elems.map (·.1)).length+(rest.map (·.1)).length)*P.bytesOf e::(DataW.weightsAll P e (elems.map (·.1))++DataW.weightsAll P e (rest.map (·.1))),z<=K:=by intro z hz;refine UT z ?_;rw[Yz];simp only[DataW.weights,G];exact hz
     have X:∀i,i<len->∃(Q:Tac) (d:D),w.cells? base (a.add (i*q.length)) q.length=some Q/\qx K t d/\d.cells.length=q.length/\(∀(j:Nat) v c,Q[j]?=some v->d.cells[j]?=some c->cg w S v c)/\∀x,elems[i]?=some x->d.wt<=yU x.1:=by
      intro i p;have h1:=hel i p;have h2:elems[i]?=some (elems[i]'(by omega)):=aS _;rw[h2,ez]at h1;obtain⟨Q,O,b5⟩:=h1
      obtain⟨di,ri,ki⟩:=vU n Z e Q _ q N b5 (fun b o hb=>hS b o (by rw[Yz];refine bC _ (dj.2 ⟨elems[i]'(by omega),aG _ (aN _),hb⟩))) (fun z hz=>W z (aK _ (aG _ (oz (bq.2 ⟨_,aN _,rfl⟩) hz))))
      obtain⟨d,V,b1,_,_,c1⟩:=Ku b9 ri;refine⟨Q,d,O,V,by rw[b1];exact ri.len.2,fun j v c J hc=>?_,fun x F=>by rw[h2]at F;injection F with F;subst F;rw[c1];exact ki⟩;rw[b1]at hc;exact ri.get j v c J hc
     obtain⟨b,R,a4⟩:=a
     have a0:a4=none:=by obtain⟨Q,d,O,_,_⟩:=X 0 h0;obtain⟨_,a6,E⟩:=World.cells?_some O;have g0:=E 0 r;obtain⟨c0,c3⟩:∃c0,Q[0]?=some c0:=⟨Q[0]'(by omega),aS _⟩;rw[c3]at g0;simpa [Addr.add]using World.cell?_spot g0
     subst a0
     have a2:∀i:Nat,∃d:D,i<len->qx K t d/\d.cells.length=q.length/\(∀(j:Nat) c,d.cells[j]?=some c->∃v,w.cell? ⟨b,R+(i*q.length+j),none⟩=some v/\cg w S v c)/\∀x,elems[i]?=some x->d.wt<=yU x.1:=by
      intro i;by_cases p:i<len
      .obtain⟨Q,d,O,V,I,a5,b4⟩:=X i p;obtain⟨_,a6,E⟩:=World.cells?_some O;refine⟨d,fun _=>⟨V,I,fun j c hc=>?_,b4⟩⟩;have hj:j<q.length:=by rw[<-I];exact(aO.1 hc).1
       have g:=E j hj;rw[add_plain,add_plain]at g;have J:Q[j]?=some (Q[j]'(by omega)):=aS _;refine⟨_,?_,a5 j _ c J hc⟩;rw[<-eB,g,J]
      exact⟨.top,fun h=>absurd h p⟩
     have A:=fun i=>Classical.choose_spec (a2 i);generalize hD:(fun i=>Classical.choose (a2 i))=Y at*;have c4:∀i,Classical.choose (a2 i)=Y i:=fun i=>by rw[<-hD]
     simp only[c4]at A;refine⟨[.list ((List.range len).map Y)],.cons ?_ (tO.2 ⟨_,rfl,⟨by simp;omega,?_⟩,?_⟩) .nil,?_⟩
     .have a1:((List.range len).map Y).length=len:=by simp
      have b0:∀(i:Nat) d,((List.range len).map Y)[i]?=some d->i<len/\d=Y i:=by
       intro i d p;have C:i<len:=by rw[<-a1];exact(aO.1 p).1
       simp[C]at p;exact⟨C,p.symm⟩
      have:=cg.list (w:=w) (S:=S) b R cap q.length ((List.range (len*q.length)).map fun j=>(w.cell? ⟨b,R+j,none⟩).getD undef) ((List.range len).map Y) r
       (by intro h;have:=congrArg List.length h;simp at this;omega) (by rw[a1];exact hlc) (by simp)
       (fun i p=>hS b (R+i) (by rw[Yz];refine aG _ (MemPlace.mem_row.2 ⟨i,?_,rfl⟩);simp at p;rw[b2,hle];exact az p (aw _ (by omega))))
       (fun i v J=>by
        have p:i<len*q.length:=by have:=(aO.1 J).1;simpa using this
        simp[p]at J;have hq:i/q.length<len:=(Nat.div_lt_iff_lt_mul r).2 p;obtain⟨_,I,a3,_⟩:=A (i/q.length) hq;have hr:i % q.length<(Y (i/q.length)).cells.length:=by rw[I];exact Nat.mod_lt _ r
        obtain⟨u,U,_⟩:=a3 (i % q.length) _ (aS hr);have b7:i/q.length*q.length+i % q.length=i:=by rw[Nat.mul_comm];exact Nat.div_add_mod i q.length
        rw[b7]at U;rw[U]at J⊢;exact congrArg some J)
       (fun i d p=>by obtain⟨h1,rfl⟩:=b0 i d p;exact(A i h1).2.1)
       (fun i d j v c p hj J=>by
        obtain⟨h1,rfl⟩:=b0 i d p;obtain⟨_,I,a3,_⟩:=A i h1;obtain⟨u,U,b6⟩:=a3 j c hj;have c6:j<q.length:=by rw[<-I];exact(aO.1 hj).1
        have C:i*q.length+j<len*q.length:=by have:(i+1)*q.length<=len*q.length:=aw _ h1;rw[cn]at this;omega
        simp[C,U]at J;subst J;exact b6)
      rw[a1]at this;exact this
     .have h9:=W _ (br ..);rw[<-b3];simp only[ao,fi,hle]at h9⊢;rw[cn]at h9;omega
     .intro d V;obtain⟨i,p,rfl⟩:=bq.1 V;exact(A i (cI.1 p)).1
     rw[Yz];simp only[ub,D.wt,yU,ao,fi]
     have:=NY (H:=H) (ds:=(List.range len).map Y) (xs:=elems.map (·.1)) (by simp[hle]) (fun i d x V F=>by
      have C:i<len:=by have:=(aO.1 V).1;simpa using this
      simp[C]at V;subst V;rw[ab,dn]at F;obtain⟨y,hy,rfl⟩:=F;exact(A i C).2.2.2 y hy)
     omega
    cases h
   cases h
  .rename_i fs G;split at h
   .rename_i q N;split at h
    .rename_i c2;injection h with h;subst h;obtain⟨xs,Z,rfl,rfl,hl,L,hf⟩:=DataW.trod_struct G F
     have:=uZ (S:=S) (cs:=cs) (n:=n) (m:=Z) (enc:=enc) (base:=base) (spare:=spare) (held:=held) (fun T cs x ts=>vU n Z T cs x ts) fs.toList xs 0 q N (by omega) (by simpa using L) (fun i f p=>by
      rw[Array.getElem?_toList]at p;have M:=hf i f p;have B:i<xs.length:=by rw[L];exact(aP.1 p).1
      rw[aS B]at M;refine⟨_,aS B,M,fun b o hb=>hS b o (dj.2 ⟨_,aN B,hb⟩),fun z hz=>UT z ?_⟩;simp only[DataW.weights,G];exact rG i (by simp[p]) (by simp[aS B]) hz)
     simpa [yU]using this
    cases h
   cases h
  .rename_i k e G;split at h
   .rename_i q N;split at h
    .rename_i c2;injection h with h;subst h;obtain⟨xs,Z,rfl,rfl,hl,L,hf⟩:=DataW.trod_array G F
     have b8:∀(i:Nat) f,(qn (P.cellsOf e) e k)[i]?=some f->i<k/\f.type=e/\f.offset=i*P.cellsOf e:=by intro i f p;unfold qn at p;rw[ab,dn]at p;obtain⟨j,hj,rfl⟩:=p;obtain⟨a7,a8⟩:=aO.1 hj;rw[fi]at a7;rw[List.getElem_range]at a8;exact⟨a7,rfl,by rw[<-a8]⟩
     have:=uZ (S:=S) (cs:=cs) (n:=n) (m:=Z) (enc:=enc) (base:=base) (spare:=spare) (held:=held) (fun T cs x ts=>vU n Z T cs x ts) (qn (P.cellsOf e) e k) xs 0 q N (by omega) (by simp[qn,L]) (fun i f p=>by
      obtain⟨a9,e1,e2⟩:=b8 i f p;have M:=hf i a9;have B:i<xs.length:=by rw[L];exact a9
      rw[aS B]at M;rw[e1,e2];refine⟨_,aS B,M,fun b o hb=>hS b o (dj.2 ⟨_,aN B,hb⟩),fun z hz=>UT z ?_⟩;simp only[DataW.weights,G];exact oz (bq.2 ⟨_,aN B,rfl⟩) hz)
     simpa [yU]using this
    cases h
   cases h
  cases h
end
def z6(P:Tap)(n:Nat):List Tba->Tao (Tal)
 |[]=>some []
 |t::ts=>match NT P n t,z6 P n ts with
  |some x,some xs=>some (x::xs)
  |_,_=>none
section
variable{K:Nat}{w:Tam}{S:bE}{H:Type}{enc:Tba×Tan->H}{P:Tap}{base b0:Nat}{spare:Nat->Bool}{held:Bool}{r:Reach}
def Ei{T:Tba}{v:Tan}(a:Value.okWide P w r b0 T v)(b:jd P T=false):v.cells.toList=[v]:=by
 have:∀cs,v≠ .agg cs:=by
  rintro cs rfl;unfold Value.okWide at a;unfold jd at b;split at a
  .simp_all
  .simp_all
  unfold Cell.okWide at a;split at a<;>simp_all [Cell.ok]
 cases v<;>first|rfl|exact absurd rfl (this _)
def IX{T:Tba}{v:Tan}(a:Value.okWide P w r b0 T v)(c:jd P T=true):∃b:Tac,v=.agg b.toArray:=by
 unfold Value.okWide at a;unfold jd at c;split at a
 .obtain⟨b,rfl,_⟩:=a;exact⟨b.toList,rfl⟩
 .obtain⟨b,rfl,_⟩:=a;exact⟨b.toList,rfl⟩
 simp_all
def RL{n:Nat}{T:Tba}{v:Tan}{d:DataW H}{ps:List MemPlace}{ty:Ty}(e:Value.okWide P w r b0 T v)(s:DataW.Trod enc P w base spare held T v d ps)(a:NT P n T=some ty)(t:∀b o,MemPlace.cell b o∈ps->S b o)(g:∀z∈d.weights P T,z<=K):∃x:D,cg w S v x/\qx K ty x/\x.wt<=yU d:=by
 unfold NT at a;rw[ez]at a;obtain⟨ts,h,q⟩:=a;obtain⟨m,l⟩:=s;obtain⟨i,f,p⟩:=vU n m T _ _ ts h l t g;obtain⟨x,k,_,A,y,u⟩:=Ku q f;refine⟨x,?_,k,by rw[u];exact p⟩;cases ha:jd P T with
 |true=>
  obtain⟨j,rfl⟩:=IX e ha;rw[A ha];have c:R3 K w S j i ts:=f;exact .agg j i (by rw[c.len.1,c.len.2]) c.get
 |false=>
  rw[Ei e ha,y ha]at f;exact f.get 0 v x rfl rfl
def F5{n:Nat}:∀{ts:List Tba} {vs:Tac} {ds:List (DataW H)} {ps:List MemPlace} {c:Tal},(∀(j:Nat) t v,ts[j]?=some t->vs[j]?=some v->Value.okWide P w r b0 t v)->
  DataW.TrodAll enc P w base spare held ts vs ds ps->z6 P n ts=some c->(∀b o,MemPlace.cell b o∈ps->S b o)->(∀z∈DataW.weightsEach P ts ds,z<=K)->∃g:Taf,R3 K w S vs g c/\ub g<=vu ds
 |[],[],[],ps,c,_,_,f,_,_=>by simp only[z6,aa]at f;subst f;exact⟨[],.nil,aF _⟩
 |t::ts,v::vs,d::ds,ps,c,EE,⟨p,q,u,s,e⟩,f,hS,UT=>by
  unfold DataW.weightsEach at UT;simp only[z6]at f;split at f
  .rename_i x g A k;injection f with f;subst f;obtain⟨a,E,l,C⟩:=RL (EE 0 t v rfl rfl) u A (fun b o m=>hS b o (by rw[e];exact aG _ m)) (fun z i=>UT z (aG _ i));obtain⟨y,has,B⟩:=F5 (fun j t v u s=>EE (j+1) t v (by simpa using u) (by simpa using s)) s k (fun b o m=>hS b o (by rw[e];exact bC _ m)) (fun z i=>UT z (bC _ i));exact⟨a::y,.cons E l has,by simp only[ub,vu];omega⟩
  cases f
 |[],_::_,_,_,_,_,h,_,_,_|[],[],_::_,_,_,_,h,_,_,_|_::_,[],_,_,_,_,h,_,_,_|_::_,_::_,[],_,_,_,h,_,_,_=>h.elim
def uv(c:laidOutB P=true){W g:Tam}(f:Below W.heap.size W g):∀{ts:List Tba} {vs:Tac} {ds:List (DataW H)} {ps:List MemPlace},(ts.all fun t=>P.readableRec t&&decide (t<P.types.size))=true->
  DataW.TrodAll enc P W 0 (fun _=>true) true ts vs ds ps->(∀x∈ps,x.block<W.heap.size)->DataW.TrodAll enc P g 0 (fun b=>decide (b<W.heap.size)) true ts vs ds ps
 |[],[],[],_,_,h,_=>h
 |t::ts,v::vs,d::ds,ps,hr,⟨p,q,h1,h2,e⟩,P0=>by
  rw[List.all_cons,aT,aT,bk]at hr
  exact⟨p,q,Below.trod c hr.1.1 hr.1.2 h1 f (fun x a=>P0 x (by rw[e];exact aG _ a)),
   uv c f hr.2 h2 (fun x a=>P0 x (by rw[e];exact bC _ a)),e⟩
 |[],_::_,_,_,_,h,_|[],[],_::_,_,_,h,_|_::_,[],_,_,_,h,_|_::_,_::_,[],_,_,h,_=>h.elim
def Em{f:Nat}{fn:Func}{g:dL}{s:ChangeSpec}{i:Bool}{W:Tam}{args:Tbd Tan}{ds M:List (DataW H)}{l:List MemPlace}{tb:Tba}{Pre:Taf->Prop}{Φ:Taf->D}(n:Nat)(hp:bu P f g Pre Φ)(hl:laidOutB P=true)(u:(fn.params.toList.all fun t=>P.readableRec t&&decide (t<P.types.size))=true)(R:z6 P n fn.params.toList=some g.params)(F:g.res=[(false,[(.bool,none)])])(U:fn.resultTypes=#[tb])(T:P.underlying tb=some .bool)(d:s.vars=[])(a0:s.fn H ds={results:=[.lit (.bool true)],args:=ds})(C:∀(j:Nat) t v,fn.params[j]?=some t->args[j]?=some v->Value.okWide P W r b0 t v)(hW:DataW.Whole enc P fn.params.toList s.vars i W args.toList ds M l)(B:(DataW.weightsEach P (fn.params.toList++s.plain.varTypes P) (ds++M)).all (· <=reachBytes)=true)(I:∀m,rF reachBytes (.V g.params) m->ub m<=vu (ds++M)->Pre m/\Φ m=.bool true)(Y:g.ob=none:=by rfl):
  Calls P f args W fun e W'=>∃v,e=.returned v/\s.post enc P fn i true false false W args v W':=by
 have J:=hW.lt;have a1:=hW;obtain⟨p,q,hA,hV,rfl,_,_⟩:=hW;rw[d]at hV
 obtain⟨rfl,rfl⟩:M=[]/\q=[]:=by
  cases M with
  |nil=>exact⟨rfl,hV⟩
  |cons a b=>exact hV.elim
 have Q:s.plain.varTypes P=[]:=by simp[ChangeSpec.plain,DataSpec.varTypes,d]
 rw[Q,dh,dh]at B
 have A:∀z∈DataW.weightsEach P fn.params.toList ds,z<=reachBytes:=fun z hz=>by simpa using bY.1 B z hz
 have h8:reachBytes<=140737488355328:=by decide
 obtain⟨m,G,Z⟩:=F5 (S:=fun b o=>MemPlace.cell b o∈p) (fun j t v h1 h2=>C j t v (by simpa using h1) (by simpa using h2)) hA R (fun _ _ h=>h) A;obtain⟨X,V⟩:=I m G.has (by rw[dh];exact Z);have hc:=hp.calls Y W (fun b o=>MemPlace.cell b o∈p) args.toList m (fun b o O=>J (.cell b o) (aG _ O)) (by rw[G.len.1,G.len.2]) G.get ((nL h8 _).2 _ G.has) X;refine hc.mono fun e W' h=>?_;obtain⟨v,S',τ,rfl,O,_,_,_,E,_⟩:=h;rw[F]at E;rcases E with⟨x,N,hco⟩|⟨tV,_⟩
 .simp only[eI,and_true]at N;subst N;obtain⟨c,L,k⟩:=hco;simp only[eI,and_true]at L;subst L;obtain⟨k,_⟩:=k;rw[V]at k;have hv:=k.gU;subst hv;have y:(s.fn H (ds++[]))={results:=[.lit (.bool true)],args:=ds}:=by rw[dh,a0]
  refine⟨_,rfl,ds,[],_,[],p,[],a1,?_,?_,?_,O.frame _,fun h=>by cases h⟩
  .rw[y,U];exact⟨[],[],⟨1,by simp[DataW.trod,Value.cells,T]⟩,rfl,rfl⟩
  .rw[y];exact uv hl O u hA (fun x N=>J x (aG _ N))
  rw[y,d];rfl
 exact absurd rfl tV
end
end Go.dF
namespace Go.dF
open Go Go.RowKit
def uF.rep{w:Tam}{S:bE}{T:Tba}{t:Ty}{v:Tan}{d:D}(h:uF false w 0 S T t v d):cg w S v d:=by have:=uF.ok (C:=⟨fun _=>d,1,fun _=>True⟩) (G:=⟨S,fun _=>0,fun _=>v⟩) (g:=(0,0)) (e:=.var 0) h trivial rfl rfl rfl rfl;exact this.rep h.sz
section
variable{Φ:Taa}{Pre:eN}{R:D->Prop}{ρ:Nat->D}{kV:List (Taf->Prop)}
def ft{p:Nat}{t:Ty}{k:VC}:(VC.any p t k).holds Φ Pre R ρ kV=∀d,Has t d->k.holds Φ Pre R (fC ρ p d) kV:=rfl
def fq{p:Nat}{a:List (E×E)}{k:VC}:(VC.Ym p a k).holds Φ Pre R ρ kV=∀d,(∀x∈a,(den (fC ρ p d) x.1).A.length=(den (fC ρ p d) x.2).A.length)->k.holds Φ Pre R (fC ρ p d) kV:=rfl
end
def fS(fn:Func):Code:=match fn.body with
 |some c=>c
 |none=>.skip
end Go.dF
