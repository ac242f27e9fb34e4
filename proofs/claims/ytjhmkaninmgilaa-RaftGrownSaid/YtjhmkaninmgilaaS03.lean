/- Part 3 of the proof of RaftGrown; no condition. -/
import Derived.Test.YtjhmkaninmgilaaS02
import Derived.Deep.LoopGhost
import Derived.Sort.LoopGhostIn
import Derived.RangeFuncNested
import Derived.OrdersIn
import Derived.Shelf.Sort.Plain
import Derived.Shelf.Slices.In.SortNone
import Derived.Shelf.Slices.CompactI
import Derived.Shelf.Slices.Clone
import Derived.Sort.OwnSortedInts
import Derived.Lib.OwnBridge
import Derived.ProofKit
import Derived.OpenShut
set_option linter.defProp false
set_option linter.unusedVariables false
set_option linter.unusedSimpArgs false
set_option maxHeartbeats 4000000
namespace Go.dG
open Go Go.RowKit
def uL:Tbc->Bool
 |.const (.slice none 0 0)=>true
 |_=>false
def Wg(P:Tba)(n q:Nat)(σ:St)(o:Tbd):Tap (Nat×E):=
 match o.dst,o.guard,o.op with
 |some t,none,.binOp .eql T x y _=>
  if uL y=true/\t<n then
   match fk P σ [] x T,P.underlying T with
   |some (e,.list _),some (.slice _)=>if e.lt q then some (t,e) else none
   |_,_=>none
  else none
 |_,_,_=>none
def E2(σ:St)(t:Nat)(c:SC):St:=⟨fy σ.tm t (some ([],.one c)),σ.hp,σ.live⟩
section
variable{P:Tba}{w w0:Tan}{S0:gw}{ρ:Nat->D}{p:Nat}{G:Gh}{σ:St}{a:Act}{n:Nat}
def wI{t el:Tbb}(b:P.underlying t=some (.slice el))(p:Tap Addr)(m c d:Nat):(Op.equalIn (d+1) t (.slice p m c) (.slice none 0 0)).run P w=.ok p.isNone w:=by cases p<;>simp[Op.equalIn,run_underlying b]
def Ep{t el:Tbb}(b:P.underlying t=some (.slice el))(p:Tap Addr)(m c:Nat)(x y:Tbc):
  (do eqGuard .eql t x y (.slice p m c) (.slice none 0 0);binOp .eql t (.slice p m c) (.slice none 0 0):Sem Tao).run P w=.ok (.bool p.isNone) w:=by have e:binOp .eql t (.slice p m c) (.slice none 0 0)=(do pure (.bool (<-Op.equalIn (9999+1) t (.slice p m c) (.slice none 0 0)))):=rfl;have d:eqGuard .eql t x y (.slice p m c) (.slice none 0 0)=pure ():=rfl;rw[e,d,bz,Sem.run_pure,bZ,bz,wI b];rfl
def Pd{w:Tan}{S:bG}{m c:Nat}{l:Tah}(h:bV w S (.slice none m c) (.list l)):l.length=0:=by
 generalize e:Value.slice none m c=v at h;generalize b:D.list l=d at h
 cases h<;>first
  |(cases b;done)
  |(injection b with b;subst b;rfl)
  |cases e
def gG.OH(hs:gG n w0 S0 ⟨ρ,p,fun i=>i<p⟩ G σ a w)(d:D){t:Nat}(A:t<n){v:Tao}{c:SC}(B:c.lt (p+1)=true)(C:qO ⟨fy ρ p d,p+1,fun i=>i<p+1⟩ w G c v):
  gG n w0 S0 ⟨fy ρ p d,p+1,fun i=>i<p+1⟩ G (E2 σ t c) (a.put (some t) v) w:=by
 have j:∀i,i<p->fy ρ p d i=ρ i:=fun i l=>fh _ _ (by omega)
 have g:dO ⟨ρ,p,fun i=>i<p⟩ w G ⟨fy ρ p d,p+1,fun i=>i<p+1⟩ w G:=
  ⟨fun e o=>⟨dN j o,E.vW (Nat.le_succ p) o⟩,fun i l=>Nat.lt_succ_of_lt l,fun _ _ h=>h,fun _ _ _=>rfl,fun _ _=>rfl,fun _ _=>rfl⟩
 have q:=hs.hY g;refine⟨q.m.congr rfl rfl,?_,by rw[Act.AL];exact hs.sz,hs.defers⟩;intro k F s b;simp only[E2]at b;by_cases f:k=t
 .subst f;simp only[dX,aa,ae]at b;obtain⟨rfl,rfl⟩:=b;refine⟨v,?_,by simp,B,?_⟩
  .have:=hs.sz;simp[Act.put,this,A]
  simp only[aV,bW,if_true];exact C
 rw[fh _ _ f]at b;obtain⟨u,z,y,x,r⟩:=q.t k F s b;refine⟨u,?_,y,x,r⟩;simp only[Act.put];rw[Array.getElem?_setIfInBounds_ne (Ne.symm f)];exact z
def Rl{ops:Tae}{c t:Nat}{o:Tbd}{e:E}(L:ops[c]?=some o)(h:Wg P n p σ o=some (t,e))(hs:gG n w0 S0 ⟨ρ,p,fun i=>i<p⟩ G σ a w)(Q:O3)(d:Tai)(W:(den ρ e).V.length=0->∀b:Bool,∀s,gG n w0 S0 ⟨fy ρ p (.bool b),p+1,fun i=>i<p+1⟩ G (E2 σ t (.gz (.var p) .bool)) s w->wpOps P ops Q d s w)(V:(den ρ e).V.length≠0->∀s,gG n w0 S0 ⟨fy ρ p (.bool false),p+1,fun i=>i<p+1⟩ G (E2 σ t (.gz (.eQ false) .bool)) s w->wpOps P ops Q d s w):
  wpOps P ops Q (c::d) a w:=by
 unfold Wg at h;split at h
 .rename_i t0 T x y Y R N C;split at h
  .rename_i f;obtain⟨f,q⟩:=f
   have z:y=.const (.slice none 0 0):=by
    unfold uL at f;split at f
    .rfl
    cases f
   subst z;split at h
   .rename_i X u el J K;split at h
    .obtain⟨rfl,rfl⟩:=iE h;obtain⟨Z,I,H⟩:=dR hs.t (pc:=[]) rfl J;obtain⟨l,M,_⟩:=bO.1 H;have j:den ρ X=.list l:=M;have g:bV w G.S (a.eval x) (.list l):=by rw[<-j];exact I
     obtain⟨A,F,B⟩:=g.pQ
     have r:(execOp a.eval o).run P w=.ok (.value (.bool A.isNone)) w:=by
      have m:(execOp a.eval o)=(do let v<-(do eqGuard .eql T x (.const (.slice none 0 0)) (a.eval x) (a.eval (.const (.slice none 0 0)));binOp .eql T (a.eval x) (a.eval (.const (.slice none 0 0))):Sem Tao);pure (.value v)):=by unfold execOp;simp only[C]
      have O:a.eval (.const (.slice none 0 0))=.slice none 0 0:=rfl;have U:=Ep (P:=P) (w:=w) K A l.length F x (.const (.slice none 0 0));rw[m,O,B,bz,U];rfl
     refine H5 L N ?_;rw[Oper.wp,r];show wpOps P ops Q d (a.put o.dst (.bool A.isNone)) w;rw[R];by_cases k:l.length=0
     .refine W (by rw[j];exact k) A.isNone _ (hs.OH _ q (by simp[SC.lt,E.lt]) ⟨by simp[E.lt],?_,?_⟩)
      .show bV w G.S _ (fy ρ p (.bool A.isNone) p);rw[dX];exact .bool _
      show Has .bool (fy ρ p (.bool A.isNone) p);rw[dX];exact dg.2 ⟨_,rfl⟩
     have D:A.isNone=false:=by
      cases D:A with
      |some _=>rfl
      |none=>
       exfalso;rw[D]at B;rw[B]at g;exact k (Pd g)
     rw[D];exact V (by rw[j];exact k) _ (hs.OH _ q (by simp[SC.lt,E.lt]) ⟨by simp[E.lt],.bool _,dg.2 ⟨_,rfl⟩⟩)
    cases h
   cases h
  cases h
 cases h
end
def WP(ro:Tal)(P:Tba)(c:Code)(Q:O3)(a:Act)(w:Tan):Prop:=
 match ro with
 |none=>c.wp P Q a w
 |some l=>c.wpIn (Fence.wide.inRound l) 0 P Q a w
def tj:Op->Bool
 |.defer _=>true
 |_=>false
def fX:Code->Bool
 |.region _ ops _=>ops.toList.all fun o=> !tj o.op
 |.seq a b=>fX a&&fX b
 |.cond _ a b=>fX a&&fX b
 |.block _ c| .loop c=>fX c
 |.skip| .label _| .exit _| .ret=>true
 |_=>false
section
variable{P:Tba}{ro:Tal}{Q:O3}{a:Act}{w:Tan}
def Bd{l n:Nat}(h:(Fence.wide.inRound l).depth.isSome=true):1<=n:=by simp[Fence.wide]at h
def KJ{o:Tbd}{l:Nat}{next:Act->Taf}{r:Result Next}(h:o.upon P a next Q r):o.uponIn (Fence.wide.inRound l) 0 P a next Q r:=by
 cases r with
 |ok x w'=>
  cases x<;>simp only[Oper.upon,Oper.uponIn]at h⊢<;>first
   |exact h
   |exact⟨Bd,CallsIn.inRound l (callsIn_wide.2 h)⟩
   |exact⟨Bd,fun c e _=>let ⟨v,b,d,s⟩:=h c e;⟨v,b,d,stepsIn_wide.2 s⟩⟩
 |halt x w'=>cases x<;>simp only[Oper.upon,Oper.uponIn]at h⊢<;>exact h
def JS{o:Tbd}{l:Nat}{next:Act->Taf}(b:tj o.op=false)(h:o.wp P a w next Q):o.wpIn (Fence.wide.inRound l) 0 P a w next Q:=by refine⟨fun _ _=>trivial,?_⟩;rw[Oper.semAt_eq _ _ _ (fun c d=>by rw[d]at b;cases b)];exact KJ h
def vR{ops:Tae}{l:Nat}(c:(ops.toList.all fun o=> !tj o.op)=true)(b:∀a w,¬Q .outgrown a w):∀(is:Tai) (a:Act) (w:Tan),wpOps P ops Q is a w->wpOpsIn (Fence.wide.inRound l) 0 P ops Q is a w
 |[],a,w,h=>h
 |i::is,a,w,h=>by
  simp only[wpOps,wpOpsIn]at h⊢;cases ho:ops[i]? with
  |none=>simp only[ho]at h;exact vR c b is a w h
  |some o=>
   simp only[ho]at h⊢
   have e:tj o.op=false:=by have:=bU.1 c o (by simpa using Array.mem_of_getElem? ho);simpa using this
   split
   .rename_i d;rw[if_pos d]at h;rcases h with h|⟨_,j,g,h⟩
    .have f:o.wp P a w (wpOpsIn (Fence.wide.inRound l) 0 P ops Q is) Q:=Oper.wp_mono (fun a w h=>vR c b is a w h) h;exact JS e f
    exact absurd h (b _ _)
   rename_i d;rw[if_neg d]at h;exact⟨fun _ _=>trivial,vR c b is _ _ h⟩
def wq{ops:Tae}{l:Nat}{j:Region.Mode}(f:(ops.toList.all fun o=> !tj o.op)=true)(d:∀a w,¬Q .outgrown a w):∀(b:Nat) (c:Tbe Bool) (a:Act) (w:Tan),wpAny P j ops Q b c a w->wpAnyIn (Fence.wide.inRound l) 0 P j ops Q b c a w
 |0,_,_,_,h=>h
 |b+1,c,a,w,h=>by
  refine⟨h.1,fun i k=>?_⟩;have e:=h.2 i k;unfold wpOp at e;unfold wpOpIn;cases ho:ops[i]? with
  |none=>simp only[ho]at e⊢;exact wq f d b _ _ _ e
  |some o=>
   simp only[ho]at e⊢
   have m:tj o.op=false:=by have:=bU.1 f o (by simpa using Array.mem_of_getElem? ho);simpa using this
   split
   .rename_i g;rw[if_pos g]at e;rcases e with e|⟨_,p,n,e⟩
    .exact JS m (Oper.wp_mono (fun a w h=>wq f d b _ a w h) e)
    exact absurd e (d _ _)
   rename_i g;rw[if_neg g]at e;exact⟨fun _ _=>trivial,wq f d b _ _ _ e⟩
def KF(ro:Tal)(c:Code)(Q:O3):Prop:=ro.isSome=true->fX c=true/\∀a w,¬Q .outgrown a w
def WP.skip(h:Q .normal a w):WP ro P .skip Q a w:=by
 cases ro with
 |none=>exact wp_skip h
 |some l=>exact wpIn_skip h
def WP.label{l:Nat}(h:Q .normal a w):WP ro P (.label l) Q a w:=by
 cases ro with
 |none=>exact wp_label h
 |some l=>exact wpIn_label h
def WP.exit{i:Nat}(h:Q (.exit i) a w):WP ro P (.exit i) Q a w:=by
 cases ro with
 |none=>exact wp_exit h
 |some l=>exact wpIn_exit h
def WP.ret(h:Q .ret a w):WP ro P .ret Q a w:=by
 cases ro with
 |none=>exact wp_ret h
 |some l=>exact wpIn_ret h
def WP.seq{x y:Code}(h:WP ro P x (Exit.then (WP ro P y Q) Q) a w):WP ro P (.seq x y) Q a w:=by
 cases ro with
 |none=>exact wp_seq h
 |some l=>exact wpIn_seq h
def WP.cond{c:Tbc}{x y:Code}{t:Bool}(b:a.eval c=.bool t)(h:WP ro P (if t then x else y) Q a w):WP ro P (.cond c x y) Q a w:=by
 cases ro with
 |none=>cases t with
  |true=>exact wp_cond_true b h
  |false=>exact wp_cond_false b h
 |some l=>exact wpIn_cond b h
def WP.block{i:Nat}{c:Code}(h:WP ro P c (Exit.inBlock i Q) a w):WP ro P (.block i c) Q a w:=by
 cases ro with
 |none=>exact wp_block h
 |some l=>exact wpIn_block h
def WP.loop{c:Code}(I:Nat->Act->Taf)(d:Nat)(h₀:I d a w)(b:∀n a w,I n a w->WP ro P c (Exit.then (fun g f=>∃e,e<n/\I e g f) Q) a w):WP ro P (.loop c) Q a w:=by
 cases ro with
 |none=>exact wp_loop_ghost I d h₀ b
 |some l=>exact wpIn_loop_ghost I d h₀ b
def WP.region{id:Nat}{ops:Tae}(b:KF ro (.region id ops false) Q)(h:wpOps P ops Q (List.range ops.size) a w):WP ro P (.region id ops false) Q a w:=by
 cases ro with
 |none=>exact wp_region h
 |some l=>
  obtain⟨d,c⟩:=b rfl;exact wpIn_region (vR d c _ _ _ h)
def WP.Il{id:Nat}{ops:Tae}(c:KF ro (.region id ops true) Q)(b:P.follows .mixedOrders=true)(h:wpAny P .any ops Q ops.size (Array.replicate ops.size false) a {w with drawn:=w.drawn+1}):WP ro P (.region id ops true) Q a w:=by
 cases ro with
 |none=>exact wp_region_any b h
 |some l=>
  obtain⟨e,d⟩:=c rfl;exact wpIn_region_any b (wq e d _ _ _ _ h)
end
section
variable{C:Cx}{w w0 w1 w':Tan}{G:Gh}{S0 S1:gw}{σ:St}{a:Act}{n:Nat}
structure Ext(w0:Tan)(S0:gw)(w1:Tan)(S1:gw):Prop where
 below:fZ S0.mu w0 w1
 mu:∀b,S1.mu b->jg w0 S0 b
 jx:∀b o,S0.jx b o->S1.jx b o
 N7:∀b o,S0.jx b o->w1.cell? ⟨b,o,none⟩=w0.cell? ⟨b,o,none⟩
 N6:∀b o,S1.jx b o->S0.jx b o\/jg w0 S0 b
 qc:∀i b,S0.qc i=some b->S1.qc i=some b
 V1:∀i b,S1.qc i=some b->S1.mu b->Hh w0 S0 b
 fr:S0.fr->S1.fr
 wz:S0.wz->S1.wz
 prog:S1.prog=S0.prog
def Ext.new(x:Ext w0 S0 w1 S1){b:Nat}(h:jg w1 S1 b):jg w0 S0 b:=by
 rcases h with h|h
 .exact .inl (aY x.below.size h)
 exact x.mu b h
def Ext.box(x:Ext w0 S0 w1 S1){b:Nat}(h:Hh w1 S1 b):Hh w0 S0 b:=by
 rcases h with h|⟨h,i,c⟩
 .exact .inl (aY x.below.size h)
 exact x.V1 i b c h
def Ext.refl(w0:Tan)(S0:gw):Ext w0 S0 w0 S0:=⟨.refl _ _,fun _ h=>.inr h,fun _ _ h=>h,fun _ _ _=>rfl,fun _ _ h=>.inl h,fun _ _ h=>h,fun i _ c b=>.inr ⟨b,i,c⟩,id,id,rfl⟩
def Ext.block(x:Ext w0 S0 w1 S1){k:Nat}(c:k<w0.heap.size)(b:¬S0.mu k):¬S1.mu k:=by
 intro h;rcases x.mu k h with h|h
 .omega
 exact b h
def Ext.trans{d:Tan}{f:gw}(x:Ext w0 S0 w1 S1)(y:Ext w1 S1 d f):Ext w0 S0 d f where
 below:=⟨y.below.os.trans x.below.os,y.below.tape.trans x.below.tape,y.below.output.trans x.below.output,aY x.below.size y.below.size,fun k c e=>(y.below.block k (ar c x.below.size) (x.block c e)).trans (x.below.block k c e)⟩
 mu b h:=x.new (y.mu b h)
 jx b o h:=y.jx b o (x.jx b o h)
 N7 b o h:=(y.N7 b o (x.jx b o h)).trans (x.N7 b o h)
 N6 b o h:=by
  rcases y.N6 b o h with h|h
  .exact x.N6 b o h
  exact .inr (x.new h)
 qc i b h:=y.qc i b (x.qc i b h)
 V1 i b h1 h2:=x.box (y.V1 i b h1 h2)
 fr h:=y.fr (x.fr h)
 wz h:=y.wz (x.wz h)
 prog:=y.prog.trans x.prog
end
def mark(r:Nat):Deferred:={target:=.collected r,args:=#[]}
structure Dfs(w0:Tan)(S0:gw):Prop where
 ex:∃ms:Tai,S0.Ze=ms.map mark/\ms.Nodup/\∀r∈ms,w0.heap[r]?=some (.deferred (some []))/\¬S0.mu r
structure Yx(P:Tba)(k:Nat)(fs:Tam)(et:Ty)(Pre:Tah->Prop)(Φ:Tah->D):Prop where
 enter:∀(args:Tbe Tao) (w:Tan),(callFunc k args).run P w=.ok (.enter k args) w
 calls:∀(w:Tan) (S:bG) (vs:Tad) (ds:Tah),(∀b o,S b o->b<w.heap.size)->vs.length=ds.length->(∀(i:Nat) v d,vs[i]?=some v->ds[i]?=some d->bV w S v d)->dr (.Y fs) ds->Pre ds->
  ∀(l:Nat) (J:Nat->(Taj)->Taf) (Jx:Taf) (X0:Taj),
   (∀i X W W',J i X W->Below W.heap.size W W'->J i X W')->(∀W W',Jx W->Below W.heap.size W W'->Jx W')->(∀i X W,J i X W->∀b,X b->b<W.heap.size)->
   (∀i x v X W,J i X W->(Φ ds).V[i]?=some x->(∀(W':Tan) (S':bG),bV W' S' v x)->Has et x->
    YieldAt Fence.wide 0 P l #[v] W fun e W'=>
     (e=.returned (.bool true)/\(∃X',J (i+1) X' W'/\∀b,X' b->X b\/W.heap.size<=b)/\fZ X W W'/\∀b o,S b o->W'.cell? ⟨b,o,none⟩=W.cell? ⟨b,o,none⟩)\/
     (e=.returned (.bool false)/\Jx W'))->
   J 0 X0 w->
   Calls P k (#[.func (.yield l) #[] #[]]++vs.toArray) w fun e W'=>(∃v,e=.returned v)/\((∃X,J (Φ ds).V.length X W')\/Jx W')
inductive VC where
 |jY (pc:dJ) (e:E) (k:VC)
 |call (p f:Nat) (args:E) (pc:dJ) (k:VC)
 |room (pc:dJ) (e:E) (bytes:Nat) (k:VC)
 |branch (e:E) (t f:VC)
 |loop (v0:Nat) (es:List E) (G4:Tam) (body:VC)
 |again (i:Nat) (es:List E)
 |ret (e:E)
 |any (p:Nat) (t:Ty) (k:VC)
 |YN (p:Nat) (fs:List (E×E)) (k:VC)
 |range (v0 f:Nat) (args:E) (es:List E) (G4:Tam) (et:Ty) (body done:VC)
 |stuck (why:Nat)
def VC.holds(Φ:Tab)(Pre:Taa)(R:D->Prop):VC->(Nat->D)->List (Tah->Prop)->Prop
 |.jY pc e k,ρ,kv=>(aV ρ pc=true->(den ρ e).Z=true)/\k.holds Φ Pre R ρ kv
 |.call p f args pc k,ρ,kv=>(aV ρ pc=true->Pre f (den ρ args).V)/\∀d,d=Φ f (den ρ args).V->k.holds Φ Pre R (fy ρ p d) kv
 |.room pc e bytes k,ρ,kv=>(aV ρ pc=true->(den ρ e).V.length<=maxLen/\(den ρ e).V.length*bytes<=140737488355328)/\k.holds Φ Pre R ρ kv
 |.branch e t f,ρ,kv=>((den ρ e).Z=true->t.holds Φ Pre R ρ kv)/\((den ρ e).Z=false->f.holds Φ Pre R ρ kv)
 |.loop v0 es G4 body,ρ,kv=>∃(I:Tah->Prop) (m:Tah->Nat),I (es.map (den ρ))/\∀b,dr (.Y G4) b->I b->body.holds Φ Pre R (fJ ρ v0 b) ((fun c=>I c/\m c<m b)::kv)
 |.again i es,ρ,kv=>match kv[i]? with
  |some J=>J (es.map (den ρ))
  |none=>False
 |.ret e,ρ,_=>R (den ρ e)
 |.any p t k,ρ,kv=>∀d,Has t d->k.holds Φ Pre R (fy ρ p d) kv
 |.YN p fs k,ρ,kv=>∀d,(∀x∈fs,(den (fy ρ p d) x.1).V.length=(den (fy ρ p d) x.2).V.length)->k.holds Φ Pre R (fy ρ p d) kv
 |.range v0 f args es G4 et body done,ρ,kv=>Pre f (den ρ args).V/\∃I:Taa,I 0 (es.map (den ρ))/\
   (∀i x b,(Φ f (den ρ args).V).V[i]?=some x->Has et x->dr (.Y G4) b->I i b->body.holds Φ Pre R (fy (fJ ρ v0 b) (v0+G4.length) x) ((fun c=>I (i+1) c)::kv))/\
   ∀b,dr (.Y G4) b->I (Φ f (den ρ args).V).V.length b->done.holds Φ Pre R (fJ ρ v0 b) kv
 |.stuck _,_,_=>False
inductive Ex where
 |normal
 |exit (i:Nat)
 |ret
def Ex.to:Ex->Exit
 |.normal=>.normal
 |.exit i=>.exit i
 |.ret=>.ret
def rz(q:Nat):Item->Bool
 |.I9 _ _=>false
 |.jY pc e=>pc.all (fun x=>x.1.lt q)&&e.lt q
 |.call p _ args pc=>p==q&&args.lt q&&pc.all fun x=>x.1.lt q
 |.room pc e _=>pc.all (fun x=>x.1.lt q)&&e.lt q
def xd:Nat->List (Nat×Item)->Bool
 |_,[]=>true
 |lo,(q,it)::r=>decide (lo<=q)&&rz q it&&xd (match it with| .call .. =>q+1|_=>q) r
def ti:List (Nat×Item)->VC->VC
 |[],k=>k
 |(_,.I9 _ _)::r,k=>ti r k
 |(_,.jY pc e)::r,k=>.jY pc e (ti r k)
 |(_,.call p f args pc)::r,k=>.call p f args pc (ti r k)
 |(_,.room pc e b)::r,k=>.room pc e b (ti r k)
def iO:Code->Tal
 |.region id _ _=>some id
 |.seq a b=>match iO a with|some i=>some i|none=>iO b
 |.cond _ a b=>match iO a with|some i=>some i|none=>iO b
 |.block _ c| .loop c| .scope c=>iO c
 |_=>none
def E8(σ:St)(x:Slot×Ty×Tap om):St:=
 match x with
 |(.tmp t,.ptr _,none)=>
  match σ.tm t with
  |some ([],.one (.qa id 0))=>
   match σ.hp id with
   |some (_,cs)=>match gM cs with
    |some (ds,ts)=>⟨fy σ.tm t (some ([],.one (.gz (.un .qg (.Y ds)) (.ptr (.Y ts))))),fy σ.hp id (some (true,cs)),σ.live⟩
    |none=>σ
   |none=>σ
  |_=>σ
 |_=>σ
def Fp(l:List (Slot×Ty×Tap om))(σ:St):St:=l.foldl E8 σ
def gG.E8{w0:Tan}{S0:gw}{C:Cx}{G:Gh}{σ:St}{a:Act}{w:Tan}{n:Nat}(hs:gG n w0 S0 C G σ a w)(x:Slot×Ty×Tap om):∃A,gG n w0 S0 C A (dG.E8 σ x) a w:=by
 unfold dG.E8;split
 .rename_i t Y;split
  .rename_i id P;split
   .rename_i W Z l;split
    .rename_i J V f;obtain⟨A,b,Q,p,N,_⟩:=hs.m.freeze l (iS f);refine⟨A,⟨Q.congr rfl rfl,?_,hs.sz,hs.defers⟩⟩;have y:=hs.t.later b;intro r c s h;by_cases j:r=t
     .subst j;simp only[dX,aa,ae]at h;obtain⟨rfl,rfl⟩:=h;obtain⟨v,O,_,_,H⟩:=hs.t r _ _ P;obtain⟨_,_,q,_⟩:=hs.m.box _ _ _ l;obtain⟨K,T,z,k⟩:=q.cells (iS f);obtain⟨F,B,X,M,L⟩:=lV f k;have I:den C.ρ (.un .qg (.Y J))=.ptr (J.map (den C.ρ)):=by simp only[den,fR,U.den,D.V]
      have u:v=.pointer (some ⟨G.β id,0,none⟩):=by have:aV C.ρ ([]:dJ)=true:=rfl;rw[if_pos this]at H;exact H.2
      refine⟨v,O,by simp,by simpa [SV.lt,SC.lt,E.lt]using F,?_⟩;have:aV C.ρ ([]:dJ)=true:=rfl;rw[if_pos this];refine⟨by simpa [E.lt]using F,?_,?_⟩
      .rw[I,u];refine .ptr _ K _ (by simp[B]) (fun i g=>p i (by simp[B,k.1]at g;exact g)) (fun i v g=>?_) (fun i v d g o=>?_)
       .rw[cell_of_row w _ i _ T _ z];simpa using g
       simp only[ab,cQ]at o;obtain⟨e,R,rfl⟩:=o;exact(M i v e g R).keep b.S b.cell
      rw[I];exact kX.2 (.inr ⟨_,rfl,L⟩)
     simp only[fh _ _ j]at h;exact y r c s h
    exact⟨G,hs⟩
   exact⟨G,hs⟩
  exact⟨G,hs⟩
 exact⟨G,hs⟩
def gG.Fp{w0:Tan}{S0:gw}{C:Cx}{a:Act}{w:Tan}{n:Nat}:∀(l:List (Slot×Ty×Tap om)) {G:Gh} {σ:St},gG n w0 S0 C G σ a w->∃b,gG n w0 S0 C b (dG.Fp l σ) a w
 |[],G,_,h=>⟨G,h⟩
 |x::l,_,_,h=>by obtain⟨b,c⟩:=h.E8 x;exact gG.Fp l c
structure En where
 P:Tba
 cs:mJ
 n:Nat
 BV:List (Nat×EW)
 fw:QC
 wl:QC
 Vf:List (Nat×(Tam×Ty)):=[]
def Oa(σ:St)(P:Tba)(x:Tbc):Tap E:=
 match fk P σ [] x 0 with
 |some (e,.bool)=>some e
 |_=>none
def rI:dJ->E
 |[]=>.eQ true
 | [(e,true)]=>e
 |(e,true)::r=>.bin .and e (rI r)
 |(e,false)::r=>.bin .and (.un .not e) (rI r)
def qP(N:En)(ops:Tae)(b M:Nat)(c:List (Nat×iZ)->St->VC):Tai->List (Nat×iZ)->St->VC
 |[],acc,σ=>c acc σ
 |i::r,acc,σ=>
  match ops[i]? with
  |none=>.stuck 21
  |some o=>
   match xg N.P N.cs ops σ (b+i) o with
   |some e=>
    if e.tN.2.lt M&&xd (b+i) (e.items.map fun f=>(b+i,f)) then
     ti (e.items.map fun f=>(b+i,f)) (qP N ops b M c r (acc++[(i,e)]) (e.app σ))
    else .stuck (1000+i)
   |none=>
    match Mq N.cs o with
    |some y=>
     match YE N.P σ o y,jW (some true) N.P N.cs ops σ (b+i) o,jW (some false) N.P N.cs ops σ (b+i) o with
     |some x,some et,some ef=>
      if et.tN.2.lt M&&ef.tN.2.lt M&&x.args.lt (b+i) then
       .call (b+i) x.k x.args [] (.branch (Kj (b+i)) (qP N ops b M c r (acc++[(i,ef)]) (ef.app σ)) (qP N ops b M c r (acc++[(i,et)]) (et.app σ)))
      else .stuck (5500+i)
     |_,_,_=>.stuck (2500+i)
    |none=>
    match guardOf ops σ o,(guardOf ops σ o).bind (fun d=>iG N.P N.cs σ d o),jW (some true) N.P N.cs ops σ (b+i) o,jW (some false) N.P N.cs ops σ (b+i) o with
    |some d,some x,some et,some ef=>
     if et.tN.2.lt M&&ef.tN.2.lt M&&(d.all fun y=>y.1.lt (b+i))&&x.args.lt (b+i) then
      .branch (rI d) (.call (b+i) x.k x.args [] (qP N ops b M c r (acc++[(i,et)]) (et.app σ))) (qP N ops b M c r (acc++[(i,ef)]) (ef.app σ))
     else .stuck (5000+i)
    |_,_,_,_=>.stuck (2000+i)
def J8(ops:Tae):Nat->Nat->Bool
 |0,_=>false
 |f+1,t=>ops.any fun o=>o.dst==some t&&match o.op with
  |.fieldAddr _ (.tmp x) _=>J8 ops f x
  |.indexAddr .. =>true
  |_=>false
def QF(ops:Tae):Bool:=decide (0<ops.size)&&match ops[ops.size-1]? with
 |some o=>match o.op with
  |.store _ (.tmp x) _=>J8 ops 10 x
  |_=>false
 |none=>false
def AS(l:QC)(o:Tbd):Bool:=match o.op with
 |.call {callee:=.value (.func k),.. }=>(lk l k).isSome
 |_=>false
def adM(N:En)(ops:Tae)(b:Bool):Tal:=
 if b||N.cs.fr !=0 then none else(List.range ops.size).find? fun c=>decide (c+2<ops.size)&&match ops[c]?,ops[c+2]? with
  |some o,some o2=>AS N.fw o&&AS N.wl o2
  |_,_=>false
def agX(o:Tbd):Bool:=match o.op with
 |.binOp .eql _ _ y _=>uL y
 |_=>false
def Rv(o:Tbd):Bool:=match o.op with
 |.store _ _ (.tmp _)=>true
 |_=>false
def adp(ops:Tae):Bool:=match ops[ops.size-1]? with
 |some o=>agX o
 |none=>false
def abc(N:En)(ops:Tae):Bool:=match ops[ops.size-2]?,ops[ops.size-1]? with
 |some o,some o2=>AS N.wl o&&Rv o2
 |_,_=>false
def D2(N:En)(ops:Tae)(b:Bool):Tap (Nat×Bool):=
 if b then none else
 if adp ops=true/\0<ops.size then some (ops.size-1,true)
 else if abc N ops=true/\N.cs.fr=2/\1<ops.size then some (ops.size-2,false)
 else none
def Ia{N:En}{ops:Tae}{d b:Bool}{c:Nat}(h:D2 N ops d=some (c,b)):d=false/\(if b then c+1=ops.size else c+2=ops.size/\N.cs.fr=2):=by
 unfold D2 at h;split at h
 .cases h
 rename_i f;refine⟨by simpa using f,?_⟩;split at h
 .rename_i e;simp only[aa,ae]at h;obtain⟨rfl,rfl⟩:=h;simp only[if_true];omega
 split at h
 .rename_i e;simp only[aa,ae]at h;obtain⟨rfl,rfl⟩:=h;simp only[ai,if_false];exact⟨by omega,e.2.1⟩
 cases h
def T7(N:En)(ops:Tae):Bool:=ops.toList.all fun o=>match o.dst with|some d=>decide (d<N.n)|none=>true
def Kx(id:Nat)(σ:St)(i:Nat):St:=
 match σ.hp id with
 |some (false,cs)=>match cs[i]? with
  |some (.xo g u)=>match σ.live g with
   |some (e,_,u')=>if u'=u/\g.ex=true/\0<u.cells.length then⟨σ.tm,fy σ.hp id (some (false,cs.set i (.gz e (.list u)))),fun b=>if b=g then none else σ.live b⟩ else σ
   |none=>σ
  |_=>σ
 |_=>σ
def Kv(σ:St)(t:Nat):St:=
 match σ.tm t with
 |some ([],.one (.qa id 0))=>match σ.hp id with
  |some (_,cs)=>(List.range cs.length).foldl (Kx id) σ
  |none=>σ
 |_=>σ
def Kw(N:En)(r:Nat)(σ:St):St:=if N.cs.fr==0 then(((lk N.BV r).getD {}).drop.filterMap fun x=>if 3000000<=x&&x<4000000 then some (x-3000000) else none).foldl Kv σ else σ
def Mv(N:En)(r:Nat)(σ:St):St:=(((lk N.BV r).getD {}).drop.filterMap fun x=>if 9000000000<=x then some (x-9000000000) else none).foldl (fun σ t=>E8 σ (.tmp t,.ptr .nil,none)) σ
def Qs(x:Nat):Nat×Nat:=((x-4000000) % 1000,(x-4000000)/1000)
def splitAt(N:En)(r:Nat)(σ:St)(p:Nat):Tap (Nat×E×IntKind×Nat):=
 match ((lk N.BV r).getD {}).drop.find? (fun x=>4000000<=x&&x<5000000) with
 |some x=>match σ.tm (Qs x).1 with
  |some ([],.one (.gz e (.int kd)))=>if e.lt p then some ((Qs x).1,e,kd,(Qs x).2) else none
  |_=>none
 |none=>none
def zk(f:St->VC)(σ:St)(t:Nat)(e:E)(b:IntKind):Tai->VC
 |[]=>.stuck 9100
 |j::r=>.branch (.bin .eq e (.aU b j)) (f (E2 σ t (.gz (.aU b j) (.int b)))) (zk f σ t e b r)
def Ml(σ:St)(id c:Nat)(cs:List SC)(x:SC):St:=⟨σ.tm,fy σ.hp id (some (false,cs.set c x)),σ.live⟩
def uH(N:En)(r:Nat)(σ:St)(p:Nat):Tap (Nat×Nat×List SC×E×IntKind×Nat):=
 match ((lk N.BV r).getD {}).drop.find? (fun x=>5000000<=x&&x<9000000000) with
 |some x=>match σ.tm ((x-5000000) % 1000) with
  |some ([],.one (.qa id 0))=>match σ.hp id with
   |some (false,cs)=>match cs[(x-5000000)/100000]? with
    |some (.gz e (.int kd))=>if e.lt p then some (id,(x-5000000)/100000,cs,e,kd,((x-5000000)/1000) % 100) else none
    |_=>none
   |_=>none
  |_=>none
 |none=>none
def vP(f:St->VC)(σ:St)(id c:Nat)(cs:List SC)(e:E)(b:IntKind):Tai->VC
 |[]=>.stuck 9100
 |j::r=>.branch (.bin .eq e (.aU b j)) (f (Ml σ id c cs (.gz (.aU b j) (.int b)))) (vP f σ id c cs e b r)
def D3(N:En)(r p:Nat)(f:St->VC)(σ:St):VC:=
 match splitAt N r σ p with
 |some (t,e,kd,m)=>zk f σ t e kd (List.range m)
 |none=>match uH N r σ p with
  |some (id,c,cs,e,kd,m)=>vP f σ id c cs e kd (List.range m)
  |none=>f σ
def Tf(N:En)(id:Nat)(ops:Tae)(b:Bool)(k:Ex->St->Nat->Nat->VC)(p d:Nat)(σ:St):VC:=
  match D2 N ops b with
  |some (c,true)=>qP N ops p (p+c) (fun _ f=>match (ops[c]?).bind (Wg N.P N.n (p+c) f) with
    |some (t,e)=>
     if T7 N ops then .branch (.bin .eq (.un .len e) (.aU .i64 0)) (.any (p+c) .bool (k .normal (E2 f t (.gz (.var (p+c)) .bool)) (p+ops.size) d)) (.any (p+c) .bool (k .normal (E2 f t (.gz (.eQ false) .bool)) (p+ops.size) d))
     else .stuck 9001
    |none=>.stuck 9000) (List.range' 0 c) [] σ
  |some (c,false)=>.stuck 9004
  |none=>
  if N.cs.fr==2&&QF ops then
   .stuck 7000
  else
  match adM N ops b with
  |some c=>.stuck 8000
  |none=>
  match MQ N.P N.cs σ ops b with
  |some c=>qP N ops p (p+c) (fun _ f=>
    match (ops[c]?).bind (V2 N.P N.cs N.n f) with
    |some x=>
     if x.e.lt (p+c)&&(ops.toList.all fun o=>match o.dst with|some d=>decide (d<N.n)|none=>true) then
      .call (p+c) x.k (.cons x.e .nil) [] (qP N ops p (p+ops.size) (fun _ g=>k .normal g (p+ops.size) d) (List.range' (c+1) (ops.size-(c+1))) [] (x.after f (p+c)))
     else .stuck 6001
    |none=>.stuck 6000) (List.range' 0 c) [] σ
  |none=>qP N ops p (p+ops.size) (fun r h=>
   if(!b||(qo ops r&&U8 ops))&&(ops.toList.all fun o=>match o.dst with|some d=>decide (d<N.n)|none=>true) then k .normal h (p+ops.size) d
   else .stuck (1000+id)) (List.range ops.size) [] σ
def lA:E->Tap Bool
 |.eQ b=>some b
 |.un .not e=>(lA e).map (!·)
 |.un .zU .gv=>some true
 |.bin .or a b=>match lA a,lA b with
  |some true,_=>some true
  |_,some true=>some true
  |some false,some false=>some false
  |_,_=>none
 |.bin .and a b=>match lA a,lA b with
  |some false,_=>some false
  |_,some false=>some false
  |some true,some true=>some true
  |_,_=>none
 |_=>none
def F4{ρ:Nat->D}:∀{e:E} {b:Bool},lA e=some b->(den ρ e).Z=b:=by
 intro e
 induction e with
 |eQ b=>intro i h;simp only[lA,aa]at h;subst h;rfl
 |un o e ih=>
  intro b h;cases o<;>try (simp only[lA]at h;done)
  all_goals first
   |(simp only[lA,cQ]at h
     obtain⟨i,c,rfl⟩:=h;rw[show(den ρ (.un .not e)).Z= !(den ρ e).Z from rfl,ih c])
   |(cases e<;>simp only[lA,aa,reduceCtorEq]at h
     subst h;rfl)
   |(simp[lA]at h)
 |bin o x y YG Qg=>
  intro b h;have f:(den ρ (.bin .or x y)).Z=((den ρ x).Z||(den ρ y).Z):=rfl;have g:(den ρ (.bin .and x y)).Z=((den ρ x).Z&&(den ρ y).Z):=rfl;cases o<;>try (simp[lA]at h;done)
  all_goals
   simp only[lA]at h
   try rw[f]
   try rw[g]
   cases hx:lA x with
   |none=>cases hy:lA y with
    |none=>rw[hx,hy]at h;cases h
    |some by'=>
     rw[hx,hy]at h;have d:=Qg hy;cases by'<;>simp only[aa,reduceCtorEq]at h
     subst h;simp[d]
   |some bx=>cases hy:lA y with
    |none=>
     rw[hx,hy]at h;have c:=YG hx;cases bx<;>simp only[aa,reduceCtorEq]at h
     subst h;simp[c]
    |some by'=>
     rw[hx,hy]at h;have c:=YG hx;have d:=Qg hy;cases bx<;>cases by'<;>simp only[aa,reduceCtorEq]at h<;>subst h<;>simp[c,d]
 |_=>intro b h;simp[lA]at h
def vc(N:En):Code->(Ex->St->Nat->Nat->VC)->St->Nat->Nat->VC
 |.skip,k,σ,p,d=>k .normal σ p d
 |.label _,k,σ,p,d=>k .normal σ p d
 |.exit i,k,σ,p,d=>k (.exit i) σ p d
 |.ret,k,σ,p,d=>k .ret σ p d
 |.region id ops draw,k,σx,p,d=>
  D3 N id p (Tf N id ops draw k p d) (Mv N id (Kw N id σx))
 |.seq a b,k,σ,p,d=>vc N a (fun ex σ p d=>match ex with| .normal=>vc N b k σ p d|e=>k e σ p d) σ p d
 |.cond c x y,k,σ,p,d=>
  match Oa σ N.P c with
  |some (.eQ true)=>vc N x k σ p d
  |some (.eQ false)=>vc N y k σ p d
  |some e=>match lA e with
   |some true=>vc N x k σ p d
   |some false=>vc N y k σ p d
   |none=>if e.lt p then .branch e (vc N x k σ p d) (vc N y k σ p d) else .stuck 1
  |none=>.stuck 2
 |.block i c,k,σ,p,d=>vc N c (fun ex σ p d=>match ex with| .exit j=>if j=i then k .normal σ p d else k (.exit j) σ p d|e=>k e σ p d) σ p d
 |.loop c,k,σ,p,d=>
  if !N.Vf.isEmpty&& !fX c then .stuck 35 else
  let h:=uB N.n (((iO c).bind (lk N.BV)).getD {}) ((((iO c).bind (lk N.BV)).getD {}).own.map (·.1)++assigned c) σ p
  match Fq N.n h σ with
  |some es=>.loop p es (h.iz.map fun x=>lF x.2.1 x.2.2) (vc N c (fun ex f l g=>match ex with
    |.normal=>match Fq N.n h (Fp h.iz f) with
     |some es'=>.again (g-1-d) es'
     |none=>.stuck (3000+p)
    |e=>k e f l g) h.st (p+h.size) (d+1))
  |none=>.stuck (4000+p)
 |_,_,_,_,_=>.stuck 3
def E.mO{n m:Nat}(h:n<=m):∀{e:E},e.lt n=true->e.lt m=true:=by
 intro e
 induction e with
 |var i=>intro d;simp only[E.lt,bg]at d⊢;omega
 |aU|eQ|BR|gv|nil=>intro _;rfl
 |cons a b pF pE=>intro d;simp only[E.lt,aP]at d⊢;exact⟨pF d.1,pE d.2⟩
 |un o e ih=>intro d;exact ih d
 |bin o a b pF pE=>intro d;simp only[E.lt,aP]at d⊢;exact⟨pF d.1,pE d.2⟩
 |ite c a b Kl pF pE=>intro d;simp only[E.lt,aP]at d⊢;exact⟨⟨Kl d.1.1,pF d.1.2⟩,pE d.2⟩
def jI{ρ b:Nat->D}{n:Nat}(h:∀i,i<n->b i=ρ i){c:dJ}(e:(c.all fun x=>x.1.lt n)=true):aV b c=aV ρ c:=by
 unfold aV;rw[bU]at e;rw[cT,bU,bU];constructor
 .intro H x d;rw[<-dN h (e x d)];exact H x d
 intro H x d;rw[dN h (e x d)];exact H x d
def qz{Φ:Tab}{Pre:Taa}{R:D->Prop}{k:VC}{o:List (Tah->Prop)}{N:Nat}{M:Taj}:∀{L:List (Nat×Item)} {lo:Nat} {ρ:Nat->D},xd lo L=true->(∀x∈L,x.1<N)->
  (ti L k).holds Φ Pre R ρ o->∃c,(∀i,i<lo->c i=ρ i)/\(∀x∈L,eR ⟨c,N,M⟩ Φ Pre x.2)/\k.holds Φ Pre R c o
 |[],lo,ρ,_,_,h=>⟨ρ,fun _ _=>rfl,by simp,h⟩
 |(q,it)::r,lo,ρ,hb,hN,h=>by
  simp only[xd,aP,bg]at hb;obtain⟨⟨H,d⟩,z⟩:=hb;have m:∀x∈r,x.1<N:=fun x j=>hN x (ao _ j);have F:q<N:=hN (q,it) (aZ ..);cases it with
  |I9 pc b=>simp[rz]at d
  |jY pc e=>
   obtain⟨u,t⟩:=h;obtain⟨c,l,y,v⟩:=qz (lo:=q) z m t;simp only[rz,aP]at d;refine⟨c,fun i B=>l i (by omega),fun x j=>?_,v⟩;rcases aH.1 j with rfl|j
   .exact⟨E.mO (by show q<=N;omega) d.2,fun s=>by show(den c e).Z=true;rw[dN l d.2];exact u ((jI l d.1).symm.trans s)⟩
   exact y x j
  |call p f args pc=>
   obtain⟨u,t⟩:=h;simp only[rz,aP,beq_iff_eq]at d;obtain⟨⟨rfl,g⟩,A⟩:=d;obtain⟨c,l,y,v⟩:=qz (lo:=p+1) z m (t _ rfl);have agree:∀i,i<p->c i=ρ i:=fun i B=>(l i (by omega)).trans (fh _ _ (by omega));refine⟨c,fun i B=>agree i (by omega),fun x j=>?_,v⟩;rcases aH.1 j with rfl|j
   .refine⟨E.mO (by show p<=N;omega) g,F,?_,fun s=>?_⟩
    .show c p=Φ f (den c args).V;rw[l p (by omega),dX,dN agree g]
    show Pre f (den c args).V;rw[dN agree g];exact u ((jI agree A).symm.trans s)
   exact y x j
  |room pc e b=>
   obtain⟨u,t⟩:=h;obtain⟨c,l,y,v⟩:=qz (lo:=q) z m t;simp only[rz,aP]at d;refine⟨c,fun i B=>l i (by omega),fun x j=>?_,v⟩;rcases aH.1 j with rfl|j
   .exact⟨E.mO (by show q<=N;omega) d.2,fun s=>by show(den c e).V.length<=maxLen/\(den c e).V.length*b<=_;rw[dN l d.2];exact u ((jI l d.1).symm.trans s)⟩
   exact y x j
def uS{ρ:Nat->D}:∀{pc:dJ},(den ρ (rI pc)).Z=aV ρ pc
 |[]=>rfl
 | [(e,true)]=>by simp[rI,aV]
 | [(e,false)]=>by simp[rI,aV,den,B.den,U.den,D.Z]
 |(e,true)::x::r=>by have:=uS (ρ:=ρ) (pc:=x::r);show((den ρ e).Z&&(den ρ (rI (x::r))).Z)=_;rw[this];simp[aV]
 |(e,false)::x::r=>by have:=uS (ρ:=ρ) (pc:=x::r);show(!(den ρ e).Z&&(den ρ (rI (x::r))).Z)=_;rw[this];simp[aV]
def Bp:∀{L:List (Nat×Item)} {lo:Nat},xd lo L=true->∀x∈L,rz x.1 x.2=true
 |[],_,_,x,b=>by simp at b
 |(q,it)::r,lo,h,x,b=>by
  simp only[xd,aP]at h;rcases aH.1 b with rfl|b
  .exact h.1.2
  exact Bp h.2 x b
def EG{Φ:Tab}{Pre:Taa}{ρ d:Nat->D}{N q:Nat}{M:Taj}{it:Item}(h:eR ⟨ρ,N,M⟩ Φ Pre it)(j:rz q it=true)(l:∀i,i<q+1->d i=ρ i):eR ⟨d,N,M⟩ Φ Pre it:=by
 have c:∀i,i<q->d i=ρ i:=fun i u=>l i (by omega);cases it with
 |I9 pc b=>simp[rz]at j
 |jY pc e=>
  simp only[rz,aP]at j;refine⟨h.1,fun k=>?_⟩;show(den d e).Z=true;rw[dN c j.2];exact h.2 ((jI c j.1).symm.trans k)
 |call p f args pc=>
  simp only[rz,aP,beq_iff_eq]at j;obtain⟨⟨rfl,g⟩,m⟩:=j;obtain⟨t,s,r,o⟩:=h;refine⟨t,s,?_,fun k=>?_⟩
  .show d p=Φ f (den d args).V;rw[l p (by omega),dN c g];exact r
  show Pre f (den d args).V;rw[dN c g];exact o ((jI c m).symm.trans k)
 |room pc e b=>
  simp only[rz,aP]at j;refine⟨h.1,fun k=>?_⟩;show(den d e).V.length<=maxLen/\(den d e).V.length*b<=_;rw[dN c j.2];exact h.2 ((jI c j.1).symm.trans k)
def jG{N:En}{Φ:Tab}{Pre:Taa}{R:D->Prop}{ops:Tae}{f M:Nat}{MM:Taj}{H:List (Nat×iZ)->St->VC}{kv:List (Tah->Prop)}:
  ∀(n s:Nat) (acc:List (Nat×iZ)) (σ:St) (ρ:Nat->D),(qP N ops f M H (List.range' s n) acc σ).holds Φ Pre R ρ kv->f+s+n<=M->
   ∃(c:Nat->D) (r:List (Nat×iZ)) (σ':St),(∀i,i<f+s->c i=ρ i)/\rr N.P N.cs ops f M r σ σ'/\r.map (·.1)=List.range' s n/\(∀x∈r,∀m∈x.2.items,eR ⟨c,M,MM⟩ Φ Pre m)/\(H (acc++r) σ').holds Φ Pre R c kv
 |0,s,acc,σ,ρ,h,_=>⟨ρ,[],σ,fun _ _=>rfl,.nil σ,rfl,by simp,by rw[aX];exact h⟩
 |n+1,s,acc,σ,ρ,h,hM=>by
  rw[List.range'_succ]at h⊢;simp only[qP]at h;split at h
  .exact h.elim
  rename_i o X;split at h
  .rename_i e p;split at h
   .rename_i I;simp only[aP]at I;obtain⟨t,W⟩:=I
    obtain⟨a0,a1,a2,a3⟩:=qz (N:=M) (M:=MM) W (fun x v=>by obtain⟨m,_,rfl⟩:=bf.1 v;show f+s<M;omega) h
    obtain⟨c,r,σ',A,Q,O,L,K⟩:=jG n (s+1) _ _ a0 a3 (by omega);refine⟨c,(s,e)::r,σ',fun i S=>(A i (by omega)).trans (a1 i S),.cons X ⟨none,p⟩ t Q,by simp[O],?_,by simpa using K⟩;intro x v m d;rcases aH.1 v with rfl|v
    .have hm:(f+s,m)∈e.items.map fun m=>(f+s,m):=bf.2 ⟨m,d,rfl⟩;exact EG (a2 _ hm) (Bp W _ hm) (fun i S=>A i (by show i<f+(s+1);have:i<f+s+1:=S;omega))
    exact L x v m d
   exact h.elim
  split at h
  .rename_i y B;split at h
   .rename_i x et ef v j l;split at h
    .rename_i I;simp only[aP]at I;obtain⟨⟨t,J⟩,g⟩:=I;obtain⟨k1,k2⟩:=h;obtain⟨Z,Y⟩:=k2 _ rfl
     have T:∀(b:Bool) (e:iZ),jW (some b) N.P N.cs ops σ (f+s) o=some e->e.tN.2.lt M=true->(den (fy ρ (f+s) (Φ x.k (den ρ x.args).V)) (Kj (f+s))).Z= !b->
       (qP N ops f M H (List.range' (s+1) n) (acc++[(s,e)]) (e.app σ)).holds Φ Pre R (fy ρ (f+s) (Φ x.k (den ρ x.args).V)) kv->
       ∃(c:Nat->D) (r:List (Nat×iZ)) (σ':St),(∀i,i<f+s->c i=ρ i)/\rr N.P N.cs ops f M r σ σ'/\r.map (·.1)=s::List.range' (s+1) n/\(∀x∈r,∀m∈x.2.items,eR ⟨c,M,MM⟩ Φ Pre m)/\(H (acc++r) σ').holds Φ Pre R c kv:=by
      intro b e p a5 a6 hh;obtain⟨c,r,σ',A,Q,O,L,K⟩:=jG n (s+1) _ _ _ hh (by omega);have u:∀i,i<f+s->c i=ρ i:=fun i S=>(A i (by omega)).trans (fh _ _ (by omega));refine⟨c,(s,e)::r,σ',u,.cons X ⟨some b,p⟩ a5 Q,by simp[O],?_,by simpa using K⟩;intro z hz m d;rcases aH.1 hz with rfl|hz
      .unfold jW at p;simp only[B]at p;split at p
       .cases p
       split at p
       .rename_i fs b0;rw[v]at p;simp only[aS,aa]at p;have F:e.items=[.I9 [(Kj (f+s),!b)] true,.call (f+s) x.k x.args []]:=by rw[<-p];cases b<;>rfl
        rw[F]at d;have U:c (f+s)=Φ x.k (den ρ x.args).V:=by rw[A (f+s) (by omega),dX]
        simp only[aH,dv,or_false]at d;rcases d with rfl|rfl
        .show aV c [(Kj (f+s),!b)]=true;simp only[aV,List.all_cons,bW,Bool.and_true,beq_iff_eq,Kj,den,U];rw[<-a6];simp only[Kj,den,dX]
        refine⟨E.mO (by show f+s<=M;omega) g,by show f+s<M;omega,?_,fun _=>?_⟩
        .show c (f+s)=Φ x.k (den c x.args).V;rw[U,dN u g]
        show Pre x.k (den c x.args).V;rw[dN u g];exact k1 rfl
       cases p
      exact L z hz m d
     cases hb:(den (fy ρ (f+s) (Φ x.k (den ρ x.args).V)) (Kj (f+s))).Z with
     |true=>exact T false ef l J hb (Z hb)
     |false=>exact T true et j t hb (Y hb)
    exact h.elim
   exact h.elim
  rename_i V;split at h
  .rename_i pc x et ef hg v j l;split at h
   .rename_i I;simp only[aP]at I;obtain⟨⟨⟨t,J⟩,a4⟩,g⟩:=I;obtain⟨Z,Y⟩:=h;rw[uS]at Z Y;have agree:∀c:Nat->D,(∀i,i<f+s->c i=ρ i)->aV c pc=aV ρ pc:=fun c a7=>jI a7 a4;cases hb:aV ρ pc with
    |true=>
     obtain⟨k1,k2⟩:=Z hb;have k3:=k2 _ rfl;obtain⟨c,r,σ',A,Q,O,L,K⟩:=jG n (s+1) _ _ _ k3 (by omega);have u:∀i,i<f+s->c i=ρ i:=fun i S=>(A i (by omega)).trans (fh _ _ (by omega));refine⟨c,(s,et)::r,σ',u,.cons X ⟨some true,j⟩ t Q,by simp[O],?_,by simpa using K⟩;intro y B m d;rcases aH.1 B with rfl|B
     .rw[hg,cg]at v;unfold jW at j;simp only[V,hg,v]at j;split at j
      .cases j
      injection j with j;rw[<-j]at d;simp only[aH,dv,or_false]at d;rcases d with rfl|rfl
      .show aV c pc=true;rw[agree c u,hb]
      refine⟨E.mO (by show f+s<=M;omega) g,by show f+s<M;omega,?_,fun _=>?_⟩
      .show c (f+s)=Φ x.k (den c x.args).V;rw[A (f+s) (by omega),dX,dN u g]
      show Pre x.k (den c x.args).V;rw[dN u g];exact k1 rfl
     exact L y B m d
    |false=>
     obtain⟨c,r,σ',A,Q,O,L,K⟩:=jG n (s+1) _ _ _ (Y hb) (by omega);have u:∀i,i<f+s->c i=ρ i:=fun i S=>A i (by omega);refine⟨c,(s,ef)::r,σ',u,.cons X ⟨some false,l⟩ J Q,by simp[O],?_,by simpa using K⟩;intro y B m d;rcases aH.1 B with rfl|B
     .unfold jW at l;simp only[V,hg]at l;split at l
      .rename_i a9 a8 q _;injection q with q;subst q;injection l with l;rw[<-l]at d;simp only[aH,dv,or_false]at d;subst d;show aV c pc=false;rw[agree c u,hb]
      cases l
     exact L y B m d
   exact h.elim
  exact h.elim
section
variable{w0:Tan}{S0:gw}{C:Cx}{G:Gh}{σ:St}{a:Act}{w:Tan}{n:Nat}
def gG.drew(h:gG n w0 S0 C G σ a w):gG n w0 S0 C G σ a {w with drawn:=w.drawn+1}:=by
 have b:dO C w G C {w with drawn:=w.drawn+1} G:=⟨fun _ h=>⟨rfl,h⟩,fun _ h=>h,fun _ _ h=>h,fun _ _ _=>rfl,fun _ _=>rfl,fun _ _=>rfl⟩;refine⟨⟨h.m.below.drew,h.m.jB,h.m.keep,h.m.qc,h.m.kN,h.m.dP,h.m.gL,h.m.mC,?_,h.m.inj,?_,h.m.fS,h.m.jr,h.m.eO,h.m.mB b rfl (fun _ _ _=>rfl) (fun _ _ h _=>h),h.m.wz⟩,h.t.later b,h.sz,h.defers⟩
 .intro id d l c;obtain⟨k,j,i,f⟩:=h.m.box id d l c;exact⟨k,j,i.later b rfl,f⟩
 intro g e T t c;exact(h.m.own g e T t c).later b (fun _ _=>rfl) (fun _ _ _ h=>h)
structure Ww(N:En)(Φ:Tab)(Pre:Taa)(w0:Tan)(S0:gw):Prop where
 fl:∀k sig ob,lk N.cs.l k=some sig->sig.ob=some ob->ob.wU=true->∀b o,S0.jx b o->¬jg w0 S0 b
 cf:Hf N.P N.cs S0 Φ Pre
 wz:N.cs.fr=2->(∀b o,¬S0.jx b o)/\S0.wz
 Ze:N.Vf≠[]->Dfs w0 S0
def Marks(w0:Tan)(S0 c:gw):Prop:=∃b:Tai,c.Ze=b.map mark++S0.Ze/\∀r∈b,w0.heap.size<=r
def Marks.refl(w0:Tan)(S0:gw):Marks w0 S0 S0:=⟨[],rfl,by simp⟩
def Marks.trans{w0 c:Tan}{S0 d S2:gw}(h:Marks w0 S0 d)(j:w0.heap.size<=c.heap.size)(k:Marks c d S2):Marks w0 S0 S2:=by
 obtain⟨f,m,l⟩:=h;obtain⟨e,i,g⟩:=k;refine⟨e++f,by rw[i,m];simp,fun r b=>?_⟩;rcases aQ.1 b with b|b
 .exact aY j (g r b)
 exact l r b
structure ph(N:En)(Φ:Tab)(Pre:Taa)(c:Code)(w0:Tan)(S0:gw)(w1:Tan)(S1:gw):Prop where
 same:N.Vf=[] \/fX c=true->w1=w0/\S1=S0
 ext:Ext w0 S0 w1 S1
 env:Ww N Φ Pre w1 S1
 marks:Marks w0 S0 S1
def ph.refl{N:En}{Φ:Tab}{Pre:Taa}{c:Code}{w0:Tan}{S0:gw}(h:Ww N Φ Pre w0 S0):ph N Φ Pre c w0 S0 w0 S0:=⟨fun _=>⟨rfl,rfl⟩,Ext.refl _ _,h,Marks.refl _ _⟩
def ph.seq{N:En}{Φ:Tab}{Pre:Taa}{x y z:Code}{w0 c b:Tan}{S0 e d:gw}(g:fX z=true->fX x=true)(f:fX z=true->fX y=true)(h:ph N Φ Pre x w0 S0 c e)(k:ph N Φ Pre y c e b d):ph N Φ Pre z w0 S0 b d where
 same hc:=by obtain⟨rfl,rfl⟩:=h.same (hc.imp id g);exact k.same (hc.imp id f)
 ext:=h.ext.trans k.ext
 env:=k.env
 marks:=h.marks.trans h.ext.below.size k.marks
def ph.sub{N:En}{Φ:Tab}{Pre:Taa}{x z:Code}{w0 b:Tan}{S0 S1:gw}(c:fX z=true->fX x=true)(h:ph N Φ Pre x w0 S0 b S1):ph N Φ Pre z w0 S0 b S1:=⟨fun d=>h.same (d.imp id c),h.ext,h.env,h.marks⟩
def KF.sub{ro:Tal}{z c:Code}{Q Q':O3}(h:KF ro z Q)(f:fX z=true->fX c=true)(e:∀a w,Q' .outgrown a w->Q .outgrown a w):KF ro c Q':=fun b=>⟨f (h b).1,fun a w d=>(h b).2 a w (e a w d)⟩
section
variable{w0:Tan}{S0:gw}{C:Cx}{G:Gh}{σ:St}{a:Act}{w:Tan}{n:Nat}
def eU.RL(h:eU w0 S0 C G σ w){g:Tag}{e:E}{T:Tbb}{t:Ty}(J:σ.live g=some (e,T,t))(a0:g.ex=true)(O:0<t.cells.length)(R:¬S0.fr)(Q:¬S0.wz):
  ∃Y,dO C w G C w Y/\eU w0 S0 C Y {σ with live:=fun m=>if m=g then none else σ.live m} w/\e.lt C.N=true/\bV w Y.S (G.τ g) (den C.ρ e)/\Has (.list t) (den C.ρ e):=by
 have q:=h.own g e T t J;obtain⟨L,l,Z,D,hS,hr⟩:=q.own
 have r:dO C w G C w {G with S:=fun b o=>G.S b o\/((G.τ g).ownBlock=some b/\o<L.length)}:=
  ⟨fun _ h=>⟨rfl,h⟩,fun _ h=>h,fun _ _ h=>.inl h,fun _ _ _=>rfl,fun _ _=>rfl,fun _ _=>rfl⟩
 have f:∀{m:Tag} {x:E×Tbb×Ty},(if m=g then none else σ.live m)=some x->m≠g/\σ.live m=some x:=by
  intro m x k;split at k
  .cases k
  rename_i p;exact⟨p,k⟩
 refine⟨{G with S:=fun b o=>G.S b o\/((G.τ g).ownBlock=some b/\o<L.length)},r,?_,q.lt,?_,q.has⟩
 .refine⟨h.below,fun b o hs=>.inl (h.jB b o hs),h.keep,h.qc,h.kN,?_,?_,h.mC,?_,h.inj,?_,?_,?_,?_,fun hf=>absurd hf R,fun hz=>absurd hz Q⟩
  .rintro b o (hs|⟨s,_⟩)
   .exact h.dP b o hs
   exact(q.gu b s).2
  .rintro b o (hs|⟨s,_⟩)
   .exact h.gL b o hs
   exact .inr (h.fS g _ b J s)
  .intro i B X k;obtain⟨I,H,W,K⟩:=h.box i B X k;refine⟨I,H,W.later r rfl,?_⟩;cases B with
   |true=>simp only[if_true]at K⊢;exact fun o P=>.inl (K o P)
   |false=>
    simp only[ai,if_false]at K⊢;rintro o (P|⟨he,_⟩)
    .exact K o P
    exact h.eO g i _ _ _ J k he rfl
  .intro m e' T' t' k;obtain⟨p,k⟩:=f k;refine(h.own m e' T' t' k).later r (fun _ _=>rfl) (fun b s o hs=>?_);rcases hs with hs|⟨V,_⟩
   .exact hs
   exact absurd (h.jr m g _ _ b k J s V) p
  .intro m x b k s;exact h.fS m x b (f k).2 s
  .intro g1 g2 x y b k M I H;exact h.jr g1 g2 x y b (f k).2 (f M).2 I H
  intro m i x y b k M s;exact h.eO m i x y b (f k).2 M s
 rw[Z];obtain⟨hl,hh⟩:=D;rcases hh with⟨hv,hn⟩|⟨b,cap,cur,hv,s,hgb,Mf,YM,GZ,tW⟩
 .have:l=[]:=an hn;subst this;rw[hv];exact .nil none 0
 have u:=q.has;rw[Z]at u;obtain⟨l',z,_,k⟩:=bO.1 u;injection z with z;subst z;by_cases p:l=[]
 .subst p;rw[hv];exact .nil _ cap
 have F:(G.τ g).ownBlock=some b:=by rw[hv];rfl
 rw[hv]at F⊢;refine .list b 0 cap t.cells.length L l O p Mf hl (fun i A=>?_) (fun i v A=>?_) (fun i d U=>?_) (fun i d j v c I H W=>(hr i d j v c I H W).keep (fun _ _ h=>.inl h) (fun _ _ _=>rfl))
 .rw[aq];exact .inr ⟨F,A⟩
 .rw[aq,cell_of_row w b i cur T (0,0) hgb];rw[<-tW,aC]at A;split at A
  .simpa using A
  cases A
 exact(cZ (k d (bT U))).1
def gG.Kx(h:gG n w0 S0 C G σ a w)(Y:¬S0.fr)(W:¬S0.wz)(id i:Nat):∃P,gG n w0 S0 C P (Kx id σ i) a w:=by
 unfold dG.Kx;split
 .rename_i z K;split
  .rename_i g u E;split
   .rename_i e T N hg;split
    .rename_i s;obtain⟨rfl,a1,V⟩:=s;obtain⟨P,q,f,Z,H,L⟩:=h.m.RL hg a1 V Y W;have D:i<z.length:=(aD.1 E).1
     have X:mapOf z=none:=by
      unfold mapOf;split
      .rename_i e' kt T';have:i=0:=by simpa using D
       subst this;cases E
      rfl
     have a2:mapOf (z.set i (.gz e (.list N)))=none:=by
      unfold mapOf;split
      .rename_i e' kt T' M;have hl:=congrArg List.length M;simp at hl;have:i=0:=by omega
       subst this;cases z with
       |nil=>simp at D
       |cons c r=>simp at M
      rfl
     have J:(⟨σ.tm,σ.hp,fun O=>if O=g then none else σ.live O⟩:St).hp id=some (false,z):=K;refine⟨P,⟨?_,h.t.later q,h.sz,h.defers⟩⟩
     have o:∀{j:Nat} {x:Bool×List SC},fy σ.hp id (some (false,z.set i (.gz e (.list N)))) j=some x->∃y,σ.hp j=some y:=by
      intro j x d;by_cases I:j=id
      .exact⟨_,I▸K⟩
      rw[fh _ _ I]at d;exact⟨_,d⟩
     refine⟨f.below,f.jB,f.keep,f.qc,f.kN,f.dP,f.gL,?_,?_,?_,f.own,f.fS,f.jr,?_,f.fresh,f.wz⟩
     .intro j x d;obtain⟨y,F⟩:=o d;exact f.mC j y F
     .intro j l p d;by_cases I:j=id
      .subst I;have d:fy σ.hp j (some (false,z.set i (.gz e (.list N)))) j=some (l,p):=d;simp only[dX,aa,ae]at d;obtain⟨rfl,rfl⟩:=d;obtain⟨b1,b2,b3,b4⟩:=f.box j _ _ J;obtain⟨vs,Tb,a0,B⟩:=b3.cells X;refine⟨b1,?_,.mk a0 ⟨by rw[aK];exact B.1,fun k c v s hv=>?_⟩,?_⟩
       .rw[bU]at b2⊢;intro x d;rcases eY d with d|rfl
        .exact b2 x d
        rfl
       .by_cases hk:k=i
        .subst hk;rw[List.getElem?_set_self D]at s;injection s with s;subst s;obtain⟨hM,U,_⟩:=B.2 k _ v E hv;have R:P.τ g=G.τ g:=q.τ g hM;exact⟨Z,by rw[U,R];exact H,L⟩
        rw[List.getElem?_set_ne (fun e=>hk e.symm)]at s;exact B.2 k c v s hv
       simp only[ai,if_false]at b4⊢;exact b4
      have d:σ.hp j=some (l,p):=by
       have d:fy σ.hp id (some (false,z.set i (.gz e (.list N)))) j=some (l,p):=d
       rwa [fh _ _ I]at d
      exact f.box j l p d
     .intro j k x y d F he;obtain⟨x',S⟩:=o d;obtain⟨Q,A⟩:=o F;exact f.inj j k x' Q S A he
     intro O j x y b d F hb;obtain⟨Q,A⟩:=o F;exact f.eO O j x Q b d A hb
    exact⟨G,h⟩
   exact⟨G,h⟩
  exact⟨G,h⟩
 exact⟨G,h⟩
def gG.aa8(c:¬S0.fr)(b:¬S0.wz)(id:Nat):∀(l:Tai) {G:Gh} {σ:St},gG n w0 S0 C G σ a w->∃d,gG n w0 S0 C d (l.foldl (dG.Kx id) σ) a w
 |[],G,_,h=>⟨G,h⟩
 |t::l,_,_,h=>by obtain⟨d,e⟩:=h.Kx c b id t;exact gG.aa8 c b id l e
def gG.Kv(h:gG n w0 S0 C G σ a w)(c:¬S0.fr)(b:¬S0.wz)(t:Nat):∃d,gG n w0 S0 C d (Kv σ t) a w:=by
 unfold dG.Kv;split
 .split
  .exact gG.aa8 c b _ _ h
  exact⟨G,h⟩
 exact⟨G,h⟩
def gG.T6(c:¬S0.fr)(b:¬S0.wz):∀(l:Tai) {G:Gh} {σ:St},gG n w0 S0 C G σ a w->∃d,gG n w0 S0 C d (l.foldl dG.Kv σ) a w
 |[],G,_,h=>⟨G,h⟩
 |t::l,_,_,h=>by obtain⟨d,e⟩:=h.Kv c b t;exact gG.T6 c b l e
def gG.aa7:∀(l:Tai) {G:Gh} {σ:St},gG n w0 S0 C G σ a w->∃c,gG n w0 S0 C c (l.foldl (fun σ t=>dG.E8 σ (.tmp t,.ptr .nil,none)) σ) a w
 |[],G,_,h=>⟨G,h⟩
 |t::l,_,_,h=>by obtain⟨d,b⟩:=h.E8 (.tmp t,.ptr .nil,none);exact gG.aa7 l b
def gG.Mv{N:En}(r:Nat)(h:gG n w0 S0 C G σ a w):∃b,gG n w0 S0 C b (dG.Mv N r σ) a w:=gG.aa7 _ h
def gG.Kw{N:En}(r:Nat)(h:gG n w0 S0 C G σ a w)(c:N.cs.fr=0->¬S0.fr/\¬S0.wz):∃f,gG n w0 S0 C f (Kw N r σ) a w:=by
 unfold dG.Kw;split
 .rename_i b;obtain⟨e,d⟩:=c (by simpa using b);exact gG.T6 e d _ h
 exact⟨G,h⟩
end
def eU.setCell(h:eU w0 S0 C G σ w){id c:Nat}{cs:List SC}{x y:SC}(o:σ.hp id=some (false,cs))(l:cs[c]?=some x)(I:x.scalar=true->y.scalar=true)(q:∀e E T,x≠ .uj e E T)(p:∀v,qO C w G x v->qO C w G y v):eU w0 S0 C G (Ml σ id c cs y) w:=by
 have m:∀i z,(Ml σ id c cs y).hp i=some z->(i=id/\z=(false,cs.set c y))\/(i≠id/\σ.hp i=some z):=by
  intro i z d;simp only[Ml]at d;by_cases r:i=id
  .subst r;rw[dX]at d;injection d with d;exact .inl ⟨rfl,d.symm⟩
  rw[fh _ _ r]at d;exact .inr ⟨r,d⟩
 have f:∀i z,(Ml σ id c cs y).hp i=some z->∃z',σ.hp i=some z':=by
  intro i z d;rcases m i z d with⟨rfl,_⟩|⟨_,h⟩
  .exact⟨_,o⟩
  exact⟨_,h⟩
 refine{below:=h.below,jB:=h.jB,keep:=h.keep,qc:=h.qc,kN:=h.kN,dP:=h.dP,gL:=h.gL,mC:=?_,box:=?_,inj:=?_,own:=h.own,fS:=h.fS,jr:=h.jr,eO:=?_,fresh:=h.fresh,wz:=h.wz}
 .intro i z d;obtain⟨z',N⟩:=f i z d;exact h.mC i z' N
 .intro i W P d;rcases m i _ d with⟨rfl,h2⟩|⟨_,h2⟩
  .simp only[ae]at h2;obtain⟨rfl,rfl⟩:=h2;obtain⟨U,B,S,R⟩:=h.box _ _ _ o
   have J:mapOf cs=none:=by
    unfold mapOf;split
    .rename_i e E T;cases c with
     |zero=>simp at l;exact absurd l.symm (q _ _ _)
     |succ c=>simp at l
    rfl
   obtain⟨H,T,O,A⟩:=S.cells J;have L:c<cs.length:=(aD.1 l).1;refine⟨U,?_,jD.mk (vs:=H) (T:=T) O ⟨by simpa using A.1,?_⟩,by simpa using R⟩
   .rw[bU]at B⊢;intro z d;rcases eY d with d|rfl
    .exact B z d
    exact I (B x (bT l))
   intro i z v d F;rw[bF]at d;split at d
   .rename_i s;subst s;injection d with d;subst d;exact p v (A.2 _ _ _ l F)
   exact A.2 _ _ _ d F
  exact h.box _ _ _ h2
 .intro i j a b M t;obtain⟨V,u⟩:=f i a M;obtain⟨D,k⟩:=f j b t;exact h.inj i j V D u k
 intro g i a b Q K t;obtain⟨D,k⟩:=f i b t;exact h.eO g i a D Q K k
def Gn{N:En}{Φ:Tab}{Pre:Taa}{R:D->Prop}{r p n:Nat}{f:St->VC}{σ:St}{ρ:Nat->D}{g:List (Tah->Prop)}{w0 w:Tan}{S0:gw}{G:Gh}{a:Act}{id c m:Nat}{cs:List SC}{e:E}{k:IntKind}(b:uH N r σ p=some (id,c,cs,e,k,m))(hs:gG n w0 S0 ⟨ρ,p,fun i=>i<p⟩ G σ a w):∀l:Tai,(vP f σ id c cs e k l).holds Φ Pre R ρ g->∃d,(f d).holds Φ Pre R ρ g/\gG n w0 S0 ⟨ρ,p,fun i=>i<p⟩ G d a w:=by
 have F:σ.hp id=some (false,cs)/\cs[c]?=some (.gz e (.int k)):=by
  unfold uH at b;split at b
  .split at b
   .split at b
    .rename_i x;split at b
     .rename_i y;split at b
      .injection b with b;simp only[ae]at b;obtain⟨rfl,rfl,rfl,rfl,rfl,_⟩:=b;exact⟨x,y⟩
      cases b
     cases b
    cases b
   cases b
  cases b
 obtain⟨u,H⟩:=F;intro l
 induction l with
 |nil=>intro h;exact h.elim
 |cons j r ih=>
  intro h;unfold vP at h;obtain⟨J,I⟩:=h;cases hb:(den ρ (.bin .eq e (.aU k j))).Z with
  |false=>exact ih (I hb)
  |true=>
   refine⟨_,J hb,⟨hs.m.setCell u H (fun _=>rfl) (fun _ _ _ h=>by cases h) ?_,hs.t,hs.sz,hs.defers⟩⟩;rintro v ⟨P8,Kt,ag5⟩;obtain⟨z,A,o⟩:=dm.1 ag5
   have q:z=(j:Int):=by have s:den ρ e=.int k z:=A;simp only[den,B.den,s,D.J,D.Z]at hb;simpa using hb
   subst q;refine⟨rfl,?_,dm.2 ⟨(j:Int),rfl,o⟩⟩;rw[A]at Kt;exact Kt
def Ie{N:En}{Φ:Tab}{Pre:Taa}{R:D->Prop}{r p n:Nat}{f:St->VC}{σ:St}{ρ:Nat->D}{k:List (Tah->Prop)}{w0 w:Tan}{S0:gw}{G:Gh}{a:Act}(h:(D3 N r p f σ).holds Φ Pre R ρ k)(hs:gG n w0 S0 ⟨ρ,p,fun i=>i<p⟩ G σ a w):∃g,(f g).holds Φ Pre R ρ k/\gG n w0 S0 ⟨ρ,p,fun i=>i<p⟩ G g a w:=by
 unfold D3 at h;split at h
 .rename_i t e o m b
  have P:σ.tm t=some ([],.one (.gz e (.int o))):=by
   unfold splitAt at b;split at b
   .rename_i M _;generalize Qs M=y at b;split at b
    .rename_i J;split at b
     .injection b with b;simp only[ae]at b;obtain⟨rfl,rfl,rfl,_⟩:=b;exact J
     cases b
    cases b
   cases b
  obtain⟨v,O,V,_,L⟩:=hs.t t _ _ P;simp only[aV,bW,if_true]at L;obtain⟨Q,q,x⟩:=L;obtain⟨z,K,E⟩:=dm.1 x
  have U:∀l:Tai,(zk f σ t e o l).holds Φ Pre R ρ k->∃g,(f g).holds Φ Pre R ρ k/\gG n w0 S0 ⟨ρ,p,fun i=>i<p⟩ G g a w:=by
   intro l
   induction l with
   |nil=>intro h;exact h.elim
   |cons j r ih=>
    intro h;unfold zk at h;obtain⟨T,S⟩:=h;cases hb:(den ρ (.bin .eq e (.aU o j))).Z with
    |false=>exact ih (S hb)
    |true=>
     have F:z=(j:Int):=by have H:den ρ e=.int o z:=K;simp only[den,B.den,H,D.J,D.Z]at hb;simpa using hb
     subst F;refine⟨_,T hb,⟨hs.m.congr (σ':=E2 σ t (.gz (.aU o j) (.int o))) rfl rfl,?_,hs.sz,hs.defers⟩⟩;intro A c s I;have d:fy σ.tm t (some ([],.one (.gz (.aU o j) (.int o)))) A=some (c,s):=I;by_cases u:A=t
     .subst u;rw[dX]at d;injection d with d;simp only[ae]at d;obtain⟨rfl,rfl⟩:=d;refine⟨v,O,by simp,rfl,?_⟩;simp only[aV,bW,if_true];refine⟨rfl,?_,dm.2 ⟨(j:Int),rfl,E⟩⟩;rw[K]at q;exact q
     rw[fh _ _ u]at d;exact hs.t A c s d
  exact U _ h
 split at h
 .rename_i b;exact Gn b hs _ h
 exact⟨σ,h,hs⟩
def KI{N:En}{Φ:Tab}{Pre:Taa}{R:D->Prop}(i3:N.P.follows .mixedOrders=true)(b6:∀k g9,lk N.cs.l k=some g9->bn N.P k g9 (Pre k) (Φ k))(l6:∀k y,lk N.fw k=some y->Ej N.P k y.1 y.2 (fun _=>True) (Φ k))(l3:∀k y,lk N.wl k=some y->H3 N.P k y.1 y.2)(f3:∀k y,lk N.Vf k=some y->Yx N.P k y.1 y.2 (Pre k) (Φ k)):
  ∀(c:Code) (ro:Tal) (k:Ex->St->Nat->Nat->VC) (σ:St) (p d:Nat) (ρ:Nat->D) (v:List (Tah->Prop)) (Q:O3) (w0:Tan) (S0:gw),Ww N Φ Pre w0 S0->KF ro c Q->
  (vc N c k σ p d).holds Φ Pre R ρ v->v.length=d->(∀i b,S0.qc i=some b->i<p)->
  (∀L S1,ph N Φ Pre c w0 S0 L S1->∀ex z p' d' f q a w G,(∀i b,S1.qc i=some b->i<p')->p<=p'->(∀i,i<p->f i=ρ i)->q.length=d'->(∃l,q=l++v)->(k ex z p' d').holds Φ Pre R f q->gG N.n L S1 ⟨f,p',fun i=>i<p'⟩ G z a w->Q ex.to a w)->
  ∀a w G,gG N.n w0 S0 ⟨ρ,p,fun i=>i<p⟩ G σ a w->WP ro N.P c Q a w:=by
 intro c
 induction c with
 |skip=>intro ro k σ p d ρ v Q w0 S0 W A h hd g M a w G hs;exact WP.skip (M _ _ (ph.refl W) .normal _ _ _ _ _ a w G g (aM _) (fun _ _=>rfl) hd ⟨[],rfl⟩ h hs)
 |label l=>intro ro k σ p d ρ v Q w0 S0 W A h hd g M a w G hs;exact WP.label (M _ _ (ph.refl W) .normal _ _ _ _ _ a w G g (aM _) (fun _ _=>rfl) hd ⟨[],rfl⟩ h hs)
 |exit i=>intro ro k σ p d ρ v Q w0 S0 W A h hd g M a w G hs;exact WP.exit (M _ _ (ph.refl W) (.exit i) _ _ _ _ _ a w G g (aM _) (fun _ _=>rfl) hd ⟨[],rfl⟩ h hs)
 |ret=>intro ro k σ p d ρ v Q w0 S0 W A h hd g M a w G hs;exact WP.ret (M _ _ (ph.refl W) .ret _ _ _ _ _ a w G g (aM _) (fun _ _=>rfl) hd ⟨[],rfl⟩ h hs)
 |region id ops draw=>
  intro ro k σ p d ρ v Q w0 S0 W A h hd g M a w G hs;have k1:=W.fl;have c5:=W.cf;have l1:=W.wz
  replace M:∀ex z p' d' f q a w G,p<=p'->(∀i,i<p->f i=ρ i)->q.length=d'->(∃l,q=l++v)->(k ex z p' d').holds Φ Pre R f q->gG N.n w0 S0 ⟨f,p',fun i=>i<p'⟩ G z a w->Q ex.to a w:=
   fun ex z p' d' f q a w G hp=>M w0 S0 (ph.refl W) ex z p' d' f q a w G (fun i b H=>ar (g i b H) hp) hp
  simp only[vc]at h;obtain⟨G,hs⟩:=hs.Kw (N:=N) id (fun hz=>⟨fun hf=>by have:=W.cf.1 hf;omega,fun hf=>by have:=W.cf.2 hf;omega⟩);obtain⟨G,hs⟩:=hs.Mv (N:=N) id;generalize Mv N id (Kw N id σ)=σ at h hs;obtain⟨b3,h2,B⟩:=Ie h hs;clear h hs;clear σ;revert h2 B;revert b3;intro σ h hs;unfold Tf at h;split at h
  .rename_i c hx;obtain⟨rfl,i9⟩:=Ia hx;simp only[if_true]at i9;obtain⟨O,r1,j3,U,a8,J,c1,Z⟩:=jG (MM:=fun i=>i<p) c 0 [] σ ρ h (by omega);rw[dL]at U;split at Z
   .rename_i t e a6;rw[eu]at a6;obtain⟨o,ho,a6⟩:=a6;split at Z
    .rename_i a5;simp only[T7]at a5
     have b0:∀(i:Nat) (o:Tbd) (dd:Nat),ops[i]?=some o->o.dst=some dd->dd<N.n:=fun i o dd ho e0=>by have:=bU.1 a5 o (by simpa using Array.mem_of_getElem? ho);rw[e0]at this;simpa using this
     have d6:∀y∈r1,y.1<c:=fun y S=>by
      have:y.1∈List.range' 0 c:=by rw[<-J];exact bf.2 ⟨y,S,rfl⟩
      rw[List.mem_range'_1]at this;omega
     have c0:dO ⟨ρ,p,fun i=>i<p⟩ w G ⟨O,p+c,fun i=>i<p⟩ w G:=
      ⟨fun e he=>⟨dN U he,E.mO (cG _ _) he⟩,fun _ h=>h,fun _ _ h=>h,fun _ _ _=>rfl,fun _ _=>rfl,fun _ _=>rfl⟩
     have d8:oz N.P N.cs ops p N.n S0 ⟨O,p+c,fun i=>i<p⟩ Φ Pre r1:=
      ⟨b6,c1,fun y S=>by have:=d6 y S;show p+y.1<p+c;omega,b0,c5⟩
     refine WP.region A ?_
     have a7:List.range ops.size=r1.map (·.1)++List.range' c (ops.size-c):=by rw[J,List.range_eq_range'];have h2:=List.range'_append_1 (s:=0) (m:=c) (n:=ops.size-c);rw[aq]at h2;rw[h2];congr 1;omega
     rw[a7]
     refine ko _ a8 d8 (hs.hY c0) (by rw[J];exact List.nodup_range') (fun y S h=>by have h':p+y.1<p:=h;omega) ?_
     intro a1 L G1 M1 g6 c4
     have d4:=c4.hY (dO.Jy ⟨O,p+c,M1⟩ L G1 (M':=fun i=>i<p+c) (fun i H=>by
      rcases g6 i H with h|⟨y,S,rfl⟩
      .have h':i<p:=h;show i<p+c;omega
      have:=d6 y S;show p+y.1<p+c;omega))
     have i0:List.range' c (ops.size-c)=[c]:=by rw[show ops.size-c=1 by omega];rfl
     rw[i0];obtain⟨g1,g2⟩:=Z
     have i8:(den O (.bin .eq (.un .len e) (.aU .i64 0))).Z=decide ((den O e).V.length=0):=by show((((den O e).V.length:Nat):Int)==0)=_;rw[cT];simp
     refine Rl ho a6 d4 Q [] (fun f9 b a2 B=>?_) (fun f9 a2 B=>?_)
     .have h3:=g1 (by rw[i8];exact decide_eq_true f9) (.bool b) (dg.2 ⟨_,rfl⟩);have e1:p+c+1=p+ops.size:=by omega
      rw[e1]at B;exact M .normal _ (p+ops.size) d _ v a2 L G1 (cG _ _) (fun i H=>(fh _ _ (by omega)).trans (U i H)) hd ⟨[],rfl⟩ h3 B
     have h3:=g2 (by rw[i8];exact decide_eq_false f9) (.bool false) (dg.2 ⟨_,rfl⟩);have e1:p+c+1=p+ops.size:=by omega
     rw[e1]at B;exact M .normal _ (p+ops.size) d _ v a2 L G1 (cG _ _) (fun i H=>(fh _ _ (by omega)).trans (U i H)) hd ⟨[],rfl⟩ h3 B
    exact Z.elim
   exact Z.elim
  .rename_i c hx;exact h.elim
  split at h
  .rename_i l4;exact h.elim
  split at h
  .rename_i c hx;exact h.elim
  split at h
  .rename_i c hx;obtain⟨rfl,f2,i9⟩:=Ph hx;have j7:¬S0.fr:=fun g5=>by have:=c5.1 g5;rw[f2]at this;cases this
   have j6:¬S0.wz:=fun g5=>by have:=c5.2 g5;rw[f2]at this;cases this
   obtain⟨O,r1,j3,U,a8,J,c1,Z⟩:=jG (MM:=fun i=>i<p) c 0 [] σ ρ h (by omega);rw[dL]at U;split at Z
   .rename_i x a6;rw[eu]at a6;obtain⟨o,ho,a6⟩:=a6;split at Z
    .rename_i hc;simp only[aP]at hc;obtain⟨l0,a5⟩:=hc;obtain⟨h7,h2⟩:=Z;have f6:Pre x.k [den O x.e]:=h7 rfl;have k8:=h2 _ rfl;obtain⟨X,r2,b3,f4,e5,b9,g0,k2⟩:=jG (MM:=fun i=>i<p+c+1) (ops.size-(c+1)) (c+1) [] _ _ k8 (by omega)
     have b0:∀(i:Nat) (o:Tbd) (dd:Nat),ops[i]?=some o->o.dst=some dd->dd<N.n:=fun i o dd ho e0=>by have:=bU.1 a5 o (by simpa using Array.mem_of_getElem? ho);rw[e0]at this;simpa using this
     have d6:∀y∈r1,y.1<c:=fun y S=>by
      have:y.1∈List.range' 0 c:=by rw[<-J];exact bf.2 ⟨y,S,rfl⟩
      rw[List.mem_range'_1]at this;omega
     have f5:∀y∈r2,c+1<=y.1/\y.1<ops.size:=fun y S=>by
      have:y.1∈List.range' (c+1) (ops.size-(c+1)):=by rw[<-b9];exact bf.2 ⟨y,S,rfl⟩
      rw[List.mem_range'_1]at this;omega
     have c0:dO ⟨ρ,p,fun i=>i<p⟩ w G ⟨O,p+c,fun i=>i<p⟩ w G:=
      ⟨fun e he=>⟨dN U he,E.mO (cG _ _) he⟩,fun _ h=>h,fun _ _ h=>h,fun _ _ _=>rfl,fun _ _=>rfl,fun _ _=>rfl⟩
     have d8:oz N.P N.cs ops p N.n S0 ⟨O,p+c,fun i=>i<p⟩ Φ Pre r1:=
      ⟨b6,c1,fun y S=>by have:=d6 y S;show p+y.1<p+c;omega,b0,c5⟩
     refine WP.region A ?_
     have a7:List.range ops.size=r1.map (·.1)++(c::(r2.map (·.1)++[])):=by rw[J,b9,aX,List.range_eq_range'];have h1:c::List.range' (c+1) (ops.size-(c+1))=List.range' c (ops.size-(c+1)+1):=List.range'_succ.symm;have h2:=List.range'_append_1 (s:=0) (m:=c) (n:=ops.size-(c+1)+1);rw[aq]at h2;rw[h1,h2];congr 1;omega
     rw[a7]
     refine ko _ a8 d8 (hs.hY c0) (by rw[J];exact List.nodup_range') (fun y S h=>by have h':p+y.1<p:=h;omega) ?_
     intro a1 L G1 M1 g6 c4
     have d4:=c4.hY (dO.Jy ⟨O,p+c,M1⟩ L G1 (M':=fun i=>i<p+c) (fun i H=>by
      rcases g6 i H with h|⟨y,S,rfl⟩
      .have h':i<p:=h;show i<p+c;omega
      have:=d6 y S;show p+y.1<p+c;omega))
     have d1:=QQ (ops:=ops) a6 b6 d4 f6 k1 j7 j6 (wpOps N.P ops Q (r2.map (·.1)++[])) Q (fun a2 w2 G2 B=>by
      have f8:dO ⟨fy O (p+c) (Φ x.k [den O x.e]),p+c+1,fun i=>i<p+c+1⟩ w2 G2 ⟨X,p+ops.size,fun i=>i<p+c+1⟩ w2 G2:=
       ⟨fun e he=>⟨dN (fun i H=>f4 i (by show i<p+(c+1);have:i<p+c+1:=H;omega)) he,E.mO (by show p+c+1<=p+ops.size;omega) he⟩,fun _ h=>h,fun _ _ h=>h,fun _ _ _=>rfl,fun _ _=>rfl,fun _ _=>rfl⟩
      have i1:oz N.P N.cs ops p N.n S0 ⟨X,p+ops.size,fun i=>i<p+c+1⟩ Φ Pre r2:=
       ⟨b6,g0,fun y S=>by have:=f5 y S;show p+y.1<p+ops.size;omega,b0,c5⟩
      refine ko _ e5 i1 (B.hY f8) (by rw[b9];exact List.nodup_range') (fun y S h=>by have h':p+y.1<p+c+1:=h;have:=f5 y S;omega) ?_
      intro a3 w3 G3 M3 k5 j4
      have h0:=j4.hY (dO.Jy ⟨X,p+ops.size,M3⟩ w3 G3 (M':=fun i=>i<p+ops.size) (fun i H=>by
       rcases k5 i H with h|⟨y,S,rfl⟩
       .have h':i<p+c+1:=h;show i<p+ops.size;omega
       have:=f5 y S;show p+y.1<p+ops.size;omega))
      show Q .normal a3 w3;refine M .normal b3 (p+ops.size) d X v a3 w3 G3 (cG _ _) (fun i H=>?_) hd ⟨[],rfl⟩ k2 h0;rw[f4 i (by omega),fh _ _ (by omega),U i H])
     simp only[wpOps,ho];rw[d1.1,if_pos rfl];exact .inl d1.2
    exact Z.elim
   exact Z.elim
  rw[List.range_eq_range']at h;obtain⟨f,r,z,j0,d5,f7,f3,hf⟩:=jG (MM:=fun i=>i<p) ops.size 0 [] σ ρ h (by omega);have j1:∀i,i<p->f i=ρ i:=j0;have a4:r.map (·.1)=List.range ops.size:=by rw[List.range_eq_range'];exact f7
  rw[eL]at hf;split at hf
  .rename_i hc
   .simp only[aP]at hc;obtain⟨b1,a5⟩:=hc;have j9:=hf
    have c3:∀x∈r,x.1<ops.size:=by
     intro x hx;have:x.1∈List.range ops.size:=by rw[<-a4];exact bf.2 ⟨x,hx,rfl⟩
     simpa using this
    have i5:dO ⟨ρ,p,fun i=>i<p⟩ w G ⟨f,p+ops.size,fun i=>i<p⟩ w G:=
     ⟨fun e he=>⟨dN j1 he,E.mO (cG _ _) he⟩,fun _ h=>h,fun _ _ h=>h,fun _ _ _=>rfl,fun _ _=>rfl,fun _ _=>rfl⟩
    have c4:=hs.hY i5
    have d9:oz N.P N.cs ops p N.n S0 ⟨f,p+ops.size,fun i=>i<p⟩ Φ Pre r:=
     ⟨b6,f3,
      fun x hx=>by have:=c3 x hx;show p+x.1<p+ops.size;omega,
      fun i o d ho e0=>by have:=bU.1 a5 o (by simpa using Array.mem_of_getElem? ho);simpa [e0]using this,c5⟩
    have hM:∀x∈r,¬(fun i=>i<p) (p+x.1):=fun x _ h=>by have h':p+x.1<p:=h;omega
    have i2:(r.map (·.1)).Nodup:=by rw[a4];exact List.nodup_range
    have j2:∀a' w' G' M',(∀i,M' i->i<p\/∃x∈r,i=p+x.1)->gG N.n w0 S0 ⟨f,p+ops.size,M'⟩ G' z a' w'->Q .normal a' w':=by
     intro a' w' G' M' k6 V
     have B:=V.hY (dO.Jy ⟨f,p+ops.size,M'⟩ w' G' (M':=fun i=>i<p+ops.size) (fun i H=>by
      rcases k6 i H with h|⟨x,hx,rfl⟩
      .show i<_;omega
      have:=c3 x hx;show p+x.1<_;omega))
     exact M .normal z (p+ops.size) d f v a' w' G' (cG _ _) j1 hd ⟨[],rfl⟩ j9 B
    cases draw with
    |false=>
     refine WP.region A ?_;rw[<-a4];exact Bc d5 d9 c4 i2 hM j2
    |true=>
     simp only[Bool.not_true,Bool.false_or,aP]at b1;refine WP.Il A i3 ?_;have l5:r.length=ops.size:=by have:=congrArg List.length a4;simpa using this
     refine H6 ops.size d5 d9 c4.drew i2 hM b1.1 (by simp) ?_ (by omega) ?_ c3 ?_ ?_ j2
     .intro j o ho hj;have k0:j<ops.size:=(aI.1 ho).1;simp[k0]at hj
     .intro i H;rw[a4];simp[H]
     .intro j8;exact Bx b1.2 (by simp) (r:=r.map (·.1)) (fun i H=>by rw[a4];simp[H]) (by simpa using j8) (fun x hx=>by obtain⟨y,S,rfl⟩:=bf.1 hx;exact c3 y S)
     intro l r' h1 _ h3 h4 h5;exact Bx b1.2 h1 h3 (by simpa using h4) (fun x hx=>by obtain⟨y,S,rfl⟩:=bf.1 hx;exact h5 y S)
  exact hf.elim
 |seq x y ihx ihy=>
  intro ro k σ p d ρ v Q w0 S0 W A h hd g M a w G hs;have b8:fX (.seq x y)=true->fX x=true:=fun h=>by simp only[fX,aP]at h;exact h.1
  have d7:fX (.seq x y)=true->fX y=true:=fun h=>by simp only[fX,aP]at h;exact h.2
  refine WP.seq (ihx ro _ σ p d ρ v (Exit.then (WP ro N.P y Q) Q) w0 S0 W (A.sub b8 (fun _ _ h=>h)) h hd g ?_ a w G hs);intro L S1 hg ex z p' d' f q a' w' G' F hp b5 hl ⟨l,T⟩ Y V;cases ex with
  |normal=>
   refine ihy ro k z p' d' f q Q L S1 hg.env (A.sub d7 (fun _ _ h=>h)) Y hl F ?_ a' w' G' V;intro w2 S2 e8 k9 b3 p2 d2 X b4 a2 e4 G2 a9 j5 c9 e7 ⟨l2,Cs⟩ I7 B;exact M w2 S2 (hg.seq b8 d7 e8) k9 b3 p2 d2 X b4 a2 e4 G2 a9 (by omega) (fun i H=>(c9 i (by omega)).trans (b5 i H)) e7 ⟨l2++l,by rw[Cs,T,cX]⟩ I7 B
  |exit i=>exact M L S1 (hg.sub b8) (.exit i) z p' d' f q a' w' G' F hp b5 hl ⟨l,T⟩ Y V
  |ret=>exact M L S1 (hg.sub b8) .ret z p' d' f q a' w' G' F hp b5 hl ⟨l,T⟩ Y V
 |cond c x y ihx ihy=>
  intro ro k σ p d ρ v Q w0 S0 W A h hd g M a w G hs;have b8:fX (.cond c x y)=true->fX x=true:=fun h=>by simp only[fX,aP]at h;exact h.1
  have d7:fX (.cond c x y)=true->fX y=true:=fun h=>by simp only[fX,aP]at h;exact h.2
  have c2:∀e,Oa σ N.P c=some e->∃b,a.eval c=.bool b/\den ρ e=.bool b:=by
   intro e he;unfold Oa at he;split at he
   .rename_i e' k3;injection he with he;subst he;obtain⟨_,h2,h3⟩:=dR hs.t (pc:=[]) rfl k3;obtain⟨b,hb⟩:=dg.1 h3;exact⟨b,(hb▸h2).gV,hb⟩
   cases he
  have g8:=fun h=>ihx ro k σ p d ρ v Q w0 S0 W (A.sub b8 (fun _ _ h=>h)) h hd g (fun L S1 hg=>M L S1 (hg.sub b8)) a w G hs;have g7:=fun h=>ihy ro k σ p d ρ v Q w0 S0 W (A.sub d7 (fun _ _ h=>h)) h hd g (fun L S1 hg=>M L S1 (hg.sub d7)) a w G hs;simp only[vc]at h;split at h
  .rename_i e3;obtain⟨b,b7,a0⟩:=c2 _ e3;simp only[den,D.bool.injEq]at a0;subst a0;exact WP.cond b7 (g8 h)
  .rename_i e3;obtain⟨b,b7,a0⟩:=c2 _ e3;simp only[den,D.bool.injEq]at a0;subst a0;exact WP.cond b7 (g7 h)
  .rename_i e _ _ e3;obtain⟨b,b7,a0⟩:=c2 _ e3;split at h
   .rename_i g3;have:=F4 (ρ:=ρ) g3;rw[a0]at this;simp only[D.Z]at this;subst this;exact WP.cond b7 (g8 h)
   .rename_i g3;have:=F4 (ρ:=ρ) g3;rw[a0]at this;simp only[D.Z]at this;subst this;exact WP.cond b7 (g7 h)
   split at h
   .obtain⟨h1,h2⟩:=h;cases b with
    |true=>exact WP.cond b7 (g8 (h1 (by rw[a0];rfl)))
    |false=>exact WP.cond b7 (g7 (h2 (by rw[a0];rfl)))
   exact h.elim
  exact h.elim
 |block i c ih=>
  intro ro k σ p d ρ v Q w0 S0 W A h hd g M a w G hs;refine WP.block (ih ro _ σ p d ρ v (Exit.inBlock i Q) w0 S0 W (A.sub (fun h=>h) (fun _ _ h=>h)) h hd g ?_ a w G hs);intro L S1 hg ex z p' d' f q a' w' G' F hp b5 hl T Y V;have f0:ph N Φ Pre (.block i c) w0 S0 L S1:=ph.sub (x:=c) (fun h=>h) hg;cases ex with
  |normal=>exact M L S1 f0 .normal z p' d' f q a' w' G' F hp b5 hl T Y V
  |ret=>exact M L S1 f0 .ret z p' d' f q a' w' G' F hp b5 hl T Y V
  |exit j=>
   simp only at Y;show(if j=i then Q .normal a' w' else Q (.exit j) a' w');by_cases hj:j=i
   .rw[if_pos hj]at Y⊢;exact M L S1 f0 .normal z p' d' f q a' w' G' F hp b5 hl T Y V
   rw[if_neg hj]at Y⊢;exact M L S1 f0 (.exit j) z p' d' f q a' w' G' F hp b5 hl T Y V
 |loop c ih=>
  intro ro k σ p d ρ v Q w0 S0 W A h hd g M a w G hs;simp only[vc]at h;split at h
  .exact h.elim
  rename_i h9
  have h8:N.Vf=[] \/fX c=true:=by
   simp only[aP,cI,not_and,Bool.not_eq_false]at h9;cases hq:N.Vf with
   |nil=>exact .inl rfl
   |cons x r=>exact .inr (h9 (by rw[hq];rfl))
  split at h
  .rename_i es i7;obtain⟨I,m,k7,e6⟩:=h;have d9:=Lg N.n (((iO c).bind (lk N.BV)).getD {}) ((((iO c).bind (lk N.BV)).getD {}).own.map (·.1)++assigned c) σ p;generalize hh:uB N.n (((iO c).bind (lk N.BV)).getD {}) ((((iO c).bind (lk N.BV)).getD {}).own.map (·.1)++assigned c) σ p=K at*;have d0:K.v0=p:=by rw[<-hh];rfl
   have f1:∀{c7:List E} {f:Nat->D},c7.length=K.size->(∀(j:Nat) x e,K.iz[j]?=some x->c7[j]?=some e->Has (lF x.2.1 x.2.2) (den f e))->dr (.Y (K.iz.map fun x=>lF x.2.1 x.2.2)) (c7.map (den f)):=by intro c7 f h1 h2;refine jd (by simp[h1,Head.size]) fun j u x hj hx=>?_;simp only[ab,cQ]at hj hx;obtain⟨y,S,rfl⟩:=hj;obtain⟨e,he,rfl⟩:=hx;exact h2 j y e S he
   obtain⟨q1,q2,G1,q3⟩:=F5 hs d9 i7 (ρ0:=ρ) (fun _ _=>rfl) (fun i b H=>by rw[d0];exact g i b H);rw[d0]at q3
   refine WP.loop (fun kk a' w'=>∃L S1 xs G',ph N Φ Pre (.loop c) w0 S0 L S1/\(∀i b,S1.qc i=some b->i<p)/\dr (.Y (K.iz.map fun x=>lF x.2.1 x.2.2)) xs/\I xs/\m xs=kk/\gG N.n L S1 ⟨fJ ρ p xs,p+K.size,fun i=>i<p+K.size⟩ G' K.st a' w') _
    ⟨w0,S0,es.map (den ρ),G1,ph.refl W,g,f1 q1 q2,k7,rfl,q3⟩ ?_
   rintro kk a' w' ⟨L,S1,xs,G',Zb,TX,Vj,hI,rfl,V⟩;refine ih ro _ K.st (p+K.size) (d+1) (fJ ρ p xs) _ (Exit.then (fun a' w'=>∃n',n'<m xs/\∃L S1 xs G',ph N Φ Pre (.loop c) w0 S0 L S1/\(∀i b,S1.qc i=some b->i<p)/\dr (.Y (K.iz.map fun x=>lF x.2.1 x.2.2)) xs/\I xs/\m xs=n'/\gG N.n L S1 ⟨fJ ρ p xs,p+K.size,fun i=>i<p+K.size⟩ G' K.st a' w') Q) L S1 Zb.env (A.sub (fun h=>h) (fun _ _ h=>h)) (e6 xs Vj hI) (by simp[hd]) (fun i b H=>ar (TX i b H) (cG _ _)) ?_ a' w' G' V;intro w2 S2 e8 ex b3 p2 d2 X b4 a2 e4 G2 a9 j5 c9 e7 ⟨l2,Cs⟩ I7 B;have b2:∀i,i<p->X i=ρ i:=fun i H=>(c9 i (by omega)).trans (JF H);have e2:ph N Φ Pre (.loop c) w0 S0 w2 S2:=Zb.seq (x:=.loop c) (y:=c) (fun h=>h) (fun h=>h) e8;cases ex with
   |normal=>
    simp only at I7;split at I7
    .rename_i c7 g4
     have i4:l2.length=d2-1-d:=by have:=congrArg List.length Cs;simp only[ah,bu]at this;omega
     have i6:b4[d2-1-d]?=some (fun ys=>I ys/\m ys<m xs):=by rw[Cs,<-i4,ay (aM _),Nat.sub_self];rfl
     simp only[VC.holds,i6]at I7;obtain⟨l7,h6⟩:=B.Fp K.iz;have d3:∀i b,S2.qc i=some b->i<p:=by rw[(e8.same h8).2];exact TX
     obtain⟨r1,r2,G3,r3⟩:=F5 h6 d9 g4 (ρ0:=ρ) (fun i H=>by rw[d0]at H;exact(b2 i H).symm) (fun i b H=>by rw[d0];exact d3 i b H);rw[d0]at r3;exact⟨_,I7.2,w2,S2,c7.map (den X),G3,e2,d3,f1 r1 r2,I7.1,rfl,r3⟩
    exact I7.elim
   |exit i=>exact M w2 S2 e2 (.exit i) b3 p2 d2 X b4 a2 e4 G2 a9 (by omega) b2 e7 ⟨l2++[fun ys=>I ys/\m ys<m xs],by rw[Cs];simp⟩ I7 B
   |ret=>exact M w2 S2 e2 .ret b3 p2 d2 X b4 a2 e4 G2 a9 (by omega) b2 e7 ⟨l2++[fun ys=>I ys/\m ys<m xs],by rw[Cs];simp⟩ I7 B
  exact h.elim
 |_=>intro ro k σ p d ρ v Q w0 S0 W A h;exact h.elim
def Fw{N:En}{Φ:Tab}{Pre:Taa}{R:D->Prop}(t:N.P.follows .mixedOrders=true)(u:∀k j,lk N.cs.l k=some j->bn N.P k j (Pre k) (Φ k))(J:∀k j M,lk N.cs.l k=some j->j.ob=some M->M.wU=true->∀b o,S0.jx b o->¬jg w0 S0 b)(K:Hf N.P N.cs S0 Φ Pre)(I:∀k y,lk N.fw k=some y->Ej N.P k y.1 y.2 (fun _=>True) (Φ k))(A:∀k y,lk N.wl k=some y->H3 N.P k y.1 y.2)(z:N.cs.fr=2->(∀b o,¬S0.jx b o)/\S0.wz)(F:N.Vf=[]):
  ∀(c:Code) (k:Ex->St->Nat->Nat->VC) (σ:St) (p d:Nat) (ρ:Nat->D) (g:List (Tah->Prop)) (Q:O3),(vc N c k σ p d).holds Φ Pre R ρ g->g.length=d->(∀i b,S0.qc i=some b->i<p)->
  (∀ex m q v f e a w G,p<=q->(∀i,i<p->f i=ρ i)->e.length=v->(∃l,e=l++g)->(k ex m q v).holds Φ Pre R f e->gG N.n w0 S0 ⟨f,q,fun i=>i<q⟩ G m a w->Q ex.to a w)->
  ∀a w G,gG N.n w0 S0 ⟨ρ,p,fun i=>i<p⟩ G σ a w->c.wp N.P Q a w:=by intro c k σ p d ρ g Q h W s U a w G hs;refine KI t u I A (fun k y h=>by rw[F]at h;cases h) c none k σ p d ρ g Q w0 S0 ⟨J,K,z,fun h=>absurd F h⟩ (fun h=>by cases h) h W s ?_ a w G hs;intro Z S1 V ex m q v f e X O Y _ S x T E H r;obtain⟨B,L⟩:=V.same (.inl F);rw[B,L]at r;exact U ex m q v f e X O Y S x T E H r
end
def ta(P:Tba)(σ:St):ResultVar->Tap (Bool×List SC)
 |.tmp t=>match σ.tm t with
  |some ([],.one c)=>if c.scalar then some (false,[c]) else none
  |some ([],.agg l)=>some (true,l)
  |_=>none
 |.cell t T=>match σ.tm t with
  |some ([],.one (.qa id 0))=>match σ.hp id with
   |some (_,cs)=>if(mapOf cs).isSome then none else if iW P T then(if ik P T=some cs.length then some (true,cs) else none)
     else(match cs with| [c]=>if(P.underlying T).isSome then some (false,[c]) else none|_=>none)
   |none=>none
  |_=>none
def vC(σ:St)(r:Bool×List bC)(c:Bool×List SC):Tap (E×kM):=
 if r.1=c.1 then match gg σ r.2 c.2 with
  |some (es,l)=>if r.1 then some (.un .agg (.Y es),l) else match es with| [e]=>some (e,l)|_=>none
  |none=>none
 else none
def ji(P:Tba)(σ:St):List (Bool×List bC)->List ResultVar->Tap (List E×kM)
 |[],[]=>some ([],[])
 |r::rs,x::xs=>match (ta P σ x).bind (vC σ r),ji P σ rs xs with
  |some (e,l),some (es,ls)=>some (e::es,l++ls)
  |_,_=>none
 |_,_=>none
def Jf(P:Tba)(b:dI)(fn:Func)(σ:St):VC:=
 match ji P σ b.res fn.results.toList with
 |some (es,l)=>if po l then(match b.res,es with| [_],[e]=>.ret e|_,es=>.ret (.un .fa (.Y es))) else .stuck 10
 |none=>.stuck 11
def lZ(a:Act):ResultVar->Sem Tao
 |.tmp t=>pure (a.tmps.getD t undef)
 |.cell p t=>do loadVar t (<-asAddr (a.tmps.getD p undef))
def Hn:Tad->Tao
 | [v]=>v
 |vs=>.tuple vs.toArray
def St.start(ps:Tam):St:=⟨fun t=>match ps[t]? with|some ty=>some ([],.one (.gz (.var t) ty))|none=>none,fun _=>none,fun _=>none⟩
section
variable{P:Tba}{C:Cx}{w w0:Tan}{S0:gw}{G:Gh}{σ:St}{a:Act}{n:Nat}
def Ij{L:kM}(B:eU w0 S0 C G σ w)(A:(L.map (·.1)).Nodup){r:Bool×List bC}{c:Bool×List SC}{e:E}{l:kM}{v:Tao}(h:vC σ r c=some (e,l))(b:lC C w G c v)(F:∀x∈l,x∈L):
  fY w 0 G.S (pG G L) r v (den C.ρ e):=by
 unfold vC at h;split at h
 .rename_i f;split at h
  .rename_i J M d;unfold lC at b;unfold fY;cases hr1:r.1 with
   |true=>
    rw[<-f,hr1]at b;simp only[hr1,if_true]at b h⊢;obtain⟨rfl,rfl⟩:=iE h;obtain⟨H,rfl,o⟩:=b;obtain⟨m,t,k⟩:=jH B A d o F;refine⟨H,J.map (den C.ρ),rfl,by simp only[den,fR,U.den,D.V],t,by simp[m],fun i x u y g j z=>?_⟩;simp only[ab,cQ]at z;obtain⟨e,I,rfl⟩:=z;exact k i x u e g j I
   |false=>
    rw[<-f,hr1]at b;simp only[hr1,ai,if_false]at b h⊢;split at h
    .rename_i K;obtain⟨rfl,rfl⟩:=iE h;obtain⟨N,s,q⟩:=b;rw[s]at d
     obtain⟨m,t,k⟩:=jH B A d (vs:=[v]) ⟨rfl,fun i c u p j=>by
      cases i with
      |zero=>simp at p j;subst p;subst j;exact q
      |succ i=>simp at p⟩ F
     obtain⟨x,g⟩:=bP.1 m.symm;exact⟨x,g,k 0 x v K (by rw[g];rfl) rfl rfl⟩
    cases h
  cases h
 cases h
def Gp{x:ResultVar}{c:Bool×List SC}(hs:gG n w0 S0 C G σ a w)(h:ta P σ x=some c):
  ∃v,(lZ a x).run P w=.ok v w/\lC C w G c v:=by
 unfold ta at h;split at h
 .rename_i t;split at h
  .rename_i E g;split at h
   .injection h with h;subst h;obtain⟨v,k,_,_,e⟩:=hs.t t _ _ g;simp only[aV,bW,if_true]at e;refine⟨v,by simp[lZ,k],?_⟩;unfold lC;simp only[ai,if_false];exact⟨_,rfl,e⟩
   cases h
  .rename_i l g;injection h with h;subst h;obtain⟨v,k,_,_,e⟩:=hs.t t _ _ g;simp only[aV,bW,if_true]at e;refine⟨v,by simp[lZ,k],?_⟩;unfold lC;simp only[if_true];exact e
  cases h
 rename_i t T;split at h
 .rename_i id g;obtain⟨v,k,_,_,e⟩:=hs.t t _ _ g;simp only[aV,bW,if_true]at e;obtain⟨_,rfl⟩:=e;split at h
  .rename_i H I s;obtain⟨_,_,i,_⟩:=hs.m.box _ _ _ s;split at h
   .cases h
   rename_i r;obtain⟨o,F,B,p⟩:=i.cells (by simpa using r);have d:∀j,w.cell? ⟨G.β id,j,none⟩=o[j]? :=by intro j;rw[cell_of_row w _ j _ F _ B];simp
   have b:∀{u:Tao},(Instr.loadAt T (.pointer (some ⟨G.β id,0,none⟩))).run P w=.ok u w->(do loadVar T (<-asAddr (a.tmps.getD t undef)):Sem Tao).run P w=.ok u w:=by
    intro u A;have D:a.tmps.getD t undef=.pointer (some ⟨G.β id,0,none⟩):=by simp[k]
    rw[D];simpa [Instr.loadAt,Instr.sureAddr,asAddr]using A
   split at h
   .rename_i y;split at h
    .rename_i q;injection h with h;subst h;refine⟨.agg o.toArray,b (jJ q y p.1 (fun j v z=>by rw[aq,d];exact z)),?_⟩;unfold lC;simp only[if_true];exact⟨o,rfl,p⟩
    cases h
   rename_i y;split at h
   .rename_i E;split at h
    .rename_i f;injection h with h;subst h;obtain⟨u,rfl⟩:∃u,o=[u]:=bP.1 p.1;refine⟨u,b (mT (by simpa using y) f (by rw[d];rfl)),?_⟩;unfold lC;simp only[ai,if_false];exact⟨_,rfl,p.2 0 _ u rfl rfl⟩
    cases h
   cases h
  cases h
 cases h
def qF{L:kM}(hs:gG n w0 S0 C G σ a w)(p:(L.map (·.1)).Nodup):∀{b:List (Bool×List bC)} {xs:List ResultVar} {es:List E} {l:kM},ji P σ b xs=some (es,l)->(∀x∈l,x∈L)->
  ∃d:Tad,(xs.mapM (m:=Sem) (lZ a)).run P w=.ok d w/\d.length=b.length/\es.length=b.length/\xs.length=b.length/\
   ∀(i:Nat) r v e,b[i]?=some r->d[i]?=some v->es[i]?=some e->fY w 0 G.S (pG G L) r v (den C.ρ e)
 |[],[],es,l,h,_=>by simp only[ji,aa,ae]at h;obtain⟨rfl,rfl⟩:=h;exact⟨[],by simp,rfl,rfl,rfl,by intro i r v e f;simp at f⟩
 |[],_::_,_,_,h,_=>by cases h
 |_::_,[],_,_,h,_=>by cases h
 |r::b,x::xs,es,l,h,hL=>by
  simp only[ji]at h;split at h
  .rename_i e K H J o F;obtain⟨rfl,rfl⟩:=iE h;cases hc:ta P σ x with
   |none=>simp[hc]at o
   |some c=>
    simp only[hc,cg]at o;obtain⟨v,D,B⟩:=Gp hs hc;obtain⟨d,A,z,y,u,t⟩:=qF hs p F (fun x g=>hL x (by simp[g]));refine⟨v::d,?_,by simp[z],by simp[y],by simp[u],fun i s q I f j k=>?_⟩
    .rw[List.mapM_cons,bz,D,bZ,bz,A];rfl
    cases i with
    |zero=>simp at f j k;subst f;subst j;subst k;exact Ij hs.m p o B (fun x g=>hL x (by simp[g]))
    |succ i=>exact t i s q I (by simpa using f) (by simpa using j) (by simpa using k)
  cases h
def rZ{fn:Func}{vs:Tad}(h:(fn.results.toList.mapM (m:=Sem) (lZ a)).run P w=.ok vs w):
  (results fn a.tmps).run P w=.ok (Hn vs) w:=by
 have c:results fn a.tmps=(do
   let vs<-fn.results.mapM (lZ a)
   pure (if h:vs.size=1 then vs[0] else .tuple vs)):=by unfold results;rfl
 rw[c]
 have b:(fn.results.mapM (m:=Sem) (lZ a)).run P w=.ok vs.toArray w:=by have d:=Array.mapM_eq_mapM_toList (m:=Sem) (f:=lZ a) (xs:=fn.results);rw[d,Sem.run_map,h];rfl
 rw[bz,b,bZ]
 match vs with
 |[]=>rfl
 | [v]=>rfl
 |_::_::_=>rfl
def mW:∀{rs:List (Bool×List bC)} {xs:List ResultVar} {es:List E} {l:kM},ji P σ rs xs=some (es,l)->cJ rs=l.map (·.1)
 |[],xs,es,l,h=>by
  cases xs<;>simp[ji]at h
  obtain⟨rfl,rfl⟩:=h;rfl
 |_::_,[],_,_,h=>by cases h
 |r::rs,x::xs,es,l,h=>by
  simp only[ji]at h;split at h
  .rename_i b e;injection h with h;simp only[ae]at h;rw[<-h.2,bX,<-mW e];have:cJ (r::rs)=(r.2.filterMap fun x=>x.2.map (·.1))++cJ rs:=by simp[cJ]
   rw[this];congr 1;cases Y9:ta P σ x with
   |none=>simp[Y9]at b
   |some c=>
    simp only[Y9,cg]at b;unfold vC at b;split at b
    .split at b
     .rename_i d;split at b
      .injection b with b;simp only[ae]at b;rw[<-b.2];exact mX d
      split at b
      .injection b with b;simp only[ae]at b;rw[<-b.2];exact mX d
      cases b
     cases b
    cases b
  cases h
def pA:∀{f:List (Bool×List bC)} {xs:List ResultVar} {es:List E} {l:kM},ji P σ f xs=some (es,l)->∀j g,(j,some g)∈l->∃z,σ.live g=some z
 |[],xs,es,l,h,j,g,d=>by cases xs<;>simp[ji]at h;obtain⟨rfl,rfl⟩:=h;simp at d
 |r::f,[],es,l,h,j,g,d=>by cases h
 |r::f,x::xs,es,l,h,j,g,d=>by
  simp only[ji]at h;split at h
  .rename_i b i;injection h with h;simp only[ae]at h;rw[<-h.2]at d;rcases aQ.1 d with d|d
   .cases Y9:ta P σ x with
    |none=>simp[Y9]at b
    |some c=>
     simp only[Y9,cg]at b;unfold vC at b;split at b
     .split at b
      .rename_i e;split at b
       .injection b with b;simp only[ae]at b;rw[<-b.2]at d;exact me e d
       split at b
       .injection b with b;simp only[ae]at b;rw[<-b.2]at d;exact me e d
       cases b
      cases b
     cases b
   exact pA i j g d
  cases h
def Ew{f:Nat}{fn:Func}{c:Code}{p:dI}{Z:Tah->Prop}{B:Tah->D}(cs:mJ)(fw wl:QC)(Φ:Tab)(Pre:Taa)(Y:List (Nat×EW))(v:VC)(hf:P.funcs[f]?=some fn)(K:fn.body=some c)(a0:(fn.name== "runtime.NumGoroutine")=false)(a8:P.follows .mixedOrders=true)(c7:p.params.length<=fn.ntmps)(a7:p.ob=none)(a1:cs.mp=[]/\cs.et=[])(b1:∀k p,lk cs.l k=some p->bn P k p (Pre k) (Φ k))(J:cs.fr=0/\Mp p.res=true\/cs.fr=1)(c1:∀k y,lk fw k=some y->Ej P k y.1 y.2 (fun _=>True) (Φ k))(b5:∀k y,lk wl k=some y->H3 P k y.1 y.2)(hv:vc ⟨P,cs,fn.ntmps,Y,fw,wl,[]⟩ c (fun ex σ _ _=>match ex with| .exit _=>.stuck 20|_=>Jf P p fn σ) (St.start p.params) p.params.length 0=v)(hc:∀ds,dr (.Y p.params) ds->Z ds->v.holds Φ Pre (fun d=>d=B ds) (fun i=>ds.getD i .top) []):bn P f p Z B where
 enter args w:=by
  unfold callFunc;have d1:fn.body.isNone=false:=by rw[K];rfl
  have R:fn.name≠ "runtime.NumGoroutine" :=by simpa using a0
  simp[hf,K,R]
 Ad ob Mu:=by rw[a7]at Mu;cases Mu
 Hq ob Mu:=by rw[a7]at Mu;cases Mu
 calls _ w S vs ds Du hlen Kt Vj agY:=by
  have d0:ds.length=p.params.length:=by rw[gh Vj,Ty.dT]
  refine calls_of_wp hf K ?_;have I:=hc ds Vj agY;rw[<-hv]at I
  refine Fw (w0:=w) (S0:=⟨S,fun _=>False,fun _=>none,cs.fr=1,False,P,[]⟩) (N:=⟨P,cs,fn.ntmps,Y,fw,wl,[]⟩) a8 b1 (fun _ _ _ _ _ _ b o K=>by
   rintro(h|h)
   .exact absurd (Du b o K) (by show¬b<w.heap.size;have:w.heap.size<=b:=h;omega)
   exact h) ⟨fun h=>h,fun h=>h.elim,rfl,fun T kt h=>(by rw[show cs.mp=[] from a1.1]at h;cases h),fun k sg h=>(by rw[show cs.et=[] from a1.2]at h;cases h),fun k sg _ _ h=>(by rw[show cs.et=[] from a1.2]at h;cases h)⟩ c1 b5 (fun h=>by have:cs.fr=2:=h;omega) rfl c _ _ _ 0 _ [] _ I rfl (fun i b h=>(by cases h)) ?_ _ w ⟨S,fun _=>0,fun _=>.nilIface⟩ ?_
  .intro ex b3 p' d' M a3 a' w' G' _ _ _ _ F hs
   have b2:(Jf P p fn b3).holds Φ Pre (fun d=>d=B ds) M a3->a'.defers=[]/\∃v,(results fn a'.tmps).run P w'=.ok v w'/\∃v0 S' τ,Ending.returned v=.returned v0/\Below w.heap.size w w'/\(∀b o,S b o->S' b o)/\(∀b o,S' b o->b<w'.heap.size)/\(∀b o,S' b o->S b o\/w.heap.size<=b)/\
     gZ w' 0 S' τ p.res v0 (B ds)/\(∀j b,j∈cJ p.res->(τ j).ownBlock=some b->w.heap.size<=b)/\(∀j k b,j∈cJ p.res->k∈cJ p.res->(τ j).ownBlock=some b->(τ k).ownBlock=some b->j=k)/\∀j,j∈cJ p.res->Sz j=true->zi (fun b=>w.heap.size<=b) w' S' (τ j):=by
    intro F;refine⟨hs.defers,?_⟩;unfold Jf at F;split at F
    .rename_i es l A;split at F
     .rename_i Q;have W:=Q;unfold po at Q;simp only[aP,bg]at Q;obtain⟨c9,b6⟩:=Q;have H:=pA A;obtain⟨us,h1,h2,h3,h4,h5⟩:=qF (L:=l) hs b6 A (fun x q=>q);refine⟨_,rZ h1,_,G'.S,pG G' l,rfl,hs.m.below.to (fun _ h=>h),hs.m.jB,hs.m.dP,fun b o K=>(hs.m.gL b o K).imp (fun h=>h) (fun h=>h.elim (fun h=>h) (fun h=>h.elim)),?_,?_,?_,?_⟩
      .split at F
       .rename_i r e a6;have hd:den M e=B ds:=F;rw[a6]at h2 h5⊢;obtain⟨u,rfl⟩:∃u,us=[u]:=bP.1 h2;exact .inl ⟨r,rfl,by rw[<-hd];exact h5 0 r u e rfl rfl rfl⟩
       rename_i c5 _ d2 b7;have hd:den M (.un .fa (.Y _))=B ds:=F
       have a9:p.res.length≠1:=by intro h;obtain⟨r,hr⟩:=bP.1 h;obtain⟨e,he⟩:=bP.1 (h3.trans h);exact b7 r e hr he
       have b8:Hn us=.tuple us.toArray:=by
        match us,h2 with
        |[],_=>rfl
        | [u],h2=>exact absurd h2.symm a9
        |_::_::_,_=>rfl
       rw[b8];refine .inr ⟨a9,us,c5.map (den M),rfl,by rw[<-hd];simp only[den,fR,U.den,D.V],h2,by simp[h3],fun i r u y hr hu hy=>?_⟩;simp only[ab,cQ]at hy;obtain⟨e,he,rfl⟩:=hy;exact h5 i r u e hr hu he
      .intro j b hj K;rw[mW A]at hj;obtain⟨g,b9,c0⟩:=vE W hj K;obtain⟨z,hz⟩:=H _ _ b9;exact(hs.m.fS g z b hz c0).elim (fun h=>h) (fun h=>h.elim)
      .intro j k b hj b0 c4 c3;rw[mW A]at hj b0;exact xy hs.m W H hj b0 c4 c3
      intro j hj c2;rcases J with J|J
      .have:=bU.1 J.2 j hj;rw[c2]at this;cases this
      unfold pG;split
      .exact(hs.m.fresh J _).Zg fun b K=>K.elim (fun h=>h) (fun h=>h.elim)
      intro a n d3 hv;exact .inl (by cases hv;rfl)
     exact F.elim
    exact F.elim
   cases ex with
   |normal=>exact b2 F
   |ret=>exact b2 F
   |exit i=>exact F.elim
  refine⟨⟨fZ.refl _ _,fun _ _ h=>h,fun _ _ _=>rfl,fun i b h=>(by cases h),fun i b h=>(by cases h),Du,fun _ _ h=>.inl h,?_,?_,?_,?_,fun g x b q=>(by cases q),?_,?_,fun _ _=>zi.nilIface,fun h=>h.elim⟩,?_,?_,rfl⟩
  .intro id x q;cases q
  .intro id ro cs q;cases q
  .intro i j x y q;cases q
  .intro g e T t q;cases q
  .intro g g' x y b q;cases q
  .intro g id x y b q;cases q
  .intro t c s O;simp only[St.start]at O;split at O
   .rename_i ty V;obtain⟨rfl,rfl⟩:=iE O;have a5:t<p.params.length:=(aD.1 V).1;have a2:ds[t]?=some (ds[t]'(by omega)):=aR _;have a4:vs[t]?=some (vs[t]'(by omega)):=aR _;obtain⟨x,q,b4⟩:=dh Vj t ty (by rw[Ty.dT];exact V);rw[a2]at q;injection q with q;have X:den (fun i=>ds.getD i .top) (.var t)=ds[t]'(by omega):=by show ds.getD t .top=_;exact gf a2
    refine⟨vs[t]'(by omega),?_,by simp,by simpa [SV.lt,SC.lt,E.lt]using a5,?_⟩
    .rw[Array.getElem?_append_left (by simp;omega)];simp[a4]
    simp only[aV,bW,if_true];refine⟨by simpa [E.lt]using a5,?_,?_⟩
    .show bV w S _ (den (fun i=>ds.getD i .top) (.var t));rw[X];exact Kt t _ _ a4 a2
    show Has ty (den (fun i=>ds.getD i .top) (.var t));rw[X,q];exact b4
   cases O
  simp;omega
end
def ml:Nat->List bC->List SC
 |_,[]=>[]
 |k,c::r=>nJ true 0 (.var k) c::ml (k+1) r
def sX:Nat->List bC->List (Tag×Tap (E×Tbb×Ty))
 |_,[]=>[]
 |k,c::r=>kb 0 (.var k) c++sX (k+1) r
def hR(l:List Bool):Nat:=(l.filter fun b=> !b).length
def pq(c:Nat)(b:List (List bC))(o:Nat):Nat:=c+(b.take o).flatten.length
def Ao(ob:Ob):Tal:=if gW ob.shape<ob.cC.length then some (ob.cC.length-1) else none
def St.nG(b:dI)(ob:Ob):St:=
 ⟨fun i=>match ob.shape[i]? with
   |some false=>(b.params[hR (ob.shape.take i)]?).map fun d=>([],.one (.gz (.var (hR (ob.shape.take i))) d))
   |some true=>some ([],.one (.qa (gW (ob.shape.take i)) 0))
   |none=>none,
  fun o=>(ob.cC[o]?).map fun c=>(false,um (Ao ob) c (ml (pq (hR ob.shape) ob.cC o) c)),
  fj (fun _=>none) (sX (hR ob.shape) ob.cC.flatten)⟩
def aaB(P:Tba)(σ:St)(b:dI)(ob:Ob)(fn:Func):Tap (E×kM×Tai):=
 match ob.new with
 |true=>match fn.results.toList with
  | [.tmp t]=>match σ.tm t with
   |some ([],.one (.qa id 0))=>if ob.cC.length<=id then some (.un .fa .nil,[],[id]) else none
   |_=>none
  |_=>none
 |false=>match ji P σ b.res fn.results.toList with
  |some (es,l)=>some ((match b.res,es with| [_],[e]=>e|_,es=>.un .fa (.Y es)),l,[])
  |none=>none
def vm(σ:St)(ob:Ob)(fr:Tai):Tai:=if ob.mv then List.range (ob.cC.length-1)++(match σ.hp 0,ob.outs with
  |some (_,cs),rc::_=>(HT rc cs).toList
  |_,_=>[]) else List.range ob.cC.length++fr
def V3(ob:Ob)(ids:Tai):Tal:=if ob.mv then ids[ob.cC.length-1]? else Ao ob
def Ab(P:Tba)(b:dI)(ob:Ob)(fn:Func)(σ:St):VC:=
 match aaB P σ b ob fn with
 |some (e,l,fr)=>match tT σ ob.outs (vm σ ob fr) with
  |some (Zd,ls)=>if po (l++ls)&&yS σ ob.outs (vm σ ob fr) (V3 ob (vm σ ob fr))&&(!ob.mv||decide ((vm σ ob fr).Nodup)) then .ret (.un .fa (.cons e (.Y (Zd.map fun c=>.un .agg (.Y c))))) else .stuck 10
  |none=>.stuck 12
 |none=>.stuck 11
def Vc(fn:Func)(b:dI)(ob:Ob):Bool:=
 fn.body.isSome&& !(fn.name== "runtime.NumGoroutine")&&decide (ob.shape.length<=fn.ntmps)&&decide (0<b.params.length)&&decide (ob.cC.length<=b.params.length)&&(ob.cC.all fun c=>c.all aaC)&&
 decide (b.params.length=hR ob.shape+ob.cC.flatten.length)&&decide (gW ob.shape<=ob.cC.length)&&decide (ob.jz.Nodup)&&decide (ob.outs.length=ob.cC.length+ob.new.toNat)&&(!ob.new||b.res.isEmpty)&&(!ob.mv||decide (gW ob.shape<ob.cC.length))
def qE:∀(l:List bC) (k i:Nat),(ml k l)[i]?=(l[i]?).map fun c=>nJ true 0 (.var (k+i)) c
 |[],k,i=>by simp[ml]
 |c::l,k,0=>by simp[ml]
 |c::l,k,i+1=>by simp only[ml,df,qE l (k+1) i];congr 2;funext c;congr 2;omega
def wv:∀(l:List bC) (k:Nat),(ml k l).length=l.length
 |[],_=>rfl
 |_::l,k=>by simp[ml,wv l]
def yj:∀{l:List bC} {k:Nat} {x},x∈sX k l->∃(i:Nat) (c:bC),l[i]?=some c/\x∈kb 0 (.var (k+i)) c
 |[],k,x,h=>by simp[sX]at h
 |c::l,k,x,h=>by
  simp only[sX,aQ]at h;rcases h with h|h
  .exact⟨0,c,rfl,h⟩
  obtain⟨i,e,d,b⟩:=yj h;exact⟨i+1,e,by simpa using d,by rw[show k+(i+1)=k+1+i by omega];exact b⟩
def yv{b:Type}:∀{ls:List (List b)} {i:Nat} {x:b},ls.flatten[i]?=some x->∃(o c:Nat) (l:List b),ls[o]?=some l/\l[c]?=some x/\i=(ls.take o).flatten.length+c
 |[],i,x,h=>by simp at h
 |l::ls,i,x,h=>by
  rw[eG]at h;by_cases e:i<l.length
  .rw[ak e]at h;exact⟨0,i,l,rfl,h,by simp⟩
  rw[ay (by omega)]at h;obtain⟨o,c,d,g,f,j⟩:=yv h;exact⟨o+1,c,d,by simpa using g,f,by simp only[dF,eG,ah];omega⟩
def uO{b:Type}:∀{ls:List (List b)} {o c:Nat} {l:List b} {x:b},ls[o]?=some l->l[c]?=some x->ls.flatten[(ls.take o).flatten.length+c]?=some x
 |[],o,c,l,x,h,_=>by simp at h
 |l'::ls,0,c,l,x,h,h'=>by simp at h;subst h;have d:c<l'.length:=(aD.1 h').1;simp only[fN,List.flatten_nil,fC,aq,eG];rw[ak d];exact h'
 |l'::ls,o+1,c,l,x,h,h'=>by have:=uO (ls:=ls) (o:=o) (c:=c) (by simpa using h) h';simp only[dF,eG,ah];rw[ay (by omega),show l'.length+(ls.take o).flatten.length+c-l'.length=(ls.take o).flatten.length+c by omega];exact this
def wD{b β:Type}:∀{xs:List (List b)} {ys:List (List β)},xs.length=ys.length->(∀(i:Nat) x y,xs[i]?=some x->ys[i]?=some y->x.length=y.length)->∀o,(xs.take o).flatten.length=(ys.take o).flatten.length
 |[],[],_,_,o=>by simp
 |[],_::_,h,_,_=>by simp at h
 |_::_,[],h,_,_=>by simp at h
 |x::xs,y::ys,h,h',0=>by simp
 |x::xs,y::ys,h,h',o+1=>by have:=wD (xs:=xs) (ys:=ys) (by simpa using h) (fun i x y d c=>h' (i+1) x y (by simpa using d) (by simpa using c)) o;simp only[dF,eG,ah,this,h' 0 x y rfl rfl]
def xJ{w:Tan}{S:bG}{β:Nat->Nat}:∀{c:List Bool} {k:Nat} {vs:Tad} {dd:Tah},rC w S β c k vs dd->vs.length=c.length/\dd.length=hR c/\
  ∀(i:Nat) b,c[i]?=some b->∃v,vs[i]?=some v/\(if b then v=.pointer (some ⟨β (k+gW (c.take i)),0,none⟩) else∃d,dd[hR (c.take i)]?=some d/\bV w S v d)
 |[],k,[],[],_=>⟨rfl,rfl,by intro i b h;simp at h⟩
 |true::c,k,v::vs,dd,⟨h1,h2⟩=>by
  obtain⟨l,j,g⟩:=xJ h2;refine⟨by simp[l],by simp[hR,j],fun i b e=>?_⟩;cases i with
  |zero=>simp at e;subst e;exact⟨v,rfl,by simpa [gW]using h1⟩
  |succ i=>
   obtain⟨u,m,f⟩:=g i b (by simpa using e);refine⟨u,by simpa using m,?_⟩;cases b with
   |true=>simp only[if_true]at f⊢;rw[f];simp only[dF,gW,List.filter_cons,if_true,bu];rw[show k+1+(List.filter (fun b=>b) (List.take i c)).length=k+((List.filter (fun b=>b) (List.take i c)).length+1) by omega]
   |false=>simpa [hR]using f
 |false::c,k,v::vs,d::dd,⟨h1,h2⟩=>by
  obtain⟨l,j,g⟩:=xJ h2;refine⟨by simp[l],by simp only[hR,List.filter_cons,Bool.not_false,if_true,bu]at j⊢;omega,fun i b e=>?_⟩;cases i with
  |zero=>simp at e;subst e;exact⟨v,rfl,by simpa [hR]using h1⟩
  |succ i=>
   obtain⟨u,m,f⟩:=g i b (by simpa using e);refine⟨u,by simpa using m,?_⟩;cases b with
   |true=>simpa [gW]using f
   |false=>simpa [hR]using f
 |[],_,_::_,_,h=>by simp[rC]at h
 |[],_,[],_::_,h=>by simp[rC]at h
 |true::_,_,[],_,h=>by simp[rC]at h
 |false::_,_,[],_,h=>by simp[rC]at h
 |false::_,_,_::_,[],h=>by simp[rC]at h
def Da:∀{l:List Bool} {i:Nat},l[i]?=some true->gW (l.take i)<gW l
 |[],i,h=>by simp at h
 |b::l,0,h=>by simp at h;subst h;simp[gW]
 |b::l,i+1,h=>by have:=Da (l:=l) (i:=i) (by simpa using h);unfold gW at this⊢;cases b<;>simp at this⊢<;>omega
section
variable{P:Tba}{C:Cx}{w w0:Tan}{S0:gw}{G:Gh}{σ:St}{a:Act}{n:Nat}
def Mo(cs:List (Nat×dI)):Bool:=cs.all fun x=>match x.2.ob with|some ob=> !ob.wU|none=>true
def Rn{cs:List (Nat×dI)}(h:Mo cs=true){k:Nat}{b:dI}{ob:Ob}(e:lk cs k=some b)(c:b.ob=some ob)(d:ob.wU=true):False:=by have:=bU.1 h _ (iw e);simp only[c,d]at this;cases this
def ym{f:Nat}{fn:Func}{c:Code}{q:dI}{ob:Ob}{f9:Tah->Prop}{ze:Tah->D}(cs:mJ)(Φ:Tab)(Pre:Taa)(f8:List (Nat×EW))(v:VC)(hf:P.funcs[f]?=some fn)(hb:fn.body=some c)(j3:P.follows .mixedOrders=true)(d0:q.ob=some ob)(m5:cs.mp=[])(j2:∀k sg,lk cs.et k=some sg->∃sF t,sg.nn=some (sF,t)/\QB P k sF (Pre k) (Φ k))(hB:Vc fn q ob=true)(m1:Mo cs.l=true)(o9:cs.fr=0)(k7:∀k q,lk cs.l k=some q->bn P k q (Pre k) (Φ k))(hv:vc ⟨P,cs,fn.ntmps,f8,[],[],[]⟩ c (fun ex σ _ _=>match ex with| .exit _=>.stuck 20|_=>Ab P q ob fn σ) (St.nG q ob) q.params.length 0=v)(hc:∀ds,dr (.Y q.params) ds->f9 ds->v.holds Φ Pre (fun d=>d=ze ds) (fun i=>ds.getD i .top) []):bn P f q f9 ze:=by
 unfold Vc at hB;simp only[aP,bg]at hB;obtain⟨⟨⟨⟨⟨⟨⟨⟨⟨⟨⟨_,g7⟩,o6⟩,f2⟩,n9⟩,g1⟩,g3⟩,p0⟩,o0⟩,a4⟩,d5⟩,f3⟩:=hB;have d2:ob.mv=true->gW ob.shape<ob.cC.length:=fun hm=>by rw[hm]at f3;simpa using f3
 refine⟨fun o2 w=>?_,fun J=>(by rw[d0]at J;cases J),fun l2 J _ w S β τ vs dd oo a1 i3 i8=>?_,fun l2 J b2=>absurd b2 (by rw[d0]at J;injection J with J;subst J;intro b2;unfold Ob.wU at b2;simp only[aP,List.isEmpty_iff,beq_iff_eq]at b2;obtain⟨⟨_,H⟩,A⟩:=b2;have h3:=a4;rw[A,H]at h3;cases M:ob.new<;>rw[M]at h3<;>simp at h3)⟩
 .unfold callFunc
  have e8:fn.name≠ "runtime.NumGoroutine" :=by simpa using g7
  simp[hf,hb,e8]
 rw[d0]at J;injection J with J;subst J;obtain⟨o5,o1,k9⟩:=xJ a1.args
 have i9:∀(o:Nat) F cells,ob.cC[o]?=some F->oo[o]?=some cells->F.length=cells.length:=by intro o F cells H A;obtain⟨_,_,_,_,h3,_⟩:=a1.cC o F cells H A;exact h3.symm
 have j1:∀o,(ob.cC.take o).flatten.length=(oo.take o).flatten.length:=wD (by rw[a1.len]) i9;let ds:=dd++oo.flatten
 have i2:∀(o c:Nat) cells d,oo[o]?=some cells->cells[c]?=some d->ds.getD (pq (hR ob.shape) ob.cC o+c) .top=d:=by intro o c cells d H A;refine gf ?_;show(dd++oo.flatten)[_]?=_;rw[ay (by unfold pq;omega)];have:=uO H A;rw[<-j1]at this;rw[<-this];congr 1;unfold pq;omega
 have f7:∀(o c:Nat) F r,ob.cC[o]?=some F->F[c]?=some r->pq (hR ob.shape) ob.cC o+c<q.params.length:=by intro o c F r H A;have:=(aD.1 (uO H A)).1;rw[g3];unfold pq;omega
 let S1:gw:=⟨S,ug ob β τ,fun o=>if o<ob.cC.length then some (β o) else none,False,False,P,[]⟩;let G1:Gh:=⟨S,β,fun g=>τ g.2⟩;let C1:Cx:=⟨fun i=>ds.getD i .top,q.params.length,fun i=>i<q.params.length⟩
 have d8:∀(o:Nat) F,ob.cC[o]?=some F->∃cells O T,oo[o]?=some cells/\w.heap[β o]?=some (.cells (List.toArray O) T (0,0))/\O.length=F.length/\(∀o',¬S (β o) o')/\
   ∀(i:Nat) r u,F[i]?=some r->O[i]?=some u->∃d,C1.ρ (pq (hR ob.shape) ob.cC o+i)=d/\jE w 0 S τ r u d:=by
  intro o F ho;have c2:o<oo.length:=by rw[a1.len];exact(aD.1 ho).1
  obtain⟨O,T,H,A,h3,h4,h5⟩:=a1.cC o F _ ho (aR c2);refine⟨_,O,T,aR c2,H,A,h5,fun i r u hr hu=>?_⟩;have a2:i<oo[o].length:=by rw[h3];exact(aD.1 hr).1
  exact⟨_,i2 o i _ _ (aR c2) (aR a2),h4 i r u _ hr hu (aR a2)⟩
 have Q:∀g x,(St.nG q ob).live g=some x->∃(o c:Nat) (F:List bC) (t:Ty) (j:Nat) (T:Tbb),ob.cC[o]?=some F/\F[c]?=some (t,some (j,T))/\g=(0,j)/\x=(.var (pq (hR ob.shape) ob.cC o+c),T,t):=by
  intro g x Y;have e5:fj (fun _=>none) (sX (hR ob.shape) ob.cC.flatten) g=some x:=Y;unfold fj at e5;split at e5
  .rename_i y hy;subst e5;obtain⟨i,r,hr,hm⟩:=yj (iw hy);obtain⟨o,c,F,H,A,h3⟩:=yv hr;obtain⟨t,_|⟨j,T⟩⟩:=r
   .simp[kb]at hm
   simp only[kb,aG,ae,aa]at hm;obtain⟨rfl,rfl⟩:=hm;exact⟨o,c,F,t,j,T,H,A,rfl,by rw[h3];unfold pq;rw[fu]⟩
  cases e5
 have a5:∀(o c:Nat) F t j T,ob.cC[o]?=some F->F[c]?=some (t,some (j,T))->j∈ob.jz:=by intro o c F t j T H A;unfold Ob.jz;refine cU.2 ⟨F,bT H,?_⟩;unfold Fg;exact bE.2 ⟨_,bT A,rfl⟩
 have g4:∀g e T t,(St.nG q ob).live g=some (e,T,t)->iY C1 w 0 G1 g e T t:=by
  intro g e T t Y;obtain⟨o,c,F,t',j,T',H,A,rfl,he⟩:=Q g _ Y;simp only[ae]at he;obtain⟨rfl,rfl,rfl⟩:=he;obtain⟨cells,O,T0,_,_,h3,_,h4⟩:=d8 o F H;have h8:c<O.length:=by rw[h3];exact(aD.1 A).1
  obtain⟨d,hd,h9⟩:=h4 c _ _ A (aR h8);obtain⟨_,n2⟩:=h9;exact n2.ok (C:=C1) (G:=G1) (g:=(0,j)) f2 (by simpa [E.lt]using f7 o c F _ H A) hd rfl rfl
 have e6:gG fn.ntmps w S1 C1 G1 (St.nG q ob) ⟨vs.toArray++Array.replicate (fn.ntmps-vs.length) undef,[]⟩ w:=by
  refine⟨⟨fZ.refl _ _,fun _ _ h=>h,fun _ _ _=>rfl,?_,?_,a1.lt,fun _ _ h=>.inl h,?_,?_,?_,g4,?_,?_,?_,fun h=>h.elim,fun h=>h.elim⟩,?_,?_,rfl⟩
  .intro i b B;simp only[S1]at B;split at B
   .rename_i o8;injection B with B;exact⟨by show i<q.params.length;omega,B⟩
   cases B
  .exact fun _ _ _=>trivial
  .intro o x Y;simp only[St.nG,cQ]at Y;obtain⟨F,b1,_⟩:=Y;have:=(aD.1 b1).1;show o<q.params.length;omega
  .intro o ro p2 Y;simp only[St.nG,cQ,ae]at Y;obtain⟨F,b1,rfl,rfl⟩:=Y;have c2:=(aD.1 b1).1;obtain⟨cells,O,T,_,H,A,h3,h4⟩:=d8 o F b1;refine⟨.inr ⟨.inl ⟨o,c2,rfl⟩,o,by simp only[S1];rw[if_pos c2]⟩,?_,jD.mk (vs:=O) (T:=T) H ⟨by rw[AY,wv,A],?_⟩,by simpa using h3⟩
   .rw[bU];intro y hy;obtain⟨j,hj⟩:=au hy;obtain⟨c0,hj,b8⟩:=rU hj;rcases b8 with rfl|⟨_,_,_,rfl⟩
    rotate_left
    .rfl
    rw[qE]at hj;simp only[cQ]at hj;obtain⟨r,hr,rfl⟩:=hj;have:=bU.1 (bU.1 g1 F (bT b1)) r (bT hr);obtain⟨t,_|⟨j0,T0⟩⟩:=r
    .exact this
    cases Ko:BN j0<;>simp[nJ,Ko,SC.scalar]
   intro i y u hy hu;obtain⟨c0,hy,b8⟩:=rU hy;rcases b8 with rfl|⟨l3,R,l9,rfl⟩
   rotate_left
   .have b9:gW ob.shape<ob.cC.length:=by
     unfold Ao at R;split at R
     .assumption
     cases R
    have j9:l3=ob.cC.length-1:=by unfold Ao at R;rw[if_pos b9]at R;injection R with R;exact R.symm
    have hl:=a1.link b9 o i F b1 l9;rw[cell_of_row w _ i _ T (0,0) H,da,hu]at hl;injection hl with hl;subst j9;exact⟨by show ob.cC.length-1<q.params.length;omega,hl⟩
   rw[qE]at hy;simp only[cQ]at hy;obtain⟨r,hr,rfl⟩:=hy;obtain⟨d,hd,h9⟩:=h4 i r u hr hu;exact tI (C:=C1) (G:=G1) (e:=.var (pq (hR ob.shape) ob.cC o+i)) h9 f2 (by simpa [E.lt]using f7 o i F r b1 hr) hd (fun _=>rfl) true
  .intro i j x y B hj he;simp only[St.nG,cQ]at B hj;obtain⟨_,B,_⟩:=B;obtain⟨_,hj,_⟩:=hj;exact a1.inj i j (aD.1 B).1 (aD.1 hj).1 he
  .intro g x b Y a6;obtain⟨o,c,F,t,j,T,H,A,rfl,_⟩:=Q g x Y;exact .inr (.inr ⟨j,a5 o c F t j T H A,a6⟩)
  .intro g g' x y b Y hy a6 k0;obtain⟨o,c,F,t,j,T,H,A,rfl,_⟩:=Q g x Y;obtain⟨o',c',o4,t',j',T',n6,n5,rfl,_⟩:=Q g' y hy;rw[a1.own j j' b (a5 _ _ _ _ _ _ H A) (a5 _ _ _ _ _ _ n6 n5) a6 k0]
  .intro g o x y b Y hy a6;obtain⟨o',c,F,t,j,T,H,A,rfl,_⟩:=Q g x Y;simp only[St.nG,cQ]at hy;obtain⟨_,hy,_⟩:=hy;exact a1.eO j o b (a5 _ _ _ _ _ _ H A) (aD.1 hy).1 a6
  .intro t p3 s a3;simp only[St.nG]at a3;split at a3
   .rename_i e7;simp only[cQ,ae]at a3;obtain⟨ty,f1,rfl,rfl⟩:=a3;obtain⟨u,hu,e2⟩:=k9 t false e7;simp only[ai,if_false]at e2;obtain⟨d,hd,i7⟩:=e2;have n0:hR (ob.shape.take t)<dd.length:=(aD.1 hd).1;have k6:ds[hR (ob.shape.take t)]?=some d:=by show(dd++oo.flatten)[_]?=_;rw[ak n0];exact hd
    obtain⟨x,Y,l4⟩:=dh i3 _ ty (by rw[Ty.dT];exact f1)
    have l5:x=d:=by have:ds[hR (ob.shape.take t)]?=some x:=Y;rw[k6]at this;injection this with this;exact this.symm
    subst l5;have f6:den C1.ρ (.var (hR (ob.shape.take t)))=x:=gf k6;have f4:hR (ob.shape.take t)<q.params.length:=(aD.1 f1).1;refine⟨u,?_,by simp,by simpa [SV.lt,SC.lt,E.lt]using f4,?_⟩
    .have g0:t<vs.length:=(aD.1 hu).1;rw[Array.getElem?_append_left (by simpa using g0)];simpa using hu
    simp only[aV,bW,if_true];exact⟨by simpa [E.lt]using f4,by rw[f6];exact i7,by rw[f6];exact l4⟩
   .rename_i e7;injection a3 with a3;simp only[ae]at a3;obtain⟨rfl,rfl⟩:=a3;obtain⟨u,hu,e2⟩:=k9 t true e7;simp only[if_true,aq]at e2;refine⟨u,?_,by simp,rfl,?_⟩
    .have g0:t<vs.length:=(aD.1 hu).1;rw[Array.getElem?_append_left (by simpa using g0)];simpa using hu
    simp only[aV,bW,if_true];refine⟨?_,e2⟩;show gW (ob.shape.take t)<q.params.length;have:=Da e7;omega
   cases a3
  simp;omega
 refine calls_of_wp hf hb ?_;have d7:=hc ds i3 i8;rw[<-hv]at d7;refine Fw (w0:=w) (S0:=S1) (N:=⟨P,cs,fn.ntmps,f8,[],[],[]⟩) j3 k7 (fun k q ob hk d0 b2=>(Rn m1 hk d0 b2).elim) ⟨fun h=>h.elim,fun h=>h.elim,rfl,fun T kt h=>(by rw[show cs.mp=[] from m5]at h;cases h),fun k sg h hn=>(by obtain⟨_,_,A,_⟩:=j2 k sg h;rw[hn]at A;cases A),fun k sg sF t h hn=>(by obtain⟨o3,t2,A,h3⟩:=j2 k sg h;rw[hn]at A;obtain⟨rfl,rfl⟩:=iE A;exact h3)⟩ (fun _ _ h=>by cases h) (fun _ _ h=>by cases h) (fun h=>by have:cs.fr=2:=h;omega) rfl c _ _ _ 0 _ [] _ d7 rfl (fun i b h=>?_) ?_ _ w G1 ?_
 .simp only[S1]at h;split at h
  .omega
  cases h
 .intro ex e4 p' d' a7 i1 a' w' G' _ _ _ _ hk hs
  have l0:(Ab P q ob fn e4).holds Φ Pre (fun d=>d=ze ds) a7 i1->a'.defers=[]/\∃v,(results fn a'.tmps).run P w'=.ok v w'/\∃v0 S' l1 βn,Ending.returned v=.returned v0/\O4 w S q ob β τ v0 (ze ds) w' S' l1 βn:=by
   intro hk;refine⟨hs.defers,?_⟩;unfold Ab at hk;split at hk
   .rename_i e l fr I;split at hk
    .rename_i i0 ls c9;split at hk
     .rename_i b6;simp only[aP]at b6;obtain⟨⟨b6,d3⟩,d1⟩:=b6;obtain⟨ids,a9⟩:∃ids,ids=vm e4 ob fr:=⟨_,rfl⟩;rw[<-a9]at c9 d3 d1;have m3:ob.mv=true->ids.Nodup:=fun hm=>by rw[hm]at d1;simpa using d1
      have c7:=b6;unfold po at b6;simp only[aP,bg]at b6;obtain⟨o7,g5⟩:=b6;obtain⟨q1,q2,q3,q4,q5,q6⟩:=AP c9;have hd:den a7 (.un .fa (.cons e (.Y (i0.map fun es=>.un .agg (.Y es)))))=ze ds:=hk
      have n1:ze ds=.fa (den a7 e::(i0.map fun es=>es.map (den a7)).map .agg):=by rw[<-hd];simp only[den,fR,U.den,D.V,List.map_map];congr 2;apply List.map_congr_left;intro es _;simp only[Function.comp,den,fR,U.den,D.V]
      have X:∀o,o<ob.cC.length->G'.β o=β o:=fun o ho=>(hs.m.qc o (β o) (by simp only[S1];rw[if_pos ho])).2
      have c3:∃v0,(results fn a'.tmps).run P w'=.ok v0 w'/\(∀j g,(j,some g)∈l->∃z,e4.live g=some z)/\(if ob.new then l=[]/\∃id,fr=[id]/\ob.cC.length<=id/\v0=.pointer (some ⟨G'.β id,0,none⟩) else fr=[]/\cJ q.res=l.map (·.1)/\gZ w' 0 G'.S (pG G' (l++ls)) q.res v0 (den a7 e)):=by
       unfold aaB at I;split at I
       .rename_i M;split at I
        .rename_i t l8;split at I
         .rename_i id ht;split at I
          .rename_i W;obtain⟨rfl,rfl,rfl⟩:=LY I;obtain⟨u,H,_,_,A⟩:=hs.t t _ _ ht;simp only[aV,bW,if_true]at A;obtain⟨_,rfl⟩:=A;refine⟨_,?_,by simp,by rw[if_pos M];exact⟨rfl,id,rfl,W,rfl⟩⟩;have:=rZ (P:=P) (w:=w') (a:=a') (fn:=fn) (vs:=[.pointer (some ⟨G'.β id,0,none⟩)]) (by rw[l8,List.mapM_cons,bz,show(lZ a' (.tmp t)).run P w'=.ok (.pointer (some ⟨G'.β id,0,none⟩)) w' from(by simp[lZ,H]),bZ,List.mapM_nil];rfl);exact this
          cases I
         cases I
        cases I
       rename_i M;split at I
       .rename_i es l' c4;obtain⟨rfl,rfl,rfl⟩:=LY I;obtain⟨us,H,A,h3,h4,h5⟩:=qF (L:=l'++ls) hs g5 c4 (fun x Y=>az _ Y);refine⟨_,rZ H,pA c4,?_⟩;rw[M];simp only[ai,if_false];refine⟨trivial,mW c4,?_⟩;split
        .rename_i r e0 g2;rw[g2]at A h5⊢;obtain⟨u,rfl⟩:∃u,us=[u]:=bP.1 A;exact .inl ⟨r,rfl,h5 0 r u e0 rfl rfl rfl⟩
        rename_i n7 _ p1 m2
        have j6:q.res.length≠1:=by intro h;obtain⟨r,hr⟩:=bP.1 h;obtain⟨e,he⟩:=bP.1 (h3.trans h);exact m2 r e hr he
        have m4:Hn us=.tuple us.toArray:=by
         match us,A with
         |[],_=>rfl
         | [u],A=>exact absurd A.symm j6
         |_::_::_,_=>rfl
        rw[m4];refine .inr ⟨j6,us,n7.map (den a7),rfl,by simp only[den,fR,U.den,D.V],A,by simp[h3],fun i r u y hr hu hy=>?_⟩;simp only[ab,cQ]at hy;obtain⟨e,he,rfl⟩:=hy;exact h5 i r u e hr hu he
       cases I
      obtain⟨v0,i5,m7,p⟩:=c3;have b7:∀j g,(j,some g)∈l++ls->∃z,e4.live g=some z:=fun j g hm=>(aQ.1 hm).elim (m7 j g) (q5 j g)
      have k5:fr.length=ob.new.toNat:=by
       cases M:ob.new with
       |true=>rw[M]at p;simp only[if_true]at p;obtain⟨_,id,rfl,_⟩:=p;rfl
       |false=>rw[M]at p;simp only[ai,if_false]at p;rw[p.1];rfl
      let βn:Nat:=if ob.mv then G'.β (ids.getD (ob.cC.length-1) 0) else G'.β (fr.headD 0)
      have d4:ob.mv=true->∀i,i<ob.cC.length-1->ids[i]?=some i:=by intro hm i B;rw[a9];unfold vm;rw[if_pos hm,ak (by simpa using B),cN B]
      have f0:∀(i:Nat) id,ids[i]?=some id->jU ob β βn i=G'.β id:=by
       intro i id B;cases K:ob.mv with
       |true=>
        have j4:=d2 K;have g6:=Ob.DS K
        have f5:i<ob.cC.length:=by have H:=(aD.1 B).1;rw[q2,a4,g6]at H;exact H
        by_cases j5:i<ob.cC.length-1
        .have A:=d4 K i j5;rw[B]at A;injection A with A;subst A;unfold jU;rw[if_pos ⟨f5,fun h=>by omega⟩,X id f5]
        have j8:i=ob.cC.length-1:=by omega
        unfold jU;rw[if_neg (fun h=>h.2 ⟨K,j8⟩)];show(if ob.mv then G'.β (ids.getD (ob.cC.length-1) 0) else G'.β (fr.headD 0))=_;rw[if_pos K,ag,<-j8,B];rfl
       |false=>
       have Z:ids=List.range ob.cC.length++fr:=by rw[a9];unfold vm;rw[K];rfl
       rw[Z]at B;have a8:βn=G'.β (fr.headD 0):=by show(if ob.mv then _ else _)=_;rw[K];rfl
       rw[a8];unfold jU;by_cases a2:i<ob.cC.length
       .rw[ak (by simpa using a2)]at B;simp[a2]at B;subst B;rw[if_pos ⟨a2,fun h=>by rw[K]at h;cases h.1⟩,X i a2]
       rw[ay (by simp;omega)]at B;rw[if_neg (fun h=>a2 h.1)]
       have h0:i-(List.range ob.cC.length).length=0:=by have:=(aD.1 B).1;rw[k5]at this;cases M:ob.new<;>rw[M]at this<;>simp at this⊢<;>omega
       rw[h0]at B;show G'.β (fr.headD 0)=_;cases fr with
       |nil=>simp at B
       |cons x r=>simp at B;subst B;rfl
      have c5:kr q ob=(l++ls).map (·.1):=by
       cases M:ob.new with
       |true=>
        rw[M]at p d5;simp only[if_true]at p;have m0:q.res=[]:=by simpa using d5
        rw[p.1];unfold kr;rw[m0];exact q3
       |false=>
        rw[M]at p;simp only[ai,if_false]at p;unfold kr;rw[bX,p.2.1,q3]
      have b0:∀i,i<ob.outs.length->∃id,ids[i]?=some id:=by intro i B;exact⟨_,aR (by rw[q2];exact B)⟩
      refine⟨v0,i5,v0,G'.S,pG G' (l++ls),βn,rfl,⟨hs.m.below,hs.m.jB,hs.m.dP,hs.m.gL,hs.m.keep,⟨den a7 e,i0.map fun es=>es.map (den a7),n1,by simp[q1],?_,?_⟩,?_,?_,?_,?_,?_⟩⟩
      .cases M:ob.new with
       |true=>
        rw[M]at p;simp only[if_true]at p⊢;obtain⟨_,id,rfl,W,l7⟩:=p
        have K:ob.mv=false:=by
         cases hm:ob.mv with
         |false=>rfl
         |true=>rw[Ob.DS hm]at M;cases M
        have Z:ids=List.range ob.cC.length++[id]:=by rw[a9];unfold vm;rw[K];rfl
        rw[Z]at q4;have a8:βn=G'.β id:=by show(if ob.mv then _ else _)=_;rw[K];rfl
        rw[a8];refine⟨l7,?_⟩;obtain⟨e3,a0⟩:=q4 id (by simp);rcases (hs.m.box _ _ _ a0).1 with h|⟨_,i,B⟩
        .exact h
        simp only[S1]at B;split at B
        .rename_i c1;injection B with B;obtain⟨n8,d6⟩:=q4 i (by simp[c1]);have:=hs.m.inj i id _ _ d6 a0 ((X i c1).trans B);omega
        cases B
       |false=>
        rw[M]at p;simp only[ai,if_false]at p⊢;exact p.2.2
      .intro i F cells H A;simp only[ab,cQ]at A;obtain⟨es,m8,rfl⟩:=A;obtain⟨id,W⟩:=b0 i (aD.1 H).1;obtain⟨e3,lo,r1,r2,r3⟩:=q6 i F id es H W m8;obtain⟨_,_,d9,b5⟩:=hs.m.box _ _ _ r1;obtain⟨us,T,b3,b4⟩:=d9.cells (kq r2);obtain⟨k1,k2,k3⟩:=jH (L:=l++ls) hs.m g5 r2 b4 (fun x Y=>bA _ (r3 x Y));rw[f0 i id W];refine⟨us,T,b3,k2,by simp[k1],fun j r u d hr hu hd=>?_,by simpa using b5⟩;simp only[ab,cQ]at hd;obtain⟨e1,m9,rfl⟩:=hd;exact k3 j r u e1 hr hu m9
      .intro j b hj hb;rw[c5]at hj;obtain⟨g,g8,a6⟩:=vE c7 hj hb;obtain⟨z,hz⟩:=b7 _ _ g8;exact hs.m.fS g z b hz a6
      .intro j k b hj j7 n4 n3;rw[c5]at hj j7;exact xy hs.m c7 b7 hj j7 n4 n3
      .intro j i b hj B hb;rw[c5]at hj;obtain⟨g,g8,a6⟩:=vE c7 hj hb;obtain⟨z,hz⟩:=b7 _ _ g8;obtain⟨id,W⟩:=b0 i B;obtain⟨e3,a0⟩:=q4 id (bT W);rw[f0 i id W];exact hs.m.eO g id z _ b hz a0 a6
      .intro b9 i c F H hc;obtain⟨YH,V⟩:=b0 (ob.cC.length-1) (by rw[a4];omega)
       have m6:V3 ob ids=some YH:=by
        unfold V3;cases K:ob.mv with
        |true=>exact V
        |false=>
         have Z:ids=List.range ob.cC.length++fr:=by rw[a9];unfold vm;rw[K];rfl
         rw[Z,ak (by simp;omega),cN (by omega)]at V;unfold Ao;rw[if_pos b9];exact V
       rw[m6]at d3;obtain⟨id,W⟩:=b0 i (aD.1 H).1;obtain⟨e3,lo,r1,r2,r3⟩:=q6 i F id _ H W (aR (by rw[q1];exact(aD.1 H).1));obtain⟨_,_,d9,b5⟩:=hs.m.box _ _ _ r1;obtain⟨us,T,b3,b4⟩:=d9.cells (kq r2);obtain⟨k1,k2,k3⟩:=jH (L:=l++ls) hs.m g5 r2 b4 (fun x Y=>bA _ (r3 x Y));have h8:c<F.length:=(aD.1 hc).1;have g9:c<us.length:=by rw[k2];exact h8
       have k8:c<e3.length:=by rw[<-b4.1];exact g9
       have i4:=xB (AR d3 H W r1) hc (aR k8);have i6:=b4.2 c _ _ (aR k8) (aR g9);rw[i4]at i6;obtain⟨_,l6⟩:=i6;rw[f0 i id W,cell_of_row w' _ c _ T (0,0) b3,da,aR g9,l6,f0 _ YH V]
      intro K;have j4:=d2 K;obtain⟨YH,V⟩:=b0 (ob.cC.length-1) (by rw[a4];omega)
      have a8:βn=G'.β YH:=by show(if ob.mv then _ else _)=_;rw[if_pos K,ag,V];rfl
      rw[a8];obtain⟨e3,a0⟩:=q4 YH (bT V);rcases (hs.m.box _ _ _ a0).1 with h|⟨_,i,B⟩
      .exact .inr h
      simp only[S1]at B;split at B
      .rename_i c1;injection B with B;by_cases a2:i<ob.cC.length-1
       .exfalso;have A:=d4 K i a2;obtain⟨n8,d6⟩:=q4 i (bT A);have h3:=hs.m.inj i YH _ _ d6 a0 ((X i c1).trans B);subst h3;obtain⟨h4,h5⟩:=aD.1 A;obtain⟨h6,h7⟩:=aD.1 V;have:=(List.getElem_inj (m3 K) (h₀:=h4) (h₁:=h6)).1 (h5.trans h7.symm);omega
       have:i=ob.cC.length-1:=by omega
       subst this;exact .inl B.symm
      cases B
     exact hk.elim
    exact hk.elim
   exact hk.elim
  cases ex with
  |normal=>exact l0 hk
  |ret=>exact l0 hk
  |exit i=>exact hk.elim
 exact e6
end
def fvc(P:Tba)(cs:mJ)(b:List (Nat×EW))(a:dI)(fn:Func):VC:=
 match fn.body with
 |some c=>vc ⟨P,cs,fn.ntmps,b,[],[],[]⟩ c (fun ex d _ _=>match ex with| .exit _=>.stuck 20|_=>Jf P a fn d) (St.start a.params) a.params.length 0
 |none=>.stuck 30
def fnB(fn:Func)(a:dI):Bool:=a.ob.isNone&&fn.body.isSome&& !(fn.name== "runtime.NumGoroutine")&&decide (a.params.length<=fn.ntmps)
def frB(cs:mJ)(a:dI):Bool:=cs.fr==0&&Mp a.res||cs.fr==1
def Yg{cs:mJ}{a:dI}(h:frB cs a=true):cs.fr=0/\Mp a.res=true\/cs.fr=1:=by unfold frB at h;simpa using h
def jf(P:Tba)(Pre:Taa)(Φ:Tab)(cs:List (Nat×dI)):Prop:=∀k a,lk cs k=some a->bn P k a (Pre k) (Φ k)
def vI{P:Tba}{Pre:Taa}{Φ:Tab}:jf P Pre Φ []:=fun k a h=>by cases h
def aN{P:Tba}{Pre:Taa}{Φ:Tab}{k:Nat}{s:dI}{cs:List (Nat×dI)}(h:bn P k s (Pre k) (Φ k))(t:jf P Pre Φ cs):jf P Pre Φ ((k,s)::cs):=fun j b a=>by
 simp only[lk]at a;split at a
 .rename_i e;subst e;injection a with a;subst a;exact h
 exact t j b a
def K2{P:Tba}{f:Nat}{fn:Func}{a:dI}{e:Tah->Prop}{ze:Tah->D}{cs:mJ}{Φ:Tab}{Pre:Taa}{b:List (Nat×EW)}{v:VC}(g:P.follows .mixedOrders=true)(j:jf P Pre Φ cs.l)(o:frB cs a=true)(r:P.funcs[f]?=some fn)(p:fnB fn a=true)(m:fvc P cs b a fn=v)(n:cs.mp=[]/\cs.et=[])(s:∀k,dr (.Y a.params) k->e k->v.holds Φ Pre (fun d=>d=ze k) (fun i=>k.getD i .top) []):bn P f a e ze:=by unfold fnB at p;simp only[aP,bg]at p;obtain⟨⟨⟨x,w⟩,u⟩,t⟩:=p;obtain⟨c,q⟩:=cW.1 w;refine Ew cs [] [] Φ Pre b v r q (by simpa using u) g t (by simpa using x) n j (Yg o) (fun _ _ h=>by cases h) (fun _ _ h=>by cases h) ?_ s;unfold fvc at m;rw[q]at m;exact m
def cO(l:Tah):(D.list l).V=l:=rfl
def ez(l:Tah):(D.agg l).V=l:=rfl
def ev(l:Tah):(D.fa l).V=l:=rfl
def ew(l:Tah):(D.ptr l).V=l:=rfl
def fA(f:Nat)(l:Tah):(D.fn f l).V=l:=rfl
def bR(k:IntKind)(n:Int):(D.int k n).J=n:=rfl
def cK(b:Bool):(D.bool b).Z=b:=rfl
def wrap64{n:Int}(b: -9223372036854775808<=n)(a:n<=9223372036854775807):IntKind.wrap .i64 n=n:=by rw[IntKind.wrap_i64];omega
def tV{n:Int}:kL .i64 n↔ -9223372036854775808<=n/\n<=9223372036854775807:=by
 unfold kL;have b:IntKind.min .i64=-9223372036854775808:=by rfl
 have a:IntKind.max .i64=9223372036854775807:=by rfl
 rw[b,a]
end Go.dG
namespace Go.dG
open Go
def opsOf:Code->List Tbd
 |.region _ ops _=>ops.toList
 |.seq a b=>opsOf a++opsOf b
 |.cond _ a b=>opsOf a++opsOf b
 |.block _ c| .loop c| .scope c=>opsOf c
 |.rangeFunc _ _ a b=>opsOf a++opsOf b
 |_=>[]
def Rt(ops:List Tbd)(t:Nat):Nat:=match ops.find? (fun o=>o.dst==some t) with
 |some o=>match o.op with
  |.load _ (.tmp x)| .move (.tmp x)=>x
  |_=>t
 |none=>t
def Aw(ops:List Tbd):Nat->Nat->Nat
 |0,t=>t
 |f+1,t=>match ops.find? (fun o=>o.dst==some t) with
  |some o=>match o.op with
   |.fieldAddr _ (.tmp x) _=>Aw ops f x
   |.nilCheck (.tmp x)| .move (.tmp x)=>Aw ops f x
   |_=>t
  |none=>t
def O6(ops:List Tbd)(c:Code):Tai:=
 dedup ((opsOf c).flatMap fun o=>match o.op with
  |.store _ (.tmp x) _=>[Aw ops 10 x]
  |.mapUpdate _ (.tmp x) _ _=>[Rt ops x]
  |.call {callee:=.value _,args,.. }=>args.toList.filterMap fun x=>match x with| .tmp t=>some (Aw ops 10 t)|_=>none
  |_=>[])
def oO:Code->List (Nat×Code)
 |.seq a b=>oO a++oO b
 |.cond _ a b=>oO a++oO b
 |.block _ c| .scope c=>oO c
 |.loop c=>(match iO c with|some i=>[(i,c)] |none=>[])++oO c
 |.rangeFunc _ _ a b=>(match iO a with|some i=>[(i,.seq a b)] |none=>[])++oO b
 |_=>[]
def Bi(P:Tba):Nat->Nat->Tbb->List (Nat×Tbb)
 |0,_,_=>[]
 |n+1,off,t=>match P.underlying t with
  |some (.slice e)=>[(off,e)]
  |some (.struct fs)=>fs.toList.flatMap fun f=>Bi P n (off+f.offset) f.type
  |_=>[]
def Si(ops:List Tbd)(t:Nat):Tap Tbb:=match ops.find? (fun o=>o.dst==some t) with
 |some o=>match o.op with
  |.alloc T=>some T
  |.box T _=>some T
  |_=>none
 |none=>none
def Pk(P:Tba)(ops:List Tbd):List (Nat×Tbb):=ops.filterMap fun o=>match o.dst with
 |some t=>match P.underlying o.type with
  |some (.slice e)=>some (t,e)
  |_=>none
 |none=>none
def Ys(P:Tba)(all ops:List Tbd)(t:Nat):Tap Tbb:=ops.findSome? fun o=>match o.op with
 |.call {callee:=.value _,args,argTypes}=>(args.toList.zip argTypes.toList).findSome? fun x=>match x.1 with
  |.tmp t'=>if Aw all 10 t'=t then(match P.underlying x.2 with|some (.pointer e)=>some e|_=>none) else none
  |_=>none
 |_=>none
def vL(P:Tba)(given:List (Nat×EW))(c:Tap Code):List (Nat×EW):=
 match c with
 |some c=>((oO c).map fun x=>let g:=(lk given x.1).getD {}
   (x.1,{own:=((Pk P (opsOf x.2)).filter fun y=> !g.own.contains (y.1,0))++g.own.filter (fun y=>y.2 !=0),boxes:=(((O6 (opsOf c) x.2).filter fun t=> !g.boxes.any fun y=>y.1==t).map fun t=>(t,match (Si (opsOf c) t).orElse (fun _=>Ys P (opsOf c) (opsOf x.2) t) with|some T=>Bi P 4 0 T|none=>[]))++g.boxes,drop:=g.drop}))++given
 |none=>given
def kT(a:Tah)(d:Tam)(b:Tah->(Tah->Prop)->Prop):Prop:=
 ∃(I:Tah->Prop) (m:Tah->Nat),I a/\∀c,dr (.Y d) c->I c->b c (fun e=>I e/\m e<m c)
def kT.intro{a:Tah}{b:Tam}{body:Tah->(Tah->Prop)->Prop}(I:Tah->Prop)(m:Tah->Nat)(e:I a)(h:∀c,dr (.Y b) c->I c->body c (fun d=>I d/\m d<m c)):kT a b body:=⟨I,m,e,h⟩
section
variable{Φ:Tab}{Pre:Taa}{R:D->Prop}{ρ:Nat->D}{kv:List (Tah->Prop)}
def fc{pc:dJ}{e:E}{k:VC}:(VC.jY pc e k).holds Φ Pre R ρ kv=((aV ρ pc=true->(den ρ e).Z=true)/\k.holds Φ Pre R ρ kv):=rfl
def ep{p f:Nat}{a:E}{pc:dJ}{k:VC}:(VC.call p f a pc k).holds Φ Pre R ρ kv=((aV ρ pc=true->Pre f (den ρ a).V)/\k.holds Φ Pre R (fy ρ p (Φ f (den ρ a).V)) kv):=by simp only[VC.holds,forall_eq]
def dZ{pc:dJ}{e:E}{b:Nat}{k:VC}:(VC.room pc e b k).holds Φ Pre R ρ kv=((aV ρ pc=true->(den ρ e).V.length<=maxLen/\(den ρ e).V.length*b<=140737488355328)/\k.holds Φ Pre R ρ kv):=rfl
def cF{e:E}{t f:VC}:(VC.branch e t f).holds Φ Pre R ρ kv=(((den ρ e).Z=true->t.holds Φ Pre R ρ kv)/\((den ρ e).Z=false->f.holds Φ Pre R ρ kv)):=rfl
def eh{v0:Nat}{es:List E}{b:Tam}{a:VC}:(VC.loop v0 es b a).holds Φ Pre R ρ kv=kT (es.map (den ρ)) b (fun c J=>a.holds Φ Pre R (fJ ρ v0 c) (J::kv)):=rfl
def dw{i:Nat}{es:List E}:(VC.again i es).holds Φ Pre R ρ kv=(match kv[i]? with|some J=>J (es.map (den ρ))|none=>False):=rfl
def fb{e:E}:(VC.ret e).holds Φ Pre R ρ kv=R (den ρ e):=rfl
end
def Mw(given:List (Nat×EW))(c:Tap Code):Tai:=
 let l:=((lk given 1000000).getD {}).drop;let a:=match c with|some c=>opsOf c|none=>[]
 l++(if l.contains 1000000 then a.filterMap fun o=>match o.op with| .call {callee:=.builtin .append,.. }=>o.dst|_=>none else [])++
  (if l.contains 1000001 then
   let b:=a.filterMap fun o=>match o.op with| .call {callee:=.builtin .append,args,.. }=>(match args.toList with| [_,.tmp t]=>some t|_=>none)|_=>none
   a.filterMap fun o=>match o.op with| .buildSlice .. =>(match o.dst with|some d=>if b.contains d then none else some d|none=>none)|_=>none
  else [])
def og(P:Tba)(cs:List (Nat×dI))(given:List (Nat×EW))(a:dI)(fn:Func):VC:=
 match fn.body,a.ob with
 |some c,some ob=>vc ⟨P,⟨cs,Mw given fn.body,0,[],[]⟩,fn.ntmps,vL P given fn.body,[],[],[]⟩ c (fun ex b _ _=>match ex with| .exit _=>.stuck 20|_=>Ab P a ob fn b) (St.nG a ob) a.params.length 0
 |_,_=>.stuck 30
def hU{P:Tba}{f:Nat}{fn:Func}{a:dI}{ob:Ob}{b:Tah->Prop}{ze:Tah->D}{cs:List (Nat×dI)}{Φ:Tab}{Pre:Taa}{given:List (Nat×EW)}{v:VC}(j:P.follows .mixedOrders=true)(k:jf P Pre Φ cs)(q:P.funcs[f]?=some fn)(g:a.ob=some ob)(p:Vc fn a ob=true)(m:og P cs given a fn=v)(r:∀l,dr (.Y a.params) l->b l->v.holds Φ Pre (fun d=>d=ze l) (fun i=>l.getD i .top) [])(n:Mo cs=true:=by rfl):bn P f a b ze:=by have e:=p;unfold Vc at e;simp only[aP]at e;obtain⟨c,o⟩:=cW.1 e.1.1.1.1.1.1.1.1.1.1.1;refine ym ⟨cs,Mw given fn.body,0,[],[]⟩ Φ Pre (vL P given fn.body) v q o j g rfl (fun _ _ h=>by cases h) p n rfl k ?_ r;unfold og at m;rw[g,o]at m;rw[o];exact m
def Ws(P:Tba)(cs:List (Nat×dI))(et:List (Nat×Ay))(given:List (Nat×EW))(a:dI)(fn:Func):VC:=
 match fn.body,a.ob with
 |some c,some ob=>vc ⟨P,⟨cs,Mw given fn.body,0,[],et⟩,fn.ntmps,vL P given fn.body,[],[],[]⟩ c (fun ex b _ _=>match ex with| .exit _=>.stuck 20|_=>Ab P a ob fn b) (St.nG a ob) a.params.length 0
 |_,_=>.stuck 30
def Gw{P:Tba}{f:Nat}{fn:Func}{a:dI}{ob:Ob}{b:Tah->Prop}{ze:Tah->D}{cs:List (Nat×dI)}{et:List (Nat×Ay)}{Φ:Tab}{Pre:Taa}{given:List (Nat×EW)}{v:VC}(h:P.follows .mixedOrders=true)(j:jf P Pre Φ cs)(o:∀k q,lk et k=some q->∃r t,q.nn=some (r,t)/\QB P k r (Pre k) (Φ k))(u:P.funcs[f]?=some fn)(g:a.ob=some ob)(s:Vc fn a ob=true)(m:Ws P cs et given a fn=v)(w:∀l,dr (.Y a.params) l->b l->v.holds Φ Pre (fun d=>d=ze l) (fun i=>l.getD i .top) [])(n:Mo cs=true:=by rfl):bn P f a b ze:=by have e:=s;unfold Vc at e;simp only[aP]at e;obtain⟨c,p⟩:=cW.1 e.1.1.1.1.1.1.1.1.1.1.1;refine ym ⟨cs,Mw given fn.body,0,[],et⟩ Φ Pre (vL P given fn.body) v u p h g rfl o s n rfl j ?_ w;unfold Ws at m;rw[g,p]at m;rw[p];exact m
def Ku(P:Tba)(cs:List (Nat×dI))(given:List (Nat×EW))(a:dI)(fn:Func):VC:=fvc P ⟨cs,Mw given fn.body,0,[],[]⟩ (vL P given fn.body) a fn
def Gs{P:Tba}{f:Nat}{fn:Func}{a:dI}{b:Tah->Prop}{ze:Tah->D}{cs:List (Nat×dI)}{Φ:Tab}{Pre:Taa}{given:List (Nat×EW)}{v:VC}(c:P.follows .mixedOrders=true)(e:jf P Pre Φ cs)(k:P.funcs[f]?=some fn)(m:fnB fn a=true)(j:Ku P cs given a fn=v)(l:∀g,dr (.Y a.params) g->b g->v.holds Φ Pre (fun d=>d=ze g) (fun i=>g.getD i .top) [])(h:Mp a.res=true:=by rfl):bn P f a b ze:=
 K2 c e (by simp[frB,h]) k m j ⟨rfl,rfl⟩ l
def vr(a n:Nat):List E:=(List.range n).map fun i=>.var (a+i)
def cr(j n:Nat)(e:E):List E:=(List.range n).map fun i=>.un (.cell (j+i)) e
def rp(n:Nat)(e:E):List E:=List.replicate n e
def fl:List (List E)->List E
 |[]=>[]
 |l::r=>l++fl r
end Go.dG
namespace Go.dG
open Go Go.RowKit
def I(d:D)(j:Nat):Int:=(d.V.getD j .top).J
def ahj:Ty:=.agg (.cons (.int .i64) (.cons (.int .i64) (.cons (.int .i64) (.nil))))
def O2:Ty:=.agg (.cons (.int .i64) (.cons (.int .i64) (.cons (.int .i64) (.cons (.int .i64) (.cons (.int .i64) (.cons (.int .i64) (.cons (.int .i64) (.cons (.int .i64) (.cons (.int .i64) (.cons (.bool) (.cons (.int .i64) (.nil))))))))))))
def C8{a:Type}{l:List a}{i:Nat}{x:a}(h:l[i]?=some x):l.drop i=x::l.drop (i+1):=by obtain⟨b,rfl⟩:=aD.1 h;exact bJ b
def tg{a:Type}{l:List a}{i:Nat}{x:a}(h:l[i]?=some x):i<l.length:=(aD.1 h).1
def tk{a:Type}{l:List a}{i:Nat}(h:l[i]?=none):l.length<=i:=dp.1 h
def findF{a:Type}(p:a->Bool):List a->Int->Int
 |[],_=> -1
 |x::r,i=>if p x then i else findF p r (i+1)
def yx{a:Type}(p:a->Bool):∀(l:List a) (i:Int),(findF p l i=-1/\∀x∈l,p x=false)\/∃(n:Nat) (x:a),findF p l i=i+n/\l[n]?=some x/\p x=true/\∀y∈l.take n,p y=false
 |[],i=>.inl ⟨rfl,by simp⟩
 |x::r,i=>by
  unfold findF;cases hp:p x with
  |true=>exact .inr ⟨0,x,by simp,rfl,hp,by simp⟩
  |false=>
   rcases yx p r (i+1) with⟨h1,h2⟩|⟨n,y,h1,h2,h3,h4⟩
   .exact .inl ⟨by simpa using h1,by simp only[aH,forall_eq_or_imp];exact⟨hp,h2⟩⟩
   exact .inr ⟨n+1,y,by simp[h1];omega,by simpa using h2,h3,by simp only[dF,aH,forall_eq_or_imp];exact⟨hp,h4⟩⟩
end Go.dG
namespace Go.dG
open Go Go.RowKit Go.Shelf Go.Sort Go.Proofs
def iM(d:D):List Int:=d.V.map D.J
def eW(l:List Int):iM (.list (l.map (D.int .i64)))=l:=by simp[iM,D.V,List.map_map,Function.comp_def,D.J]
def jP(l:List Int):List Int:=l.mergeSort fun x y=>decide (x<=y)
def JH:dI:=⟨[.list (.int .i64)],[],some ⟨[],[],[[],[]],false⟩⟩
def Kd:dI:=⟨[.list (.int .i64)],[(false,[(.list (.int .i64),none)])],some ⟨[],[],[[],[]],false⟩⟩
def my(T:Tbb):dI:=⟨[.list (.int .i64)],[(false,[(.int .i64,some (1,T))])],none⟩
def zl(ds:Tah):D:=.list ((jP (iM (ds.getD 0 .top))).map (D.int .i64))
def zx(ds:Tah):D:=.list ((Lib.compact (iM (ds.getD 0 .top))).map (D.int .i64))
def wo(ds:Tah):D:=.list (ds.getD 0 .top).V
def pR{l:List Int}:Has (.list (.int .i64)) (.list (l.map (D.int .i64)))↔l.length*8<=140737488355328/\∀x∈l,kL .i64 x:=by
 constructor
 .intro h;obtain⟨_,b,⟨_,c⟩,f⟩:=bO.1 h;injection b with b;subst b;refine⟨by rw[aj]at c;exact c,fun x d=>?_⟩;obtain⟨n,a,e⟩:=dm.1 (f (.int .i64 x) (bf.2 ⟨x,d,rfl⟩));injection a with _ a;subst a;exact e
 rintro⟨b,c⟩;refine bO.2 ⟨_,rfl,⟨by rw[aj];exact aY (show _<=140737488355328 by omega) (by decide),by rw[aj];exact b⟩,fun x d=>?_⟩;obtain⟨n,a,rfl⟩:=bf.1 d;exact dm.2 ⟨n,rfl,c n a⟩
def pV(l:List Int):(jP l).length=l.length:=List.length_mergeSort l
def xA{l:List Int}{x:Int}:x∈jP l↔x∈l:=List.mem_mergeSort
def yp{l:List Int}{x:Int}(h:x∈Lib.compact l):x∈l:=by unfold Lib.compact Lib.compactUpTo at h;obtain⟨i,b,rfl⟩:=bf.1 h;have a:=(List.mem_filter.1 b).1;rw[cz]at a;rw[getElem!_pos _ i (by simpa using a)];simp
section
variable{P:Tba}{ρ:Ren}{fn:Func}
def A0{f:Nat}(e:P.funcs[f]?=some fn)(d:(fn.body.isSome&& !(fn.name== "runtime.NumGoroutine"))=true)(b:Tbe Tao)(w:Tan):(callFunc f b).run P w=.ok (.enter f b) w:=by
 simp only[aP,cI]at d;obtain⟨i,h⟩:=d;unfold callFunc;obtain⟨c,g⟩:=cW.1 i
 have a:fn.name≠ "runtime.NumGoroutine" :=by simpa using h
 simp[e,g,a]
def sy{w w':Tan}{g:Nat}(h:w.grownBy w' (some g)):fZ (fun b=>(Value.slice (some ⟨g,0,none⟩) 0 0).ownBlock=some b) w w':=
 ⟨h.os,h.tape,h.output,h.size,fun k c a=>h.block k c (fun e=>a (by simp only[aa]at e;subst e;rfl))⟩
def KQ(L:Lays.n189 P ρ)(t:P.funcs[ρ.f 189]?=some fn)(u:(fn.body.isSome&& !(fn.name== "runtime.NumGoroutine"))=true):bn P (ρ.f 189) JH (fun _=>True) zl:=by
 refine⟨A0 t u,fun h=>(by cases h),fun p k m=>(by simp only[JH,aa]at k;subst k;cases m),fun p _ _ w T v a d j _=>?_⟩;obtain⟨y,s⟩:=pR.1 j
 have b:zl [.list (a.map (D.int .i64))]=.list ((jP a).map (D.int .i64)):=by show D.list _=_;rw[show iM ([D.list (a.map (D.int .i64))].getD 0 .top)=a from eW a]
 have c:Has (.list (.int .i64)) (.list ((jP a).map (D.int .i64))):=pR.2 ⟨by rw[pV];exact y,fun x r=>s x (xA.1 r)⟩;rcases d.2 with⟨rfl,h0⟩|⟨g,cap,cur,rfl,TZ,Zc,k,m,h3,h4⟩
 .have q:a=[]:=an h0;subst q;have z:jP []=[]:=by simp[jP]
  rw[z]at b c;refine(Any.slices_Sort_int_none L none 0 w).mono ?_;rintro e o ⟨rfl,rfl⟩;exact⟨_,.slice none 0 0,[],rfl,b,c,⟨rfl,⟨rfl,.inl ⟨rfl,rfl⟩⟩,rfl,fZ.refl _ _⟩⟩
 have l:cur.toList.take a.length=a.map (Value.int .i64):=by simpa using h4
 refine(Any.slices_Sort_int L g 0 cap a w (holds_of_blockI Zc l) (aI.1 Zc).1 (by omega)).mono ?_;rintro e o ⟨rfl,n,os,rfl⟩;have i:=ownsRow_sortedI (n:=n) (os:=os) (ts:=jP a) (pV a) TZ Zc k m h3;refine⟨_,.slice (some ⟨g,0,none⟩) a.length cap,jP a,rfl,b,c,⟨rfl,?_,rfl,sy (grownBy_sortedI _)⟩⟩;rw[pV];exact i
def EO(L:Lays2.n20 P ρ)(A:P.funcs[ρ.f 20]?=some fn)(B:(fn.body.isSome&& !(fn.name== "runtime.NumGoroutine"))=true):bn P (ρ.f 20) Kd (fun _=>True) zx:=by
 refine⟨A0 A B,fun h=>(by cases h),fun s l p=>(by simp only[Kd,aa]at l;subst l;cases p),fun s _ _ w T v a b j _=>?_⟩;obtain⟨C,z⟩:=pR.1 j;have y:=Lib.compact_length_le a
 have d:zx [.list (a.map (D.int .i64))]=.list ((Lib.compact a).map (D.int .i64)):=by show D.list _=_;rw[show iM ([D.list (a.map (D.int .i64))].getD 0 .top)=a from eW a]
 have i:Has (.list (.int .i64)) (.list ((Lib.compact a).map (D.int .i64))):=pR.2 ⟨by omega,fun x u=>z x (yp u)⟩;rcases b.2 with⟨rfl,h0⟩|⟨g,cap,cur,rfl,TZ,Zc,l,p,h3,h4⟩
 .have t:a=[]:=an h0;subst t;refine(Any.slices_Compact_int_empty L none 0 w).mono ?_;rintro e r ⟨rfl,rfl⟩;exact⟨_,.slice none 0 0,Lib.compact [],rfl,d,i,⟨rfl,⟨rfl,.inl ⟨rfl,rfl⟩⟩,rfl,fZ.refl _ _⟩⟩
 have m:cur.toList.take a.length=a.map (Value.int .i64):=by simpa using h4
 refine(Any.slices_Compact_int L g 0 cap a w (holds_of_blockI Zc m) (by omega) l).mono ?_;rintro e r ⟨rfl,q,rfl⟩;have c:=Lib.ownsRow_putRow (q:=q) (k:=(Lib.compact a).length) (ys:=Lib.compact a++List.replicate (a.length-(Lib.compact a).length) 0) b (by simp;omega) (by omega);rw[List.take_left]at c;have o:=grownBy_sortedI (w:=w) (g:=g) (n:=q) (os:=#[]) (Lib.compact a++List.replicate (a.length-(Lib.compact a).length) 0).toArray;rw[grow_empty]at o;exact⟨_,.slice (some ⟨g,0,none⟩) (Lib.compact a).length cap,Lib.compact a,rfl,d,i,⟨rfl,c,rfl,sy o⟩⟩
def IX(L:Lays2.n15 P ρ)(hf:P.funcs[ρ.f 15]?=some fn)(hb:(fn.body.isSome&& !(fn.name== "runtime.NumGoroutine"))=true):bn P (ρ.f 15) (my (ρ.t 3)) (fun _=>True) wo:=by
 refine⟨A0 hf hb,fun _ w S vs ds hS J I V _=>?_,fun ob Q=>(by cases Q),fun ob Q=>(by cases Q)⟩;obtain⟨d,r,rfl,Y,hr⟩:=aA.1 V;obtain rfl:=dk.1 hr;obtain⟨v,rfl⟩:∃v,vs=[v]:=bP.1 J;have Z:=I 0 v d rfl rfl;obtain⟨l,rfl,hl,W⟩:=bO.1 Y;obtain⟨p,rfl⟩:=r9 W;obtain⟨h8,hk⟩:=pR.1 Y
 have E:∀(y:Tao) (s:Tan),s.ownsRow w.heap.size (ρ.t 3) 1 y p.length (p.map (Value.int .i64))->Below w.heap.size w s->
   ∃u T G,Ending.returned y=.returned u/\Below w.heap.size w s/\(∀b o,S b o->T b o)/\(∀b o,T b o->b<s.heap.size)/\(∀b o,T b o->S b o\/w.heap.size<=b)/\
    gZ s 0 T G (my (ρ.t 3)).res u (wo [.list (p.map (D.int .i64))])/\(∀j b,j∈cJ (my (ρ.t 3)).res->(G j).ownBlock=some b->w.heap.size<=b)/\(∀j k b,j∈cJ (my (ρ.t 3)).res->k∈cJ (my (ρ.t 3)).res->(G j).ownBlock=some b->(G k).ownBlock=some b->j=k)/\
    ∀j,j∈cJ (my (ρ.t 3)).res->Sz j=true->zi (fun b=>w.heap.size<=b) s T (G j):=by
  intro y s m n
  have C:∀b,y.ownBlock=some b->w.heap.size<=b:=by
   intro b x;rcases m.2 with⟨rfl,_⟩|⟨g,q,R,rfl,hg,_⟩
   .cases x
   simp only[Value.ownBlock,aa]at x;subst x;exact hg
  have B:s.ownsRow 0 (ρ.t 3) 1 y p.length (p.map (Value.int .i64)):=by
   refine⟨m.1,?_⟩;rcases m.2 with h|⟨g,q,R,Q,_,h3⟩
   .exact .inl h
   exact .inr ⟨g,q,R,Q,aB _,h3⟩
  refine⟨y,fun b o=>S b o\/(y.ownBlock=some b/\o<p.length),fun _=>y,rfl,n,fun b o h=>.inl h,?_,?_,?_,fun j b _ h=>C b h,?_,fun j A X=>(by have e:cJ (my (ρ.t 3)).res=[1]:=rfl;rw[e,aG]at A;subst A;cases X)⟩
  .rintro b o (h|⟨h,_⟩)
   .exact ar (hS b o h) n.size
   exact OM m h
  .rintro b o (h|⟨h,_⟩)
   .exact .inl h
   exact .inr (C b h)
  .refine .inl ⟨_,rfl,?_⟩;refine⟨_,rfl,rfl,?_⟩;refine⟨Y,by decide,p.map (Value.int .i64),p.map (D.int .i64),rfl,by rw[aj];exact B,?_,?_⟩
   .intro b x o;rw[aj];exact⟨fun h=>h.elim (fun h=>absurd (hS b o h) (Nat.not_lt.2 (C b x))) (fun h=>⟨rfl,h.2⟩),fun h=>.inr ⟨x,h.2⟩⟩
   intro i d j u c N O F;simp only[ab,cQ]at N;obtain⟨z,U,rfl⟩:=N;cases j with
   |succ j=>simp[D.cells]at O
   |zero=>
    simp only[D.cells,db,aa]at O;subst O;have e1:(Ty.int .i64).cells.length=1:=rfl;rw[e1,bL,dL,ab,U]at F;simp only[aS,aa]at F;subst F;exact .int _ _
  intro j k b A K _ _;have e:cJ (my (ρ.t 3)).res=[1]:=rfl;rw[e,aG]at A K;rw[A,K]
 show Calls P (ρ.f 15) #[v] w _;generalize M:(p.map (D.int .i64))=l at Z;cases Z with
 |nil a q=>
  have U:p=[]:=by cases p with|nil=>rfl|cons z r=>simp at M
  subst U;cases a with
  |none=>
   refine(Any.slices_Clone_int_nil L 0 q w).mono ?_;rintro e s ⟨rfl,rfl⟩;exact E _ _ ⟨rfl,.inl ⟨rfl,rfl⟩⟩ ⟨rfl,rfl,rfl,aM _,fun _ _=>rfl⟩
  |some a=>
   refine(Any.slices_Clone_int_zero L a q w).mono ?_;rintro e s ⟨y,rfl,m,_,n⟩;exact E y s m n
 |list b off q sz xs _ Vl uf rq adw hSx O hw h=>
  subst M
  have H:sz=1:=by
   cases p with
   |nil=>simp at uf
   |cons z r=>rw[<-hw 0 (.int .i64 z) rfl];rfl
  subst H;rw[aj,bL]at adw;rw[aj];refine(Any.slices_Clone_int L b off p.length q p w (aM _) h8 (fun j A=>?_)).mono ?_
  .have F:xs[j]?=some xs[j]:=aR (by omega);rw[O j _ F];have:=h j (.int .i64 p[j]) 0 xs[j] (.int .i64 p[j]) (by simp[A]) rfl (by rw[bL,dL];exact F);rw[this.dj];simp[List.getD,A]
  rintro e s ⟨y,rfl,m,_,n⟩;rw[cH]at m;exact E y s m n
end
end Go.dG
namespace Go.dG
open Go Go.RowKit Go.ChangeShapes Go.WideShapes
def pT(g:Tbb->Tap (Tam))(cells:Tbb->Nat):Nat->List Field->Tap (Tam)
 |_,[]=>some []
 |o,f::fs=>if f.offset=o then
   match g f.type with
   |some ts=>if cells f.type=ts.length then(pT g cells (o+ts.length) fs).map (ts++ ·) else none
   |none=>none
  else none
def OT:Ty->Bool
 |.agg _=>false
 |_=>true
def DX(P:Tba)(e:Tbb)(ts:Tam):Tap Ty:=
 if iW P e then some (.agg (.Y ts)) else match ts with
  | [t]=>if OT t then some t else none
  |_=>none
def pY(cells:Nat)(e:Tbb)(k:Nat):List Field:=(List.range k).map fun i=>{(default:Field) with type:=e,offset:=i*cells}
def oQ(P:Tba):Nat->Tbb->Tap (Tam)
 |0,_=>none
 |n+1,T=>match P.underlying T with
  |some .bool=>some [.bool]
  |some (.int k)=>some [.int k]
  |some .string=>some [.str]
  |some (.slice e)=>match oQ P n e with
   |some ts=>if 0<ts.length/\P.cellsOf e=ts.length then(DX P e ts).bind fun t=>if P.bytesOf e=t.bytes then some [.list t] else none else none
   |none=>none
  |some (.struct fs)=>match pT (oQ P n) P.cellsOf 0 fs.toList with
   |some ts=>if P.cellsOf T=ts.length then some ts else none
   |none=>none
  |some (.array k e)=>match pT (oQ P n) P.cellsOf 0 (pY (P.cellsOf e) e k) with
   |some ts=>if P.cellsOf T=ts.length then some ts else none
   |none=>none
  |_=>none
def Od(P:Tba)(n:Nat)(T:Tbb):Tap Ty:=(oQ P n T).bind (DX P T)
mutual
def D.wt:D->Nat
 |.list l=>zf l+1
 |.agg l=>zf l
 |_=>1
def zf:Tah->Nat
 |[]=>0
 |d::r=>d.wt+zf r
end
mutual
def G7{H:Type}:DataW H->Nat
 |.slice e _=>BT e+1
 |.agg p=>BT p
 |_=>1
def BT{H:Type}:List (DataW H)->Nat
 |[]=>0
 |d::r=>G7 d+BT r
end
def Bb:∀{a b:Tah},zf (a++b)=zf a+zf b
 |[],b=>by simp[zf]
 |x::a,b=>by simp only[eE,zf,Bb (a:=a)];omega
def Oj{H:Type}:∀{ds:Tah} {xs:List (DataW H)},ds.length=xs.length->(∀(i:Nat) d x,ds[i]?=some d->xs[i]?=some x->d.wt<=G7 x)->zf ds<=BT xs
 |[],[],_,_=>aM _
 |[],_::_,h,_=>by simp at h
 |_::_,[],h,_=>by simp at h
 |d::ds,x::xs,h,h'=>by simp only[zf,BT];have e:=h' 0 d x rfl rfl;have c:=Oj (ds:=ds) (xs:=xs) (by simpa using h) (fun i d x a b=>h' (i+1) d x (by simpa using a) (by simpa using b));omega
inductive R3 (K:Nat) (w:Tan) (S:bG):Tad->Tah->Tam->Prop
 |nil:R3 K w S [] [] []
 |cons {v d t vs ds ts} (h:bV w S v d) (ht:qi K t d) (hr:R3 K w S vs ds ts):R3 K w S (v::vs) (d::ds) (t::ts)
section
variable{K:Nat}{d:D}{l:Tah}{k:IntKind}{t h:Ty}{f:Nat}
def F2:qi K (.int k) d↔∃n,d=.int k n/\kL k n:=dt
def C3:qi K .bool d↔∃b,d=.bool b:=dt
def FZ:qi K .str d↔∃s,d=.str s:=dt
def tG:qi K (.list t) d↔∃l,d=.list l/\DT K t l.length/\∀x∈l,qi K t x:=dt
def PH:qi K (.agg t) d↔∃l,d=.agg l/\pM K t l:=dt
def PD:qi K (.fa t) d↔∃l,d=.fa l/\pM K t l:=dt
def PG:qi K (.box t) d↔∃l,d=.ptr l/\pM K t l:=dt
def PE:qi K (.ptr t) d↔d=.gv\/∃l,d=.ptr l/\pM K t l:=dt
def Rw:qi K (.fn f t) d↔∃l,d=.fn f l/\pM K t l:=dt
def PF:pM K .nil l↔l=[]:=dt
def Lu:pM K (.cons h t) l↔∃a r,l=a::r/\qi K h a/\pM K t r:=dt
end
section
variable{w:Tan}{S:bG}{K:Nat}
def R3.append{vs ds ts Qa ds' ts'}(h:R3 K w S vs ds ts)(c:R3 K w S Qa ds' ts'):R3 K w S (vs++Qa) (ds++ds') (ts++ts'):=by
 induction h with
 |nil=>exact c
 |cons a b _ ih=>exact .cons a b ih
def R3.len{vs ds ts}(h:R3 K w S vs ds ts):vs.length=ts.length/\ds.length=ts.length:=by
 induction h with
 |nil=>exact⟨rfl,rfl⟩
 |cons a b _ ih=>exact⟨by simp[ih.1],by simp[ih.2]⟩
def R3.get{vs ds ts}(h:R3 K w S vs ds ts):∀(i:Nat) v d,vs[i]?=some v->ds[i]?=some d->bV w S v d:=by
 induction h with
 |nil=>intro i v d h;simp at h
 |cons a b _ ih=>
  intro i v d e c;cases i with
  |zero=>simp at e c;subst e;subst c;exact a
  |succ i=>exact ih i v d (by simpa using e) (by simpa using c)
def R3.has{vs ds ts}(h:R3 K w S vs ds ts):pM K (.Y ts) ds:=by
 induction h with
 |nil=>exact PF.2 rfl
 |cons a b _ ih=>exact Lu.2 ⟨_,_,rfl,b,ih⟩
def ER{t:Ty}{d:D}(h:qi K t d)(c:OT t=true):d.cells=[d]:=by
 cases t with
 |agg fs=>cases c
 |int k=>obtain⟨n,rfl,_⟩:=F2.1 h;rfl
 |bool=>obtain⟨n,rfl⟩:=C3.1 h;rfl
 |str=>obtain⟨n,rfl⟩:=FZ.1 h;rfl
 |list t=>obtain⟨n,rfl,_⟩:=tG.1 h;rfl
 |fa t=>obtain⟨n,rfl,_⟩:=PD.1 h;rfl
 |box t=>obtain⟨n,rfl,_⟩:=PG.1 h;rfl
 |ptr t=>rcases PE.1 h with rfl|⟨n,rfl,_⟩<;>rfl
 |fn f t=>obtain⟨n,rfl,_⟩:=Rw.1 h;rfl
 |nil=>exact h.elim
 |cons a b=>exact h.elim
def J7{P:Tba}{e:Tbb}{ts:Tam}{t:Ty}{vs:Tad}{ds:Tah}(c:DX P e ts=some t)(h:R3 K w S vs ds ts):∃d:D,qi K t d/\d.cells=ds/\(iW P e=true->d=.agg ds)/\(iW P e=false->ds=[d])/\d.wt=zf ds:=by
 unfold DX at c;split at c
 .rename_i g;injection c with c;subst c;exact⟨.agg ds,PH.2 ⟨ds,rfl,h.has⟩,rfl,fun _=>rfl,(fun h=>by rw[g]at h;cases h),by simp[D.wt]⟩
 rename_i g;split at c
 .rename_i j;split at c
  .rename_i i;injection c with c;subst c;cases h with
   |cons a b hr=>
    cases hr;rename_i d;exact⟨d,b,ER b i,(fun h=>absurd h g),(fun _=>rfl),by simp[zf]⟩
  cases c
 cases c
variable{H:Type}{enc:Tbb×Tao->H}{P:Tba}{base:Nat}{spare:Nat->Bool}{held:Bool}
def qU{z:Nat}:∀{ts:List Tbb} {ds:List (DataW H)} (i:Nat) {t:Tbb} {d:DataW H},ts[i]?=some t->ds[i]?=some d->z∈d.weights P t->z∈DataW.weightsEach P ts ds
 |[],_,i,t,d,h,_,_=>by simp at h
 |_::_,[],i,t,d,_,h,_=>by simp at h
 |t::ts,d::ds,0,u,e,h1,h2,hz=>by simp at h1 h2;subst h1;subst h2;unfold DataW.weightsEach;exact az _ hz
 |t::ts,d::ds,i+1,u,e,h1,h2,hz=>by unfold DataW.weightsEach;exact bA _ (qU i (by simpa using h1) (by simpa using h2) hz)
def nW{z:Nat}{e:Tbb}:∀{ds:List (DataW H)} {d:DataW H},d∈ds->z∈d.weights P e->z∈DataW.weightsAll P e ds
 |[],d,h,_=>by simp at h
 |x::ds,d,h,hz=>by
  unfold DataW.weightsAll;rcases aH.1 h with rfl|h
  .exact az _ hz
  exact bA _ (nW h hz)
def uQ{n m:Nat}{cs:Tad}(u:∀(T:Tbb) (cs:Tad) (x:DataW H×List MemPlace) (ts:Tam),oQ P n T=some ts->DataW.trod enc P w base spare held m T cs=some x->(∀b o,MemPlace.cell b o∈x.2->S b o)->(∀z∈x.1.weights P T,z<=K)->∃e,R3 K w S cs e ts/\zf e<=G7 x.1):
  ∀(a:List Field) (xs:List (DataW H×List MemPlace)) (o:Nat) (ts:Tam),pT (oQ P n) P.cellsOf o a=some ts->cs.length=o+ts.length->xs.length=a.length->
   (∀(i:Nat) f,a[i]?=some f->∃x:DataW H×List MemPlace,xs[i]?=some x/\DataW.trod enc P w base spare held m f.type ((cs.drop f.offset).take (P.cellsOf f.type))=some x/\(∀b o,MemPlace.cell b o∈x.2->S b o)/\∀z∈x.1.weights P f.type,z<=K)->
   ∃e,R3 K w S (cs.drop o) e ts/\zf e<=BT (xs.map (·.1))
 |[],xs,o,ts,h,hl,_,_=>by simp only[pT,aa]at h;subst h;rw[bQ (by simp at hl;omega)];exact⟨[],.nil,aB _⟩
 |f::a,[],o,ts,h,hl,Sw,_=>by simp at Sw
 |f::a,x0::xs,o,ts,h,hl,Sw,hx=>by
  simp only[pT]at h;split at h
  .rename_i F;split at h
   .rename_i A s;split at h
    .rename_i I;simp only[cQ]at h;obtain⟨v,r,rfl⟩:=h;obtain⟨x,c,q,p,j⟩:=hx 0 f rfl;simp only[db,aa]at c;subst c;obtain⟨L,C,N⟩:=u _ _ _ _ s q p j;rw[ah]at hl
     obtain⟨J,B,M⟩:=uQ (cs:=cs) u a xs (o+A.length) v r (by omega) (by simpa using Sw) (fun i g G=>by obtain⟨y,D,E⟩:=hx (i+1) g (by simpa using G);exact⟨y,by simpa using D,E⟩)
     refine⟨L++J,?_,by rw[Bb];simp only[ct,BT];omega⟩;have:=C.append B;rw[I,F]at this;rw[<-List.drop_drop,dE]at this;exact this
    cases h
   cases h
  cases h
def vN:∀(n m:Nat) (T:Tbb) (cs:Tad) (x:DataW H×List MemPlace) (ts:Tam),oQ P n T=some ts->DataW.trod enc P w base spare held m T cs=some x->(∀b o,MemPlace.cell b o∈x.2->S b o)->(∀z∈x.1.weights P T,z<=K)->∃ds,R3 K w S cs ds ts/\zf ds<=G7 x.1
 |0,_,_,_,_,_,h,_,_,_=>by cases h
 |n+1,m,T,cs,x,ts,h,F,hS,Vg=>by
  unfold oQ at h;split at h
  .rename_i G;injection h with h;subst h;obtain⟨b,rfl,rfl⟩:=DataW.trod_bool G F;exact⟨[.bool b],.cons (.bool b) (C3.2 ⟨b,rfl⟩) .nil,by simp[zf,D.wt,G7]⟩
  .rename_i k G;injection h with h;subst h;obtain⟨i,rfl,rfl,hw⟩:=DataW.trod_int G F;exact⟨[.int k i],.cons (.int k i) (F2.2 ⟨i,rfl,by simpa [Lit.wf,kL]using hw⟩) .nil,by simp[zf,D.wt,G7]⟩
  .rename_i G;injection h with h;subst h;obtain⟨s,rfl,rfl,_⟩:=DataW.trod_string G F;exact⟨[.str s],.cons (.str s) (FZ.2 ⟨s,rfl⟩) .nil,by simp[zf,D.wt,G7]⟩
  .rename_i e G;split at h
   .rename_i q N;split at h
    .rename_i r;obtain⟨r,b2⟩:=r;rw[eu]at h;obtain⟨t,b9,h⟩:=h;split at h
     case isFalse=>cases h
     rename_i b3;injection h with h;subst h;rcases DataW.trod_slice G F with⟨rfl,hxn⟩|⟨a,len,cap,elems,rest,Z,rfl,rfl,Y1,_,hlc,YM,hle,hel,_⟩
     .exact⟨[.list []],.cons (.nil none 0) (tG.2 ⟨[],rfl,yq _ _,by simp⟩) .nil,by rw[hxn];simp[zf,D.wt,G7]⟩
     rcases fq len with h0|h0
     .subst h0;exact⟨[.list []],.cons (.nil (some a) cap) (tG.2 ⟨[],rfl,yq _ _,by simp⟩) .nil,by rw[Y1];simp[zf,D.wt,G7]⟩
     rw[b2]at hel
     have W:∀z∈((elems.map (·.1)).length+(rest.map (·.1)).length)*P.bytesOf e::(DataW.weightsAll P e (elems.map (·.1))++DataW.weightsAll P e (rest.map (·.1))),z<=K:=by intro z hz;refine Vg z ?_;rw[Y1];simp only[DataW.weights,G];exact hz
     have X:∀i,i<len->∃(Q:Tad) (d:D),w.cells? base (a.add (i*q.length)) q.length=some Q/\qi K t d/\d.cells.length=q.length/\(∀(j:Nat) v c,Q[j]?=some v->d.cells[j]?=some c->bV w S v c)/\∀x,elems[i]?=some x->d.wt<=G7 x.1:=by
      intro i p;have h1:=hel i p;have h2:elems[i]?=some (elems[i]'(by omega)):=aR _;rw[h2,eu]at h1;obtain⟨Q,O,b5⟩:=h1
      obtain⟨di,ri,ki⟩:=vN n Z e Q _ q N b5 (fun b o hb=>hS b o (by rw[Y1];refine bA _ (cU.2 ⟨elems[i]'(by omega),az _ (aF _),hb⟩))) (fun z hz=>W z (ao _ (az _ (nW (bf.2 ⟨_,aF _,rfl⟩) hz))))
      obtain⟨d,V,b1,_,_,c1⟩:=J7 b9 ri;refine⟨Q,d,O,V,by rw[b1];exact ri.len.2,fun j v c J hc=>?_,fun x F=>by rw[h2]at F;injection F with F;subst F;rw[c1];exact ki⟩;rw[b1]at hc;exact ri.get j v c J hc
     obtain⟨b,R,a4⟩:=a
     have a0:a4=none:=by obtain⟨Q,d,O,_,_⟩:=X 0 h0;obtain⟨_,a6,E⟩:=World.cells?_some O;have g0:=E 0 r;obtain⟨c0,c3⟩:∃c0,Q[0]?=some c0:=⟨Q[0]'(by omega),aR _⟩;rw[c3]at g0;simpa [Addr.add]using World.cell?_spot g0
     subst a0
     have a2:∀i:Nat,∃d:D,i<len->qi K t d/\d.cells.length=q.length/\(∀(j:Nat) c,d.cells[j]?=some c->∃v,w.cell? ⟨b,R+(i*q.length+j),none⟩=some v/\bV w S v c)/\∀x,elems[i]?=some x->d.wt<=G7 x.1:=by
      intro i;by_cases p:i<len
      .obtain⟨Q,d,O,V,I,a5,b4⟩:=X i p;obtain⟨_,a6,E⟩:=World.cells?_some O;refine⟨d,fun _=>⟨V,I,fun j c hc=>?_,b4⟩⟩;have hj:j<q.length:=by rw[<-I];exact(aD.1 hc).1
       have g:=E j hj;rw[add_plain,add_plain]at g;have J:Q[j]?=some (Q[j]'(by omega)):=aR _;refine⟨_,?_,a5 j _ c J hc⟩;rw[<-fu,g,J]
      exact⟨.top,fun h=>absurd h p⟩
     have A:=fun i=>Classical.choose_spec (a2 i);generalize hD:(fun i=>Classical.choose (a2 i))=Y at*;have c4:∀i,Classical.choose (a2 i)=Y i:=fun i=>by rw[<-hD]
     simp only[c4]at A;refine⟨[.list ((List.range len).map Y)],.cons ?_ (tG.2 ⟨_,rfl,⟨by simp;omega,?_⟩,?_⟩) .nil,?_⟩
     .have a1:((List.range len).map Y).length=len:=by simp
      have b0:∀(i:Nat) d,((List.range len).map Y)[i]?=some d->i<len/\d=Y i:=by
       intro i d p;have C:i<len:=by rw[<-a1];exact(aD.1 p).1
       simp[C]at p;exact⟨C,p.symm⟩
      have:=bV.list (w:=w) (S:=S) b R cap q.length ((List.range (len*q.length)).map fun j=>(w.cell? ⟨b,R+j,none⟩).getD undef) ((List.range len).map Y) r
       (by intro h;have:=congrArg List.length h;simp at this;omega) (by rw[a1];exact hlc) (by simp)
       (fun i p=>hS b (R+i) (by rw[Y1];refine az _ (MemPlace.mem_row.2 ⟨i,?_,rfl⟩);simp at p;rw[b2,hle];exact ar p (aw _ (by omega))))
       (fun i v J=>by
        have p:i<len*q.length:=by have:=(aD.1 J).1;simpa using this
        simp[p]at J;have hq:i/q.length<len:=(Nat.div_lt_iff_lt_mul r).2 p;obtain⟨_,I,a3,_⟩:=A (i/q.length) hq;have hr:i % q.length<(Y (i/q.length)).cells.length:=by rw[I];exact Nat.mod_lt _ r
        obtain⟨u,U,_⟩:=a3 (i % q.length) _ (aR hr);have b7:i/q.length*q.length+i % q.length=i:=by rw[Nat.mul_comm];exact Nat.div_add_mod i q.length
        rw[b7]at U;rw[U]at J⊢;exact congrArg some J)
       (fun i d p=>by obtain⟨h1,rfl⟩:=b0 i d p;exact(A i h1).2.1)
       (fun i d j v c p hj J=>by
        obtain⟨h1,rfl⟩:=b0 i d p;obtain⟨_,I,a3,_⟩:=A i h1;obtain⟨u,U,b6⟩:=a3 j c hj;have c5:j<q.length:=by rw[<-I];exact(aD.1 hj).1
        have C:i*q.length+j<len*q.length:=by have:(i+1)*q.length<=len*q.length:=aw _ h1;rw[cq]at this;omega
        simp[C,U]at J;subst J;exact b6)
      rw[a1]at this;exact this
     .have h9:=W _ (aZ ..);rw[<-b3];simp only[aj,dW,hle]at h9⊢;rw[cq]at h9;omega
     .intro d V;obtain⟨i,p,rfl⟩:=bf.1 V;exact(A i (cz.1 p)).1
     rw[Y1];simp only[zf,D.wt,G7,aj,dW]
     have:=Oj (H:=H) (ds:=(List.range len).map Y) (xs:=elems.map (·.1)) (by simp[hle]) (fun i d x V F=>by
      have C:i<len:=by have:=(aD.1 V).1;simpa using this
      simp[C]at V;subst V;rw[ab,cQ]at F;obtain⟨y,hy,rfl⟩:=F;exact(A i C).2.2.2 y hy)
     omega
    cases h
   cases h
  .rename_i fs G;split at h
   .rename_i q N;split at h
    .rename_i c2;injection h with h;subst h;obtain⟨xs,Z,rfl,rfl,hl,L,hf⟩:=DataW.trod_struct G F
     have:=uQ (S:=S) (cs:=cs) (n:=n) (m:=Z) (enc:=enc) (base:=base) (spare:=spare) (held:=held) (fun T cs x ts=>vN n Z T cs x ts) fs.toList xs 0 q N (by omega) (by simpa using L) (fun i f p=>by
      rw[Array.getElem?_toList]at p;have M:=hf i f p;have B:i<xs.length:=by rw[L];exact(aI.1 p).1
      rw[aR B]at M;refine⟨_,aR B,M,fun b o hb=>hS b o (cU.2 ⟨_,aF B,hb⟩),fun z hz=>Vg z ?_⟩;simp only[DataW.weights,G];exact qU i (by simp[p]) (by simp[aR B]) hz)
     simpa [G7]using this
    cases h
   cases h
  .rename_i k e G;split at h
   .rename_i q N;split at h
    .rename_i c2;injection h with h;subst h;obtain⟨xs,Z,rfl,rfl,hl,L,hf⟩:=DataW.trod_array G F
     have b8:∀(i:Nat) f,(pY (P.cellsOf e) e k)[i]?=some f->i<k/\f.type=e/\f.offset=i*P.cellsOf e:=by intro i f p;unfold pY at p;rw[ab,cQ]at p;obtain⟨j,hj,rfl⟩:=p;obtain⟨a7,a8⟩:=aD.1 hj;rw[dW]at a7;rw[List.getElem_range]at a8;exact⟨a7,rfl,by rw[<-a8]⟩
     have:=uQ (S:=S) (cs:=cs) (n:=n) (m:=Z) (enc:=enc) (base:=base) (spare:=spare) (held:=held) (fun T cs x ts=>vN n Z T cs x ts) (pY (P.cellsOf e) e k) xs 0 q N (by omega) (by simp[pY,L]) (fun i f p=>by
      obtain⟨a9,e1,e2⟩:=b8 i f p;have M:=hf i a9;have B:i<xs.length:=by rw[L];exact a9
      rw[aR B]at M;rw[e1,e2];refine⟨_,aR B,M,fun b o hb=>hS b o (cU.2 ⟨_,aF B,hb⟩),fun z hz=>Vg z ?_⟩;simp only[DataW.weights,G];exact nW (bf.2 ⟨_,aF B,rfl⟩) hz)
     simpa [G7]using this
    cases h
   cases h
  cases h
end
def xj(P:Tba)(n:Nat):List Tbb->Tap (Tam)
 |[]=>some []
 |t::ts=>match Od P n t,xj P n ts with
  |some x,some xs=>some (x::xs)
  |_,_=>none
section
variable{K:Nat}{w:Tan}{S:bG}{H:Type}{enc:Tbb×Tao->H}{P:Tba}{base b0:Nat}{spare:Nat->Bool}{held:Bool}{r:Reach}
def EB{T:Tbb}{v:Tao}(a:Value.okWide P w r b0 T v)(b:iW P T=false):v.cells.toList=[v]:=by
 have:∀cs,v≠ .agg cs:=by
  rintro cs rfl;unfold Value.okWide at a;unfold iW at b;split at a
  .simp_all
  .simp_all
  unfold Cell.okWide at a;split at a<;>simp_all [Cell.ok]
 cases v<;>first|rfl|exact absurd rfl (this _)
def Iu{T:Tbb}{v:Tao}(a:Value.okWide P w r b0 T v)(c:iW P T=true):∃b:Tad,v=.agg b.toArray:=by
 unfold Value.okWide at a;unfold iW at c;split at a
 .obtain⟨b,rfl,_⟩:=a;exact⟨b.toList,rfl⟩
 .obtain⟨b,rfl,_⟩:=a;exact⟨b.toList,rfl⟩
 simp_all
def Sg{n:Nat}{T:Tbb}{v:Tao}{d:DataW H}{ps:List MemPlace}{ty:Ty}(e:Value.okWide P w r b0 T v)(s:DataW.Trod enc P w base spare held T v d ps)(a:Od P n T=some ty)(t:∀b o,MemPlace.cell b o∈ps->S b o)(g:∀z∈d.weights P T,z<=K):∃x:D,bV w S v x/\qi K ty x/\x.wt<=G7 d:=by
 unfold Od at a;rw[eu]at a;obtain⟨ts,h,q⟩:=a;obtain⟨m,l⟩:=s;obtain⟨i,f,p⟩:=vN n m T _ _ ts h l t g;obtain⟨x,k,_,A,y,u⟩:=J7 q f;refine⟨x,?_,k,by rw[u];exact p⟩;cases ha:iW P T with
 |true=>
  obtain⟨j,rfl⟩:=Iu e ha;rw[A ha];have c:R3 K w S j i ts:=f;exact .agg j i (by rw[c.len.1,c.len.2]) c.get
 |false=>
  rw[EB e ha,y ha]at f;exact f.get 0 v x rfl rfl
def Gc{n:Nat}:∀{ts:List Tbb} {vs:Tad} {ds:List (DataW H)} {ps:List MemPlace} {c:Tam},(∀(j:Nat) t v,ts[j]?=some t->vs[j]?=some v->Value.okWide P w r b0 t v)->
  DataW.TrodAll enc P w base spare held ts vs ds ps->xj P n ts=some c->(∀b o,MemPlace.cell b o∈ps->S b o)->(∀z∈DataW.weightsEach P ts ds,z<=K)->∃g:Tah,R3 K w S vs g c/\zf g<=BT ds
 |[],[],[],ps,c,_,_,f,_,_=>by simp only[xj,aa]at f;subst f;exact⟨[],.nil,aB _⟩
 |t::ts,v::vs,d::ds,ps,c,EV,⟨p,q,u,s,e⟩,f,hS,Vg=>by
  unfold DataW.weightsEach at Vg;simp only[xj]at f;split at f
  .rename_i x g A k;injection f with f;subst f;obtain⟨a,E,l,C⟩:=Sg (EV 0 t v rfl rfl) u A (fun b o m=>hS b o (by rw[e];exact az _ m)) (fun z i=>Vg z (az _ i));obtain⟨y,has,B⟩:=Gc (fun j t v u s=>EV (j+1) t v (by simpa using u) (by simpa using s)) s k (fun b o m=>hS b o (by rw[e];exact bA _ m)) (fun z i=>Vg z (bA _ i));exact⟨a::y,.cons E l has,by simp only[zf,BT];omega⟩
  cases f
 |[],_::_,_,_,_,_,h,_,_,_|[],[],_::_,_,_,_,h,_,_,_|_::_,[],_,_,_,_,h,_,_,_|_::_,_::_,[],_,_,_,h,_,_,_=>h.elim
def ua(c:laidOutB P=true){W g:Tan}(f:Below W.heap.size W g):∀{ts:List Tbb} {vs:Tad} {ds:List (DataW H)} {ps:List MemPlace},(ts.all fun t=>P.readableRec t&&decide (t<P.types.size))=true->
  DataW.TrodAll enc P W 0 (fun _=>true) true ts vs ds ps->(∀x∈ps,x.block<W.heap.size)->DataW.TrodAll enc P g 0 (fun b=>decide (b<W.heap.size)) true ts vs ds ps
 |[],[],[],_,_,h,_=>h
 |t::ts,v::vs,d::ds,ps,hr,⟨p,q,h1,h2,e⟩,P8=>by
  rw[List.all_cons,aP,aP,bg]at hr
  exact⟨p,q,Below.trod c hr.1.1 hr.1.2 h1 f (fun x a=>P8 x (by rw[e];exact az _ a)),
   ua c f hr.2 h2 (fun x a=>P8 x (by rw[e];exact bA _ a)),e⟩
 |[],_::_,_,_,_,h,_|[],[],_::_,_,_,h,_|_::_,[],_,_,_,h,_|_::_,_::_,[],_,_,h,_=>h.elim
def EF{f:Nat}{fn:Func}{g:dI}{s:ChangeSpec}{i:Bool}{W:Tan}{args:Tbe Tao}{ds M:List (DataW H)}{l:List MemPlace}{tb:Tbb}{Pre:Tah->Prop}{Φ:Tah->D}(n:Nat)(hp:bn P f g Pre Φ)(hl:laidOutB P=true)(u:(fn.params.toList.all fun t=>P.readableRec t&&decide (t<P.types.size))=true)(R:xj P n fn.params.toList=some g.params)(F:g.res=[(false,[(.bool,none)])])(U:fn.resultTypes=#[tb])(T:P.underlying tb=some .bool)(d:s.vars=[])(a0:s.fn H ds={results:=[.lit (.bool true)],args:=ds})(C:∀(j:Nat) t v,fn.params[j]?=some t->args[j]?=some v->Value.okWide P W r b0 t v)(hW:DataW.Whole enc P fn.params.toList s.vars i W args.toList ds M l)(B:(DataW.weightsEach P (fn.params.toList++s.plain.varTypes P) (ds++M)).all (· <=reachBytes)=true)(I:∀m,pM reachBytes (.Y g.params) m->zf m<=BT (ds++M)->Pre m/\Φ m=.bool true)(Y:g.ob=none:=by rfl):
  Calls P f args W fun e W'=>∃v,e=.returned v/\s.post enc P fn i true false false W args v W':=by
 have J:=hW.lt;have a1:=hW;obtain⟨p,q,hA,hV,rfl,_,_⟩:=hW;rw[d]at hV
 obtain⟨rfl,rfl⟩:M=[]/\q=[]:=by
  cases M with
  |nil=>exact⟨rfl,hV⟩
  |cons a b=>exact hV.elim
 have Q:s.plain.varTypes P=[]:=by simp[ChangeSpec.plain,DataSpec.varTypes,d]
 rw[Q,aX,aX]at B
 have A:∀z∈DataW.weightsEach P fn.params.toList ds,z<=reachBytes:=fun z hz=>by simpa using bU.1 B z hz
 have h8:reachBytes<=140737488355328:=by decide
 obtain⟨m,G,Z⟩:=Gc (S:=fun b o=>MemPlace.cell b o∈p) (fun j t v h1 h2=>C j t v (by simpa using h1) (by simpa using h2)) hA R (fun _ _ h=>h) A;obtain⟨X,V⟩:=I m G.has (by rw[aX];exact Z);have hc:=hp.calls Y W (fun b o=>MemPlace.cell b o∈p) args.toList m (fun b o O=>J (.cell b o) (az _ O)) (by rw[G.len.1,G.len.2]) G.get ((ni h8 _).2 _ G.has) X;refine hc.mono fun e W' h=>?_;obtain⟨v,S',τ,rfl,O,_,_,_,E,_⟩:=h;rw[F]at E;rcases E with⟨x,N,hco⟩|⟨uf,_⟩
 .simp only[dD,and_true]at N;subst N;obtain⟨c,L,k⟩:=hco;simp only[dD,and_true]at L;subst L;obtain⟨k,_⟩:=k;rw[V]at k;have hv:=k.gV;subst hv;have y:(s.fn H (ds++[]))={results:=[.lit (.bool true)],args:=ds}:=by rw[aX,a0]
  refine⟨_,rfl,ds,[],_,[],p,[],a1,?_,?_,?_,O.frame _,fun h=>by cases h⟩
  .rw[y,U];exact⟨[],[],⟨1,by simp[DataW.trod,Value.cells,T]⟩,rfl,rfl⟩
  .rw[y];exact ua hl O u hA (fun x N=>J x (az _ N))
  rw[y,d];rfl
 exact absurd rfl uf
def Lo{f:Nat}{fn:Func}{a:dI}{s:ChangeSpec}{b:Bool}{W:Tan}{args:Tbe Tao}{ds z:List (DataW H)}{c:List MemPlace}{tb:Tbb}{Pre:Tah->Prop}{Φ:Tah->D}(n:Nat)(A:bn P f a Pre Φ)(B:laidOutB P=true)(g:(fn.params.toList.all fun t=>P.readableRec t&&decide (t<P.types.size))=true)(p:xj P n fn.params.toList=some a.params)(l:a.res=[(false,[(.bool,none)])])(u:fn.resultTypes=#[tb])(q:P.underlying tb=some .bool)(d:s.vars=[])(y:s.fn H ds={results:=[.lit (.bool true)],args:=ds})(k:∀(j:Nat) t v,fn.params[j]?=some t->args[j]?=some v->Value.okWide P W r b0 t v)(C:DataW.Whole enc P fn.params.toList s.vars b W args.toList ds z c)(o:(DataW.weightsEach P (fn.params.toList++s.plain.varTypes P) (ds++z)).all (· <=reachBytes)=true)(m:∀i,pM reachBytes (.Y a.params) i->Pre i/\Φ i=.bool true)(x:a.ob=none:=by rfl):
  Calls P f args W fun e W'=>∃v,e=.returned v/\s.post enc P fn b true false false W args v W':=
 EF n A B g p l u q d y k C o (fun i h _=>m i h) x
end
end Go.dG
namespace Go.dG
open Go Go.RowKit
def uq.rep{w:Tan}{S:bG}{T:Tbb}{t:Ty}{v:Tao}{d:D}(h:uq false w 0 S T t v d):bV w S v d:=by have:=uq.ok (C:=⟨fun _=>d,1,fun _=>True⟩) (G:=⟨S,fun _=>0,fun _=>v⟩) (g:=(0,0)) (e:=.var 0) h trivial rfl rfl rfl rfl;exact this.rep h.sz
section
variable{Φ:Tab}{Pre:Taa}{R:D->Prop}{ρ:Nat->D}{kv:List (Tah->Prop)}
def fg{p:Nat}{t:Ty}{k:VC}:(VC.any p t k).holds Φ Pre R ρ kv=∀d,Has t d->k.holds Φ Pre R (fy ρ p d) kv:=rfl
def ff{p:Nat}{a:List (E×E)}{k:VC}:(VC.YN p a k).holds Φ Pre R ρ kv=∀d,(∀x∈a,(den (fy ρ p d) x.1).V.length=(den (fy ρ p d) x.2).V.length)->k.holds Φ Pre R (fy ρ p d) kv:=rfl
end
def cA(fn:Func):Code:=match fn.body with
 |some c=>c
 |none=>.skip
end Go.dG
