/- Part 8 of the proof of RaftLearns; no condition. -/
import Derived.Test.YtjhmkaninmgilaaS07
import Derived.Test.YtjhmkaninmgilaaS03
set_option linter.defProp false
set_option linter.unusedVariables false
set_option linter.unusedSimpArgs false
set_option maxHeartbeats 4000000
namespace Go.dF
open Go Go.RowKit
abbrev Ow:=Nat->Tak
structure Wf(w:Tam)(S:bE)(ow:Ow):Prop where
 s:∀b o,S b o->b<w.heap.size
 o:∀b l,ow b=some l->b<w.heap.size
 d:∀b o l,S b o->ow b=some l->1000<=l
structure bD(L X:Tai)(w:Tam)(S:bE)(ow:Ow)(w':Tam)(S':bE)(bT:Ow):Prop where
 size:w.heap.size<=w'.heap.size
 os:w'.os=w.os
 tape:w'.tape=w.tape
 output:w'.output=w.output
 GY:∀b l,b<w.heap.size->ow b=some l->¬L l->w'.heap[b]?=w.heap[b]?
 free:∀b,b<w.heap.size->ow b=none->¬X b->w'.heap[b]?=w.heap[b]?
 jG:∀b o,S b o->S' b o
 cell:∀b o,S b o->w'.cell? ⟨b,o,none⟩=w.cell? ⟨b,o,none⟩
 keep:∀b l,ow b=some l->¬L l->bT b=some l
 new:∀b o,S' b o->S b o\/w.heap.size<=b\/∃l,ow b=some l/\L l
 um:∀b,b<w.heap.size->ow b=none->bT b=none
 iw:∀b l,bT b=some l->ow b=some l\/L l
def iI(l:Nat)(x:Nat):Prop:=x=l
def cu{l x:Nat}(h:¬x=l:=by omega):¬iI l x:=h
section
variable{L L' X X':Tai}{w w' GP:Tam}{S S' Mt:bE}{ow bT zj:Ow}
def bD.refl(L X:Tai)(w:Tam)(S:bE)(ow:Ow):bD L X w S ow w S ow:=
 ⟨aU _,rfl,rfl,rfl,fun _ _ _ _ _=>rfl,fun _ _ _ _=>rfl,fun _ _ h=>h,fun _ _ _=>rfl,fun _ _ h _=>h,fun _ _ h=>.inl h,fun _ _ h=>h,fun _ _ h=>.inl h⟩
def bD.O{w a:Tam}(h:vm w a)(L X:Tai)(S:bE)(ow:Ow):bD L X w S ow a S ow:=
 ⟨by rw[h.heap];exact aU _,h.os,h.tape,h.output,fun _ _ _ _ _=>by rw[h.heap],fun _ _ _ _=>by rw[h.heap],fun _ _ h=>h,fun _ _ _=>h.cell _,fun _ _ h _=>h,fun _ _ h=>.inl h,fun _ _ h=>h,fun _ _ h=>.inl h⟩
def bD.trans(t:Wf w S ow)(p:Wf w' S' bT)(h:bD L X w S ow w' S' bT)(k:bD L' X' w' S' bT GP Mt zj)(r:∀b,X' b->X b\/w.heap.size<=b)(q:∀b l,b<w.heap.size->bT b=some l->L l\/L' l->∃j,ow b=some j/\(L j\/L' j)):
  bD (fun l=>L l\/L' l) X w S ow GP Mt zj:=by
 refine⟨aY h.size k.size,k.os.trans h.os,k.tape.trans h.tape,k.output.trans h.output,?_,?_,fun b o i=>k.jG b o (h.jG b o i),fun b o i=>(k.cell b o (h.jG b o i)).trans (h.cell b o i),?_,?_,?_,fun b l f=>(k.iw b l f).elim (fun a=>(h.iw b l a).imp id .inl) (fun a=>.inr (.inr a))⟩
 .intro b l d e f;exact(k.GY b l (az d h.size) (h.keep b l e (fun c=>f (.inl c))) (fun c=>f (.inr c))).trans (h.GY b l d e (fun c=>f (.inl c)))
 .intro b d e n;refine(k.free b (az d h.size) (h.um b d e) (fun c=>?_)).trans (h.free b d e n);rcases r b c with a|a
  .exact n a
  omega
 .intro b l e f;exact k.keep b l (h.keep b l e (fun c=>f (.inl c))) (fun c=>f (.inr c))
 .intro b o i;rcases k.new b o i with a|a|⟨l,a,g⟩
  .rcases h.new b o a with g|g|⟨l,g,m⟩
   .exact .inl g
   .exact .inr (.inl g)
   exact .inr (.inr ⟨l,g,.inl m⟩)
  .exact .inr (.inl (aY h.size a))
  by_cases d:b<w.heap.size
  .obtain⟨j,m,s⟩:=q b l d a (.inr g);exact .inr (.inr ⟨j,m,s⟩)
  exact .inr (.inl (by omega))
 intro b d e;exact k.um b (az d h.size) (h.um b d e)
def bD.mono(h:bD L X w S ow w' S' bT)(e:∀l,L l->L' l)(j:∀b,X b->X' b):bD L' X' w S ow w' S' bT:=
 ⟨h.size,h.os,h.tape,h.output,fun b l f a c=>h.GY b l f a (fun d=>c (e l d)),fun b f a g=>h.free b f a (fun d=>g (j b d)),h.jG,h.cell,fun b l a c=>h.keep b l a (fun d=>c (e l d)),fun b o i=>(h.new b o i).imp id (fun n=>n.imp id fun⟨l,m,k⟩=>⟨l,m,e l k⟩),h.um,fun b l c=>(h.iw b l c).imp id (e l)⟩
def cg.J{v:Tan}{d:D}(h:cg w S v d)(a:bD L X w S ow w' S' bT):cg w' S' v d:=h.keep a.jG a.cell
structure dB(w:Tam)(S:bE)(ow:Ow)(l:Nat)(T:Tba)(t:Ty)(v:Tan)(xs:Taf):Prop where
 has:Has (.list t) (.list xs)
 sz:0<t.cells.length
 iw:∀b,v.ownBlock=some b->ow b=some l
 ll:l<1000
 own:∃vs,w.ownsRow 0 T t.cells.length v xs.length vs/\∀(i:Nat) d (j:Nat) u c,xs[i]?=some d->d.cells[j]?=some c->vs[i*t.cells.length+j]?=some u->cg w S u c
def ra{T:Tba}{sz n:Nat}{v:Tan}{vs:Tac}(h:w.ownsRow 0 T sz v n vs)(f:∀b,v.ownBlock=some b->w'.heap[b]?=w.heap[b]?):w'.ownsRow 0 T sz v n vs:=by
 refine⟨h.1,?_⟩;rcases h.2 with d|⟨g,c,a,rfl,m,e,l,k,j,i⟩
 .exact .inl d
 exact .inr ⟨g,c,a,rfl,m,(f g rfl).trans e,l,k,j,i⟩
def dB.J{l:Nat}{T:Tba}{t:Ty}{v:Tan}{xs:Taf}(h:dB w S ow l T t v xs)(k:Wf w S ow)(e:bD L X w S ow w' S' bT)(f:¬L l):dB w' S' bT l T t v xs:=by obtain⟨g,n,m⟩:=h.own;exact⟨h.has,h.sz,fun b a=>e.keep b l (h.iw b a) f,h.ll,g,ra n (fun b a=>e.GY b l (k.o b l (h.iw b a)) (h.iw b a) f),fun i d j u c r q p=>(m i d j u c r q p).J e⟩
def dB.nil{l:Nat}{T:Tba}{t:Ty}(a:0<t.cells.length)(e:l<1000):dB w S ow l T t (.slice none 0 0) []:=
 ⟨⟨[],rfl,gM t,fun _ h=>(by cases h)⟩,a,fun b f=>(by cases f),e,[],fJ _ _ _ _,fun i d j u c h=>(by simp at h)⟩
def dB.slice{l:Nat}{T:Tba}{t:Ty}{v:Tan}{xs:Taf}(h:dB w S ow l T t v xs):∃A cap,v=.slice A xs.length cap:=by
 obtain⟨b,a,_⟩:=h.own;rcases a.2 with⟨rfl,hn⟩|⟨g,cap,cur,rfl,_⟩
 .exact⟨none,0,by rw[hn]⟩
 exact⟨_,cap,rfl⟩
def dB.len{l:Nat}{T:Tba}{t:Ty}{v:Tan}{xs:Taf}(h:dB w S ow l T t v xs):nh t xs.length:=by obtain⟨c,a,b,_⟩:=bO.1 h.has;injection a with a;subst a;exact b
def dB.all{l:Nat}{T:Tba}{t:Ty}{v:Tan}{xs:Taf}(h:dB w S ow l T t v xs):∀x∈xs,Has t x:=by obtain⟨c,a,_,b⟩:=bO.1 h.has;injection a with a;subst a;exact b
def dB.elem{l:Nat}{T:Tba}{t:Ty}{v:Tan}{xs:Taf}(h:dB w S ow l T t v xs){i:Nat}{d:D}(hi:xs[i]?=some d):
  ∃(b e:Nat) (us:Tac),v=.slice (some ⟨b,0,none⟩) xs.length e/\b<w.heap.size/\ow b=some l/\us.length=t.cells.length/\(∀(j:Nat) u,us[j]?=some u->w.cell? ⟨b,i*t.cells.length+j,none⟩=some u)/\
   ∀(j:Nat) u c,us[j]?=some u->d.cells[j]?=some c->cg w S u c:=by
 obtain⟨n,m,q⟩:=h.own;have k:i<xs.length:=(aO.1 hi).1;rcases m.2 with⟨rfl,hn⟩|⟨g,e,cur,rfl,_,hg,rN,U1,GW,PZ⟩
 .omega
 have f:(i+1)*t.cells.length<=xs.length*t.cells.length:=aw _ k;rw[cn,Nat.one_mul]at f;have o:n.length=xs.length*t.cells.length:=m.1;refine⟨g,e,(n.drop (i*t.cells.length)).take t.cells.length,rfl,(aP.1 hg).1,h.iw g rfl,by rw[aA,ba];omega,?_,?_⟩
 .intro j u a;rw[aq]at a;split at a
  .rw[aD]at a;have:=m.cells (g:=g) rfl _ _ a;rw[fT,av]at this;exact this
  cases a
 intro j u c a p;rw[aq]at a;split at a
 .rw[aD]at a;exact q i d j u c hi p a
 cases a
def dB.freeze{l:Nat}{T:Tba}{t:Ty}{v:Tan}{xs:Taf}(h:dB w S ow l T t v xs)(p:Wf w S ow):
  ∃S' bT,bD (iI l) aB w S ow w S' bT/\Wf w S' bT/\cg w S' v (.list xs)/\(∀b,bT b≠some l):=by
 obtain⟨r,z,E⟩:=h.own;refine⟨fun b o=>S b o\/(v.ownBlock=some b/\o<r.length),fun b=>if ow b=some l then none else ow b,?_,?_,?_,?_⟩
 .refine⟨aU _,rfl,rfl,rfl,fun _ _ _ _ _=>rfl,fun _ _ _ _=>rfl,fun _ _ h=>.inl h,fun _ _ _=>rfl,?_,?_,?_,fun b k n=>(by
   split at n
   .cases n
   exact .inl n)⟩
  .intro b k f n;rw[if_neg (by rw[f];intro e;injection e with e;exact n e)];exact f
  .intro b o a;rcases a with a|⟨a,_⟩
   .exact .inl a
   exact .inr (.inr ⟨l,h.iw b a,rfl⟩)
  intro b _ f;simp[f]
 .refine⟨?_,?_,?_⟩
  .intro b o a;rcases a with a|⟨a,_⟩
   .exact p.s b o a
   exact p.o b l (h.iw b a)
  .intro b k f;split at f
   .cases f
   exact p.o b k f
  intro b o k a f;split at f
  .cases f
  rcases a with a|⟨a,_⟩
  .exact p.d b o k a f
  exact absurd (h.iw b a) (by assumption)
 .have B:∀u c,cg w S u c->cg w (fun b o=>S b o\/(v.ownBlock=some b/\o<r.length)) u c:=fun u c A=>A.keep (fun _ _ h=>.inl h) (fun _ _ _=>rfl);rcases z.2 with⟨rfl,hn⟩|⟨g,cap,cur,rfl,_,hg,rN,U1,GW,PZ⟩
  .have:xs=[]:=au hn;subst this;exact .nil _ _
  by_cases m:xs=[]
  .subst m;exact .nil _ _
  refine .list g 0 cap t.cells.length r xs h.sz m rN z.1 (fun i F=>.inr ⟨rfl,by omega⟩) ?_ ?_ ?_
  .intro i u x;have:=z.cells (g:=g) rfl i u x;rw[fT,av]at this;rw[av];exact this
  .intro i d y;exact(cB (h.all d (bQ y))).1
  intro i d j u c y C x;exact B u c (E i d j u c y C x)
 intro b q;simp only at q;split at q
 .cases q
 exact absurd q (by assumption)
def dB.grow{l:Nat}{T:Tba}{t:Ty}{v v':Tan}{xs ys:Taf}{news:Tac}(h:dB w S ow l T t v xs)(B:Wf w S ow)(N:∀y∈ys,Has t y)(K:nh t (xs++ys).length)(Y:news.length=ys.length*t.cells.length)(O:∀(i:Nat) d (j:Nat) u c,ys[i]?=some d->d.cells[j]?=some c->news[i*t.cells.length+j]?=some u->cg w S u c)(J:∀F,w.ownsRow 0 T t.cells.length v xs.length F->w'.ownsRow 0 T t.cells.length v' (xs.length+ys.length) (F++news)/\((v'.ownBlock=v.ownBlock/\w.grownBy w' v.ownBlock)\/(v'.ownBlock=some w.heap.size/\w.grownBy w' none))):
  ∃bT,bD (iI l) aB w S ow w' S bT/\Wf w' S bT/\dB w' S bT l T t v' (xs++ys)/\∀b,bT b=some l->(v'.ownBlock=some b\/ow b=some l):=by
 obtain⟨F,V,Z⟩:=h.own;obtain⟨r,a⟩:=J F V
 have m:w'.os=w.os/\w'.tape=w.tape/\w'.output=w.output/\w.heap.size<=w'.heap.size:=by rcases a with⟨_,hg⟩|⟨_,hg⟩<;>exact⟨hg.os,hg.tape,hg.output,hg.size⟩
 have n:∀b,b<w.heap.size->v.ownBlock≠some b->w'.heap[b]?=w.heap[b]? :=by
  intro b k P;rcases a with⟨_,hg⟩|⟨_,hg⟩
  .exact hg.block b k (fun e=>P e.symm)
  exact hg.block b k (by simp)
 have I:∀b,v.ownBlock=some b->∀o,¬S b o:=fun b k o p=>by have:=B.d b o l p (h.iw b k);have:=h.ll;omega
 have E:∀b o,S b o->w'.cell? ⟨b,o,none⟩=w.cell? ⟨b,o,none⟩:=fun b o p=>bn (n b (B.s b o p) (fun k=>I b k o p))
 have C:bD (iI l) aB w S ow w' S (fun b=>if v'.ownBlock=some b then some l else ow b):=by
  refine⟨m.2.2.2,m.1,m.2.1,m.2.2.1,?_,?_,fun _ _ h=>h,E,?_,fun _ _ h=>.inl h,?_,fun b A q=>(by
   split at q
   .injection q with q;exact .inr q.symm
   exact .inl q)⟩
  .intro b A k g q;exact n b k (fun f=>q (by have:=(h.iw b f).symm.trans g;injection this with this;exact this.symm))
  .intro b k g _;exact n b k (fun f=>by rw[h.iw b f]at g;cases g)
  .intro b A g q;rw[if_neg ?_]
   .exact g
   intro f;rcases a with⟨he,_⟩|⟨he,_⟩
   .have:=(h.iw b (he▸f)).symm.trans g;injection this with this;exact q this.symm
   rw[he]at f;injection f with f;have:=B.o b A g;omega
  intro b k g;rw[if_neg ?_]
  .exact g
  intro f;rcases a with⟨he,_⟩|⟨he,_⟩
  .rw[h.iw b (he▸f)]at g;cases g
  rw[he]at f;injection f with f;omega
 refine⟨_,C,⟨fun b o p=>az (B.s b o p) m.2.2.2,?_,?_⟩,⟨?_,h.sz,fun b k=>by simp[k],h.ll,F++news,by rw[ai];exact r,?_⟩,?_⟩
 .intro b A g;split at g
  .rename_i f;exact(r.lt b f).2
  exact az (B.o b A g) m.2.2.2
 .intro b o A p g;split at g
  .rename_i f;rcases a with⟨he,_⟩|⟨he,_⟩
   .exact absurd p (I b (he▸f) o)
   rw[he]at f;injection f with f;have:=B.s b o p;omega
  exact B.d b o A p g
 .refine⟨xs++ys,rfl,K,fun x H=>?_⟩;rcases aM.1 H with H|H
  .exact h.all x H
  exact N x H
 .intro i d j u c G U M;have W:F.length=xs.length*t.cells.length:=V.1;by_cases Q:i<xs.length
  .have R:d.cells.length=t.cells.length:=by rw[an Q]at G;exact(cB (h.all d (bQ G))).1
   have hj:j<t.cells.length:=by rw[<-R];exact(aO.1 U).1
   have z:(i+1)*t.cells.length<=xs.length*t.cells.length:=aw _ Q;rw[cn,Nat.one_mul]at z;rw[an Q]at G;rw[an (by omega)]at M;exact(Z i d j u c G U M).J C
  rw[aL (by omega)]at G;have z:xs.length*t.cells.length<=i*t.cells.length:=aw _ (by omega);rw[aL (by omega)]at M;refine(O (i-xs.length) d j u c G U ?_).J C;rw[<-M];congr 1;rw[Nat.sub_mul];omega
 intro b k;split at k
 .rename_i f;exact .inl f
 exact .inr k
end
def NU(P:Tap)(tt T:Tba)(t:Ty):Bool:=match P.underlying tt with
 |some (.slice e)=>e==T&&(match P.info? T with
  |some ie=>ie.size==t.cells.length&&ie.bytes==t.bytes&&(match ie.zero with
   |some z=>z.cells.size==t.cells.length
   |none=>false)
  |none=>false)
 |_=>false
section
variable{L L' X X':Tai}{w w' GP:Tam}{S S' Mt:bE}{ow bT zj:Ow}{P:Tap}
def dB.mq{l:Nat}{tt T:Tba}{t:Ty}{v:Tan}{xs ys:Taf}(h:dB w S ow l T t v xs)(a:NU P tt T t=true)(M:t.cells.all Ty.scalar=true)(hw:Wf w S ow)(ty:Tba)(A:Tao Addr)(c:Nat)(news:Tac)(hA:A=none->ys.length=0)(n:news.length=ys.length*t.cells.length)(o:∀ad,A=some ad->∀(j:Nat) u,news[j]?=some u->w.cell? (ad.add j)=some u)(s:∀y∈ys,Has t y)(F:∀(i:Nat) d (j:Nat) u c,ys[i]?=some d->d.cells[j]?=some c->news[i*t.cells.length+j]?=some u->cg w S u c)(k:nh t (xs.length+ys.length)):
  ∃r w',(Builtin.append_ #[tt,tt] ty #[v,.slice A ys.length c]).run P w=.ok r w'/\∃bT,bD (iI l) aB w S ow w' S bT/\Wf w' S bT/\dB w' S bT l T t r (xs++ys):=by
 unfold NU at a;split at a
 .rename_i e hu;rw[aT,beq_iff_eq]at a;obtain⟨rfl,a⟩:=a;split at a
  .rename_i ie R;simp only[aT,beq_iff_eq]at a;obtain⟨⟨h1,h2⟩,H⟩:=a;split at H
   .rename_i z hz;rw[beq_iff_eq]at H;have B:=h.sz
    have E:∀u∈news,u.oneCell'=true:=by
     intro uu J;obtain⟨q,V⟩:=aE J;have O:q<news.length:=(aO.1 V).1;have W:q/t.cells.length<ys.length:=by rw[Nat.div_lt_iff_lt_mul B,<-n];exact O
     have Q:q % t.cells.length<t.cells.length:=Nat.mod_lt _ B;have Y:ys[q/t.cells.length]?=some (ys[q/t.cells.length]'W):=aS W;have K:t.cells[q % t.cells.length]?=some (t.cells[q % t.cells.length]'Q):=aS Q;obtain⟨cc,U,G⟩:=(cB (s _ (bQ Y))).2 _ _ K;have N:q/t.cells.length*t.cells.length+q % t.cells.length=q:=by rw[Nat.mul_comm];exact Nat.div_add_mod _ _
     exact(F _ _ _ uu cc Y U (by rw[N];exact V)).iE G (bY.1 M _ (aN Q))
    obtain⟨vs,f,_⟩:=h.own;obtain⟨r,w',C,ho,p⟩:=kf (P:=P) w 0 tt ty e ie z t.cells.length hu R hz h1 H v xs.length vs f A ys.length c news hA n o E k.1 (by rw[h2];exact k.2) (aF _)
    obtain⟨bT,a1,a2,a3,_⟩:=h.grow hw s (by rw[ai];exact k) n F (w':=w') (v':=r) (fun I x=>by
     have:I=vs:=by
      rcases f.2 with⟨rfl,hn⟩|⟨g,cap,cur,rfl,_,hg,_,_,_,ht⟩
      .have e1:=f.1;have Z:=x.1;rw[hn,Nat.zero_mul]at e1 Z;rw[au e1,au Z]
      rcases x.2 with⟨hh,_⟩|⟨g2,agm,agj,hh,_,b,_,_,_,UY⟩
      .cases hh
      injection hh with m _ _;injection m with m;injection m with m _;subst m;rw[hg]at b;injection b with b;injection b with b;subst b;exact UY.symm.trans ht
     subst this;exact⟨ho,p⟩)
    exact⟨r,w',C,bT,a1,a2,a3⟩
   cases H
  cases a
 cases a
def ic{dst:Tak}{tt ty:Tba}{pos:String}{af:Tbd Edge}{gd:Tao (Nat×Bool)}{a:Act}{x y:Tbb}{v u v':Tan}(c:a.eval x=v)(b:a.eval y=u)(h:(Builtin.append_ #[tt,tt] ty #[v,u]).run P w=.ok v' w'):
  (execOp a.eval ⟨dst,.call {callee:=.builtin .append,args:=#[x,y],argTypes:=#[tt,tt]},ty,pos,af,gd⟩).run P w=.ok (.value v') w':=by unfold execOp;simp only[resolve,invoke,builtin];simp[c,b,h]
def bD.alloc(a:Wf w S ow)(o:Obj):bD aB aB w S ow (w.alloc o) S ow/\Wf (w.alloc o) S ow:=
 ⟨⟨by simp,rfl,rfl,rfl,fun b _ f _ _=>Below.heap_alloc w o _ f,fun b f _ _=>Below.heap_alloc w o _ f,fun _ _ h=>h,fun b c e=>bn (Below.heap_alloc w o _ (a.s b c e)),fun _ _ h _=>h,fun _ _ h=>.inl h,fun _ _ h=>h,fun _ _ h=>.inl h⟩,
  ⟨fun b c e=>az (a.s b c e) (by simp),fun b l g=>az (a.o b l g) (by simp),a.d⟩⟩
structure fF(w:Tam)(S:bE)(ow:Ow)(b:Nat)(T:Tba)(vs:Tac):Prop where
 heap:w.heap[b]?=some (.cells vs.toArray T (0,0))
 ow:ow b=none
 s:∀o,¬S b o
def fF.new(a:Wf w S ow)(T:Tba)(vs:Tac):fF (w.alloc (.cells vs.toArray T)) S ow w.heap.size T vs:=
 ⟨heap_alloc_new w _,by cases h:ow w.heap.size with|none=>rfl|some l=>have:=a.o _ _ h;omega,fun o b=>by have:=a.s _ _ b;omega⟩
def fF.lt{b:Nat}{T:Tba}{vs:Tac}(h:fF w S ow b T vs):b<w.heap.size:=(aP.1 h.heap).1
def fF.J{b:Nat}{T:Tba}{vs:Tac}(h:fF w S ow b T vs)(c:bD L X w S ow w' S' bT)(d:¬X b):fF w' S' bT b T vs:=by
 refine⟨(c.free b h.lt h.ow d).trans h.heap,c.um b h.lt h.ow,fun o e=>?_⟩;rcases c.new b o e with a|a|⟨l,a,_⟩
 .exact h.s o a
 .have:=h.lt;omega
 rw[h.ow]at a;cases a
def fF.set{b:Nat}{T:Tba}{vs us:Tac}(h:fF w S ow b T vs)(c:Wf w S ow):bD aB (iI b) w S ow (w.setRow b us.toArray) S ow/\Wf (w.setRow b us.toArray) S ow/\fF (w.setRow b us.toArray) S ow b T us:=by have g:∀k,k≠b->(w.setRow b us.toArray).heap[k]?=w.heap[k]? :=fun k i=>setRow_other w _ k _ i;refine⟨⟨by simp,rfl,rfl,rfl,fun k l i a _=>g k (fun e=>by rw[e,h.ow]at a;cases a),fun k i _ j=>g k j,fun _ _ h=>h,fun k o f=>bn (g k (fun e=>h.s o (e▸f))),fun _ _ h _=>h,fun _ _ h=>.inl h,fun _ _ h=>h,fun _ _ h=>.inl h⟩,⟨fun k o f=>by simpa using c.s k o f,fun k l a=>by simpa using c.o k l a,c.d⟩,⟨?_,h.ow,h.s⟩⟩;exact setRow_heap w b _ _ T (0,0) h.heap
structure uG(w:Tam)(ow:Ow)(l b:Nat)(T:Tba)(vs:Tac):Prop where
 heap:w.heap[b]?=some (.cells vs.toArray T (0,0))
 ow:ow b=some l
 ll:l<1000
def uG.lt{l b:Nat}{T:Tba}{vs:Tac}(h:uG w ow l b T vs):b<w.heap.size:=(aP.1 h.heap).1
def uG.J{l b:Nat}{T:Tba}{vs:Tac}(h:uG w ow l b T vs)(a:bD L X w S ow w' S' bT)(c:¬L l):uG w' bT l b T vs:=⟨(a.GY b l h.lt h.ow c).trans h.heap,a.keep b l h.ow c,h.ll⟩
def uG.set{l b:Nat}{T:Tba}{vs us:Tac}(h:uG w ow l b T vs)(c:Wf w S ow):bD (iI l) aB w S ow (w.setRow b us.toArray) S ow/\Wf (w.setRow b us.toArray) S ow/\uG (w.setRow b us.toArray) ow l b T us:=by have i:∀k,k≠b->(w.setRow b us.toArray).heap[k]?=w.heap[k]? :=fun k j=>setRow_other w _ k _ j;refine⟨⟨by simp,rfl,rfl,rfl,fun k n j a f=>i k (fun e=>f (by rw[e,h.ow]at a;injection a with a;exact a.symm)),fun k j f _=>i k (fun e=>by rw[e,h.ow]at f;cases f),fun _ _ h=>h,fun k o g=>bn (i k (fun e=>by subst e;have:=c.d _ _ _ g h.ow;have:=h.ll;omega)),fun _ _ h _=>h,fun _ _ h=>.inl h,fun _ _ h=>h,fun _ _ h=>.inl h⟩,⟨fun k o g=>by simpa using c.s k o g,fun k l m=>by simpa using c.o k l m,c.d⟩,⟨?_,h.ow,h.ll⟩⟩;exact setRow_heap w b _ _ T (0,0) h.heap
def ja{b j:Nat}{T:Tba}{vs:Tac}{v:Tan}(h:w.heap[b]?=some (.cells vs.toArray T (0,0)))(a:vs[j]?=some v):w.cell? ⟨b,j,none⟩=some v:=by rw[cell_of_row w b j _ T (0,0) h];simpa using a
def dB.set{l i:Nat}{T:Tba}{t:Ty}{v:Tan}{xs:Taf}{d:D}{us:Tac}(h:dB w S ow l T t v xs)(E:Wf w S ow)(hi:i<xs.length)(W:Has t d)(a0:us.length=t.cells.length)(I:∀(j:Nat) u c,us[j]?=some u->d.cells[j]?=some c->cg w S u c):
  ∃(b f:Nat) (cur:Tbd Tan),v=.slice (some ⟨b,0,none⟩) xs.length f/\w.heap[b]?=some (.cells cur T (0,0))/\i*t.cells.length+us.length<=cur.size/\b<w.heap.size/\ow b=some l/\
   bD (iI l) aB w S ow (w.setRow b (cur.toList.take (i*t.cells.length)++us++cur.toList.drop (i*t.cells.length+us.length)).toArray) S ow/\Wf (w.setRow b (cur.toList.take (i*t.cells.length)++us++cur.toList.drop (i*t.cells.length+us.length)).toArray) S ow/\
   dB (w.setRow b (cur.toList.take (i*t.cells.length)++us++cur.toList.drop (i*t.cells.length+us.length)).toArray) S ow l T t v (xs.set i d):=by
 obtain⟨C,V,h2⟩:=h.own;rcases V.2 with⟨rfl,y⟩|⟨b,f,cur,rfl,h0,hg,rN,U1,GW,PZ⟩
 .omega
 have z:(i+1)*t.cells.length<=xs.length*t.cells.length:=aw _ hi;have N:xs.length*t.cells.length<=f*t.cells.length:=aw _ rN;rw[cn,Nat.one_mul]at z;have g:=h.iw b rfl;have B:i*t.cells.length+us.length<=cur.size:=by omega
 have J:∀(r:Tbd Tan) k,k≠b->(w.setRow b r).heap[k]?=w.heap[k]? :=fun r k a=>setRow_other w _ k _ a;have M:∀o,¬S b o:=fun o q=>by have:=E.d b o l q g;have:=h.ll;omega
 have n:∀r,bD (iI l) aB w S ow (w.setRow b r) S ow:=fun r=>
  ⟨by simp,rfl,rfl,rfl,fun k l' a m y=>J r k (fun e=>y (by rw[e,g]at m;injection m with m;exact m.symm)),fun k a y _=>J r k (fun e=>by rw[e,g]at y;cases y),fun _ _ h=>h,fun k o q=>bn (J r k (fun e=>M o (e▸q))),fun _ _ h _=>h,fun _ _ h=>.inl h,fun _ _ h=>h,fun _ _ h=>.inl h⟩
 refine⟨b,f,cur,rfl,hg,B,(aP.1 hg).1,g,n _,⟨fun k o q=>by simpa using E.s k o q,fun k l hl=>by simpa using E.o k l hl,E.d⟩,⟨?_,h.sz,h.iw,h.ll,C.take (i*t.cells.length)++us++C.drop (i*t.cells.length+us.length),?_,?_⟩⟩
 .refine⟨_,rfl,by rw[aQ];exact h.len,fun x p=>?_⟩;rcases cX p with p|rfl
  .exact h.all x p
  exact W
 .have H:C.length=xs.length*t.cells.length:=V.1;refine⟨by simp only[ai,aA,ba,aQ];omega,.inr ⟨b,f,_,by rw[aQ],h0,setRow_heap w b _ _ T (0,0) hg,by rw[aQ];exact rN,U1,?_,?_⟩⟩
  .simp only[bV,ai,aA,ba,fQ];omega
  rw[<-PZ,aQ];apply dD;intro j;simp only[dE,aq,aD,aA,ai,fQ,ba];by_cases c1:j<i*t.cells.length
  .have e1:j<xs.length*t.cells.length:=by omega
   have e2:j<i*t.cells.length+us.length:=by omega
   have e3:j<min (i*t.cells.length) cur.size:=by omega
   have e4:j<min (i*t.cells.length) cur.size+us.length:=by omega
   have e5:j<min (i*t.cells.length) (min (xs.length*t.cells.length) cur.size):=by omega
   have e6:j<min (i*t.cells.length) (min (xs.length*t.cells.length) cur.size)+us.length:=by omega
   simp only[e1,e3,e4,e5,e6,c1,if_true]
  by_cases c2:j<i*t.cells.length+us.length
  .rw[if_pos (by omega),if_pos (by omega),if_neg (by omega),if_pos (by omega),if_neg (by omega)];congr 1;omega
  by_cases Z:j<xs.length*t.cells.length
  .rw[if_pos Z,if_neg (by omega),if_neg (by omega),if_pos (by omega)];congr 1;omega
  rw[if_neg Z,if_neg (by omega),if_neg (by omega)]
 intro k Y j u c a U F;have H:C.length=xs.length*t.cells.length:=V.1
 have R:Y.cells.length=t.cells.length:=by
  rcases cX (bQ a) with p|rfl
  .exact(cB (h.all _ p)).1
  exact(cB W).1
 have hj:j<t.cells.length:=by rw[<-R];exact(aO.1 U).1
 have Q:k<xs.length:=by have:=(aO.1 a).1;rwa [aQ]at this
 have O:(k+1)*t.cells.length<=xs.length*t.cells.length:=aw _ Q;rw[cn,Nat.one_mul]at O;simp only[dE,aq,aD,aA,ai]at F;rw[bj]at a;by_cases A:i=k
 .subst A;rw[if_pos rfl,if_pos hi]at a;injection a with a;subst a;rw[if_pos (by omega),if_neg (by omega)]at F;refine(I j u c ?_ U).J (n _);rw[<-F];congr 1;omega
 rw[if_neg A]at a
 have K:k*t.cells.length+j<i*t.cells.length\/i*t.cells.length+us.length<=k*t.cells.length+j:=by
  rcases eH k i with G|G
  .have:(k+1)*t.cells.length<=i*t.cells.length:=aw _ G;rw[cn,Nat.one_mul]at this;omega
  have:(i+1)*t.cells.length<=k*t.cells.length:=aw _ (by omega);rw[cn,Nat.one_mul]at this;omega
 refine(h2 k Y j u c a U ?_).J (n _);rw[<-F];rcases K with G|G
 .rw[if_pos (by omega),if_pos (by omega),if_pos (by omega)]
 rw[if_neg (by omega)];congr 1;omega
end
section
variable{L L' X X':Tai}{w w' GP:Tam}{S S' Mt:bE}{ow bT zj:Ow}{P:Tap}
structure kj(w:Tam)(ow:Ow)(l:Nat)(T:Tba)(v:Tan)(vs:Tac):Prop where
 own:w.ownsRow 0 T 1 v vs.length vs
 iw:∀b,v.ownBlock=some b->ow b=some l
 ll:l<1000
def kj.J{l:Nat}{T:Tba}{v:Tan}{vs:Tac}(h:kj w ow l T v vs)(e:Wf w S ow)(c:bD L X w S ow w' S' bT)(d:¬L l):kj w' bT l T v vs:=
 ⟨ra h.own (fun b a=>c.GY b l (e.o b l (h.iw b a)) (h.iw b a) d),fun b a=>c.keep b l (h.iw b a) d,h.ll⟩
def kj.nil{l:Nat}{T:Tba}(a:l<1000):kj w ow l T (.slice none 0 0) []:=⟨fJ _ _ _ _,fun b c=>(by cases c),a⟩
def kj.elem{l:Nat}{T:Tba}{v:Tan}{vs:Tac}(h:kj w ow l T v vs){i:Nat}{u:Tan}(hi:vs[i]?=some u):
  ∃b a,v=.slice (some ⟨b,0,none⟩) vs.length a/\b<w.heap.size/\ow b=some l/\w.cell? ⟨b,i,none⟩=some u:=by
 have c:i<vs.length:=(aO.1 hi).1;rcases h.own.2 with⟨rfl,hn⟩|⟨g,a,cur,rfl,_,hg,rN,U1,GW,PZ⟩
 .omega
 refine⟨g,a,rfl,(aP.1 hg).1,h.iw g rfl,?_⟩;have:=h.own.cells (g:=g) rfl i u hi;rw[fT,av]at this;exact this
def kj.slice{l:Nat}{T:Tba}{v:Tan}{vs:Tac}(h:kj w ow l T v vs):∃A cap,v=.slice A vs.length cap:=by
 rcases h.own.2 with⟨rfl,hn⟩|⟨g,cap,cur,rfl,_⟩
 .exact⟨none,0,by rw[hn]⟩
 exact⟨_,cap,rfl⟩
def Sz(P:Tap)(tt T:Tba):Bool:=match P.underlying tt with
 |some (.slice e)=>e==T&&(match P.info? T with
  |some ie=>ie.size==1&&decide (ie.bytes<=24)&&(match ie.zero with
   |some z=>z.cells.size==1
   |none=>false)
  |none=>false)
 |_=>false
def kj.mq{l:Nat}{tt T:Tba}{v u:Tan}{vs:Tac}(h:kj w ow l T v vs)(f:Sz P tt T=true)(y:Wf w S ow)(ty:Tba)(A:Addr)(c:Nat)(O:w.cell? A=some u)(E:u.oneCell'=true)(F:vs.length+1<=1000000):
  ∃p w',(Builtin.append_ #[tt,tt] ty #[v,.slice (some A) 1 c]).run P w=.ok p w'/\∃bT,bD (iI l) aB w S ow w' S bT/\Wf w' S bT/\kj w' bT l T p (vs++[u]):=by
 unfold Sz at f;split at f
 .rename_i e I;rw[aT,beq_iff_eq]at f;obtain⟨rfl,f⟩:=f;split at f
  .rename_i M K;simp only[aT,beq_iff_eq,bk]at f;obtain⟨⟨R,Q⟩,H⟩:=f;split at H
   .rename_i z N;rw[beq_iff_eq]at H
    obtain⟨p,w',D,k,a⟩:=kf (P:=P) w 0 tt ty e M z 1 I K N R H v vs.length vs h.own (some A) 1 c [u] (by intro h;cases h) rfl
     (by
      intro U B j x G;injection B with B;subst B
      match j,G with
      |0,G=>simp at G;subst G;simpa [Addr.add]using O) (by simpa using E) (by simp only[maxLen];omega) (by have:(vs.length+1)*M.bytes<=1000000*24:=Nat.mul_le_mul F Q;omega) (aF _)
    have m:w'.os=w.os/\w'.tape=w.tape/\w'.output=w.output/\w.heap.size<=w'.heap.size:=by rcases a with⟨_,hg⟩|⟨_,hg⟩<;>exact⟨hg.os,hg.tape,hg.output,hg.size⟩
    have r:∀b,b<w.heap.size->v.ownBlock≠some b->w'.heap[b]?=w.heap[b]? :=by
     intro b n J;rcases a with⟨_,hg⟩|⟨_,hg⟩
     .exact hg.block b n (fun e=>J e.symm)
     exact hg.block b n (by simp)
    have C:∀b,v.ownBlock=some b->∀o,¬S b o:=fun b n o t=>by have:=y.d b o l t (h.iw b n);have:=h.ll;omega
    refine⟨p,w',D,fun b=>if p.ownBlock=some b then some l else ow b,⟨m.2.2.2,m.1,m.2.1,m.2.2.1,?_,?_,fun _ _ h=>h,?_,?_,fun _ _ h=>.inl h,?_,fun b l' q=>(by
     replace q:(if p.ownBlock=some b then some l else ow b)=some l':=q;split at q
     .injection q with q;exact .inr q.symm
     exact .inl q)⟩,⟨fun b o t=>az (y.s b o t) m.2.2.2,?_,?_⟩,?_,?_,h.ll⟩
    .intro b l' n k q;exact r b n (fun g=>q (by have:=(h.iw b g).symm.trans k;injection this with this;exact this.symm))
    .intro b n k _;exact r b n (fun g=>by rw[h.iw b g]at k;cases k)
    .intro b o t;exact bn (r b (y.s b o t) (fun n=>C b n o t))
    .intro b l' k q;show(if p.ownBlock=some b then some l else ow b)=some l';rw[if_neg ?_]
     .exact k
     intro g;rcases a with⟨he,_⟩|⟨he,_⟩
     .have:=(h.iw b (he▸g)).symm.trans k;injection this with this;exact q this.symm
     rw[he]at g;injection g with g;have:=y.o b l' k;omega
    .intro b n k;show(if p.ownBlock=some b then some l else ow b)=none;rw[if_neg ?_]
     .exact k
     intro g;rcases a with⟨he,_⟩|⟨he,_⟩
     .rw[h.iw b (he▸g)]at k;cases k
     rw[he]at g;injection g with g;omega
    .intro b l' i;replace i:(if p.ownBlock=some b then some l else ow b)=some l':=i;split at i
     .rename_i g;exact(k.lt b g).2
     exact az (y.o b l' i) m.2.2.2
    .intro b o l' t i;replace i:(if p.ownBlock=some b then some l else ow b)=some l':=i;split at i
     .rename_i g;rcases a with⟨he,_⟩|⟨he,_⟩
      .exact absurd t (C b (he▸g) o)
      rw[he]at g;injection g with g;have:=y.s b o t;omega
     exact y.d b o l' t i
    .rw[ai];exact k
    intro b n;show(if p.ownBlock=some b then some l else ow b)=some l;rw[if_pos n]
   cases H
  cases f
 cases f
def kj.set{l i:Nat}{T:Tba}{v u:Tan}{vs:Tac}(h:kj w ow l T v vs)(m:Wf w S ow)(hi:i<vs.length):
  ∃(b f:Nat) (cur:Tbd Tan),v=.slice (some ⟨b,0,none⟩) vs.length f/\w.heap[b]?=some (.cells cur T (0,0))/\i+1<=cur.size/\b<w.heap.size/\ow b=some l/\
   bD (iI l) aB w S ow (w.setRow b (cur.toList.take i++[u]++cur.toList.drop (i+1)).toArray) S ow/\Wf (w.setRow b (cur.toList.take i++[u]++cur.toList.drop (i+1)).toArray) S ow/\
   kj (w.setRow b (cur.toList.take i++[u]++cur.toList.drop (i+1)).toArray) ow l T v (vs.set i u):=by
 rcases h.own.2 with⟨rfl,j⟩|⟨b,f,cur,rfl,h0,hg,rN,U1,GW,PZ⟩
 .omega
 rw[bK]at GW PZ;have a:=h.iw b rfl;have n:∀(r:Tbd Tan) k,k≠b->(w.setRow b r).heap[k]?=w.heap[k]? :=fun r k q=>setRow_other w _ k _ q;have p:∀o,¬S b o:=fun o g=>by have:=m.d b o l g a;have:=h.ll;omega
 refine⟨b,f,cur,rfl,hg,by omega,(aP.1 hg).1,a,
  ⟨by simp,rfl,rfl,rfl,fun k y q c j=>n _ k (fun e=>j (by rw[e,a]at c;injection c with c;exact c.symm)),fun k q j _=>n _ k (fun e=>by rw[e,a]at j;cases j),fun _ _ h=>h,fun k o g=>bn (n _ k (fun e=>p o (e▸g))),fun _ _ h _=>h,fun _ _ h=>.inl h,fun _ _ h=>h,fun _ _ h=>.inl h⟩,
  ⟨fun k o g=>by simpa using m.s k o g,fun k l x=>by simpa using m.o k l x,m.d⟩,⟨⟨by simp,.inr ⟨b,f,_,by rw[aQ],h0,setRow_heap w b _ _ T (0,0) hg,by rw[aQ];exact rN,U1,?_,?_⟩⟩,h.iw,h.ll⟩⟩
 .simp only[bV,ai,aA,ba,fQ,aW];omega
 have t:i<cur.toList.length:=by rw[fQ];omega
 rw[aQ,bK,AX t];show List.take _ (cur.toList.set i u)=_;rw[List.take_set,PZ]
def kr(w:Tam)(S:bE)(ow:Ow)(l:Nat)(ob:Ob)(b:Nat)(cells:List (Taf)):Prop:=
 ∃(c:Nat->Nat) (d:Taj),c 0=b/\Cb w S ob c d [.pointer (some ⟨b,0,none⟩)] [] cells/\(∀a,uB ob c d a->ow a=some l)
def kr.J{l:Nat}{ob:Ob}{b:Nat}{cells:List (Taf)}(h:kr w S ow l ob b cells)(O:Wf w S ow)(F:Wf w' S' bT)(q:bD L X w S ow w' S' bT)(J:¬L l)(G:ob.shape=[true]):kr w' S' bT l ob b cells:=by
 obtain⟨y,C,hb,a,f⟩:=h;have g:∀k,uB ob y C k->w'.heap[k]?=w.heap[k]? :=fun k e=>q.GY k l (O.o k l (f k e)) (f k e) J
 have B:∀k o,uB ob y C k->S' k o->S k o:=by
  intro k o e H;rcases q.new k o H with m|m|⟨N,m,M⟩
  .exact m
  .have:=O.o k l (f k e);omega
  rw[f k e]at m;injection m with m;subst m;exact absurd M J
 refine⟨y,C,hb,⟨F.s,?_,a.len,?_,a.inj,a.own,a.eV,?_⟩,fun k e=>q.keep k l (f k e) J⟩
 .have:=a.args;rw[G]at this⊢;exact this
 .intro o E cs x p;obtain⟨z,T,m,M,h3,h4,h5⟩:=a.cH o E cs x p;have n:o<ob.cH.length:=(aO.1 x).1;have A:uB ob y C (y o):=.inl ⟨o,n,rfl⟩;refine⟨z,T,(g _ A).trans m,M,h3,?_,fun W H=>h5 W (B _ _ A H)⟩;intro i r v d Q Y Z;have p:=h4 i r v d Q Y Z;obtain⟨t,V⟩:=r;cases V with
  |none=>exact⟨p.1.J q,p.2⟩
  |some jT=>
   obtain⟨j,TT⟩:=jT;obtain⟨rfl,K⟩:=p;have R:j∈ob.jH:=dj.2 ⟨E,bQ x,bH.2 ⟨_,bQ Q,rfl⟩⟩;refine⟨rfl,K.has,K.sz,?_⟩;obtain⟨U,N,a1,a2,a3,a4⟩:=K.own;refine⟨U,N,a1,ra a2 (fun k e=>g k (.inr ⟨j,R,e⟩)),fun k e o=>?_,fun i d j u c b1 b2 b3=>(a4 i d j u c b1 b2 b3).J q⟩;rw[<-a3 k e o];exact⟨B k o (.inr ⟨j,R,e⟩),q.jG k o⟩
 intro I o c E x p;have n:o<ob.cH.length:=(aO.1 x).1;rw[bn (g _ (.inl ⟨o,n,rfl⟩))];exact a.link I o c E x p
end
section
variable{w w':Tam}{S S':bE}{ow bT:Ow}{P:Tap}
def Bl{β:Nat->Nat}:∀{n:Nat} {vs:Tac} {ds:Taf} {o:Nat},vs.length=n->ds.length=n->(∀(i:Nat) v d,vs[i]?=some v->ds[i]?=some d->cg w S v d)->rV w S β (List.replicate n false) o vs ds
 |0,[],[],_,_,_,_=>trivial
 |n+1,v::vs,d::ds,o,hv,hd,h=>by refine⟨h 0 v d rfl rfl,Bl (by simpa using hv) (by simpa using hd) fun i u e a b=>h (i+1) u e (by simpa using a) (by simpa using b)⟩
def kr.call{f:Nat}{G:dL}{ob ob0:Ob}{Pre:Taf->Prop}{Φ:Taf->D}{l b n:Nat}{cells:List (Taf)}{vs:Tac}{dd:Taf}(hf:bu P f G Pre Φ)(b7:G.ob=some ob)(b5:ob.wW=false)(a1:ob.shape=true::List.replicate n false)(a:ob.cH=ob0.cH)(r:ob.outs=ob0.cH)(R:ob0.shape=[true])(h2:1<=ob0.cH.length)(b2:2<=ob0.cH.length\/ob.mv=false)(a5:cU G.res=[])(c6:1000<=l)(h:kr w S ow l ob0 b cells)(hw:Wf w S ow)(b3:vs.length=n)(c4:dd.length=n)(a3:∀(i:Nat) v d,vs[i]?=some v->dd[i]?=some d->cg w S v d)(b4:dx (.V G.params) (dd++cells.flatten))(a4:Pre (dd++cells.flatten)):
  Calls P f (.pointer (some ⟨b,0,none⟩)::vs).toArray w fun e w'=>∃v S' bT N d0 q,e=.returned v/\Φ (dd++cells.flatten)=.ff (d0::q.map .agg)/\q.length=ob0.cH.length/\bD (iI l) aB w S ow w' S' bT/\Wf w' S' bT/\kr w' S' bT l ob0 b q/\im w' 0 S' N G.res v d0:=by
 obtain⟨s,N,hb,u,B⟩:=h;have a6:ob.new=false:=by unfold Ob.new;rw[r,a];simp
 have a9:ij ob.shape=1:=by
  have hz:(List.filter (fun b=>b) (List.replicate n false)).length=0:=by rw[List.length_eq_zero_iff,List.filter_eq_nil_iff];intro x hx;rw[(List.mem_replicate.1 hx).2];decide
  rw[a1];simp only[ij,List.filter_cons,if_true,bg];omega
 have b0:ij ob0.shape=1:=by rw[R];rfl
 have Z:ob.jH=ob0.jH:=by unfold Ob.jH;rw[a]
 have y:∀k,uB ob s N k↔uB ob0 s N k:=fun k=>by unfold uB;rw[a,Z]
 have a8:Cb w S ob s N (.pointer (some ⟨b,0,none⟩)::vs) dd cells:=by refine⟨u.lt,?_,by rw[a];exact u.len,by rw[a];exact u.cH,by rw[a];exact u.inj,by rw[Z];exact u.own,by rw[Z,a];exact u.eV,fun O=>by rw[a];exact u.link (by rw[b0];rw[a9,a]at O;exact O)⟩;rw[a1];exact⟨by rw[hb],Bl b3 c4 a3⟩
 refine(hf.zC ob b7 b5 w S s N _ dd cells a8 b4 a4).mono ?_;rintro e w1 ⟨v,S',τ',βn,rfl,ho⟩;obtain⟨d0,q,hd,p,J,A⟩:=ho.res;rw[a6]at J;simp only[aj,if_false]at J;have K:q.length=ob0.cH.length:=by rw[p,r]
 have H:∀o,o<ob0.cH.length->kq ob s βn o=s o\/(o=ob0.cH.length-1/\ob.mv=true/\kq ob s βn o=βn):=by
  intro o p;unfold kq;rw[a];by_cases O:ob.mv=true/\o=ob0.cH.length-1
  .exact .inr ⟨O.2,O.1,if_neg (fun h=>h.2 O)⟩
  exact .inl (if_pos ⟨p,O⟩)
 have b1:∀o,o<ob0.cH.length->uB ob0 s N (kq ob s βn o)\/w.heap.size<=kq ob s βn o:=by
  intro o p;rcases H o p with g|⟨_,g,h2⟩
  .rw[g];exact .inl (.inl ⟨o,p,rfl⟩)
  rw[h2];rcases ho.mvd g with z|z
  .rw[z,a];exact .inl (.inl ⟨_,by omega,rfl⟩)
  exact .inr z
 have E:∀j,j∈ob0.jH->j∈kP G ob:=by intro j C;unfold kP;rw[a5,r];exact C
 have L:∀k,uB ob0 (kq ob s βn) τ' k->uB ob0 s N k\/w.heap.size<=k:=by
  rintro k (⟨o,p,rfl⟩|⟨j,C,m⟩)
  .exact b1 o p
  rcases ho.gh j k (E j C) m with g|g
  .exact .inr g
  exact .inl ((y k).1 g)
 have Y:∀k,uB ob0 s N k->k<w.heap.size:=fun k m=>hw.o k l (B k m);have W:=ho.below.size
 classical
 refine⟨v,S',fun k=>if uB ob0 (kq ob s βn) τ' k then some l else if ow k=some l then none else ow k,τ',d0,q,rfl,hd,K,⟨W,ho.below.os,ho.below.tape,ho.below.output,?_,?_,ho.jG,ho.keep,?_,?_,?_,fun k l' m=>(by
   replace m:(if uB ob0 (kq ob s βn) τ' k then some l else if ow k=some l then none else ow k)=some l':=m;split at m
   .injection m with m;exact .inr m.symm
   split at m
   .cases m
   exact .inl m)⟩,⟨ho.lt,?_,?_⟩,⟨kq ob s βn,τ',?_,⟨ho.lt,?_,by rw[K],?_,?_,?_,?_,?_⟩,fun k m=>if_pos m⟩,J⟩
 .intro k l' m p I;exact ho.below.block k m (fun M=>I (by have:=(B k ((y k).1 M)).symm.trans p;injection this with this;exact this.symm))
 .intro k m I _;exact ho.below.block k m (fun M=>by rw[B k ((y k).1 M)]at I;cases I)
 .intro k l' m I;show(if uB ob0 (kq ob s βn) τ' k then some l else if ow k=some l then none else ow k)=some l';rw[if_neg,if_neg,m]
  .rw[m];intro e;injection e with e;exact I e
  intro M;rcases L k M with g|g
  .have:=(B k g).symm.trans m;injection this with this;exact I this.symm
  have:=hw.o k l' m;omega
 .intro k o hs;rcases ho.new k o hs with g|g|g
  .exact .inl g
  .exact .inr (.inl g)
  exact .inr (.inr ⟨l,B k ((y k).1 g),rfl⟩)
 .intro k m I;show(if uB ob0 (kq ob s βn) τ' k then some l else if ow k=some l then none else ow k)=none;rw[if_neg,if_neg (by rw[I];intro e;cases e)]
  .exact I
  intro M;rcases L k M with g|g
  .rw[B k g]at I;cases I
  omega
 .intro k l' m;replace m:(if uB ob0 (kq ob s βn) τ' k then some l else if ow k=some l then none else ow k)=some l':=m;split at m
  .rename_i M;rcases L k M with g|g
   .exact az (Y k g) W
   rcases M with⟨o,p,rfl⟩|⟨j,C,Js⟩
   .obtain⟨rc,X⟩:∃rc,ob0.cH[o]?=some rc:=⟨_,aS p⟩;obtain⟨cs,a0⟩:∃cs,q[o]?=some cs:=⟨_,aS (by omega)⟩;obtain⟨Q,T,hh,_⟩:=A o rc cs (by rw[r];exact X) a0;exact(aP.1 hh).1
   obtain⟨rc,X,c1⟩:=dj.1 C;obtain⟨x,hx,V⟩:=bH.1 c1;obtain⟨o,p,b6⟩:=fP X;obtain⟨i,c2,c3⟩:=fP hx;obtain⟨cs,a0⟩:∃cs,q[o]?=some cs:=⟨_,aS (by omega)⟩;obtain⟨Q,T,hh,z,F,h5,_⟩:=A o rc cs (by rw[r,aS p,b6]) a0;have O:=h5 i x (Q[i]'(by omega)) (cs[i]'(by omega)) (by rw[aS c2,c3]) (aS _) (aS _);obtain⟨t,ro⟩:=x;cases ro with
   |none=>cases V
   |some jT=>
    simp only[aV,aa]at V;subst V;obtain⟨_,hO⟩:=O;obtain⟨xs,l2,_,a2,_⟩:=hO.own;exact(a2.lt k Js).2
  split at m
  .cases m
  exact az (hw.o k l' m) W
 .intro k o l' hs m;replace m:(if uB ob0 (kq ob s βn) τ' k then some l else if ow k=some l then none else ow k)=some l':=m;split at m
  .injection m with m;omega
  split at m
  .cases m
  rename_i b8;rcases ho.new k o hs with g|g|g
  .exact hw.d k o l' g m
  .have:=hw.o k l' m;omega
  exact absurd (B k ((y k).1 g)) b8
 .rcases H 0 (by omega) with g|⟨g,z,_⟩
  .rw[g,hb]
  rcases b2 with F|F
  .omega
  rw[z]at F;cases F
 .rw[R];refine⟨?_,trivial⟩;rcases H 0 (by omega) with g|⟨g,z,_⟩
  .rw[g,hb]
  rcases b2 with F|F
  .omega
  rw[z]at F;cases F
 .intro o rc cs g z;exact A o rc cs (by rw[r];exact g) z
 .intro i j hi C U;rcases H i hi with g|⟨g,c0,z⟩
  .rcases H j C with F|⟨F,b9,h5⟩
   .rw[g,F]at U;exact u.inj i j hi C U
   rw[g,h5]at U;rcases ho.mvd b9 with h6|h6
   .rw[h6,a]at U;have:=u.inj i (ob0.cH.length-1) hi (by omega) U;omega
   have:=Y (s i) (.inl ⟨i,hi,rfl⟩);omega
  rcases H j C with F|⟨F,_⟩
  .rw[z,F]at U;rcases ho.mvd c0 with h6|h6
   .rw[h6,a]at U;have:=u.inj (ob0.cH.length-1) j (by omega) C U;omega
   have:=Y (s j) (.inl ⟨j,C,rfl⟩);omega
  omega
 .intro j k b' C m g z;exact ho.own j k b' (E j C) (E k m) g z
 .intro j o b' C p g;exact ho.eV j o b' (E j C) (by rw[r];exact p) g
 intro a7 o c rc g z;have:=ho.link (by rw[a9,a];rw[b0]at a7;exact a7) o c rc (by rw[r];exact g) z;rw[a]at this;exact this
def Cv{f:Nat}{a:dL}{Pre:Taf->Prop}{Φ:Taf->D}{vs:Tac}{dd:Taf}(u:bu P f a Pre Φ)(r:a.ob=none)(j:Wf w S ow)(g:vs.length=dd.length)(m:∀(i:Nat) v d,vs[i]?=some v->dd[i]?=some d->cg w S v d)(q:dx (.V a.params) dd)(n:Pre dd):
  Calls P f vs.toArray w fun e w'=>∃v S' p,e=.returned v/\bD aB aB w S ow w' S' ow/\Wf w' S' ow/\im w' 0 S' p a.res v (Φ dd):=by
 refine(u.calls r w S vs dd j.s g m q n).mono ?_;rintro e x ⟨v,S',p,rfl,hb,h1,h2,h3,h4,_⟩;refine⟨v,S',p,rfl,⟨hb.size,hb.os,hb.tape,hb.output,fun b _ c _ _=>hb.block b c,fun b c _ _=>hb.block b c,h1,fun b o k=>bn (hb.block b (j.s b o k)),fun _ _ h _=>h,fun b o k=>(h3 b o k).imp id .inl,fun _ _ h=>h,fun _ _ h=>.inl h⟩,⟨h2,fun b l g=>az (j.o b l g) hb.size,?_⟩,h4⟩;intro b o l k g;rcases h3 b o k with t|t
 .exact j.d b o l t g
 have:=j.o b l g;omega
end
def OZ{P:Tap}(w:Tam)(tt T:Tba)(u:Tan)(c:TypeInfo)(z:Tan)(C:P.underlying tt=some (.slice T))(q:P.info? T=some c)(B:c.zero=some z)(j:u.cells.size=c.size)(A:0<c.size)(k:c.size<=2 ^ 24):
  (Instr.buildSlice tt 1 #[(0,u)]).run P w=.ok (.slice (some ⟨w.heap.size,0,none⟩) 1 1) (w.alloc (.cells u.cells T)):=by
 refine run_buildSlice w tt T 1 _ u.cells c z C q B (by omega) (by omega) ?_;obtain⟨b,p⟩:∃b:Tac,u.cells=b.toArray:=⟨u.cells.toList,by simp⟩;simp only[Instr.fill,Nat.zero_mul,Nat.one_mul,av];rw[p]at j⊢;have h:b.length=c.size:=by simpa using j
 obtain⟨e,l,o⟩:∃e:Tac,(Array.range c.size).map (fun x=>z.cells[x % z.cells.size]!)=e.toArray/\e.length=c.size:=⟨((Array.range c.size).map (fun x=>z.cells[x % z.cells.size]!)).toList,by rw[Array.toArray_toList],by simp⟩;rw[l];have s:=foldl_set 0 b 0 e (by omega);simp only[av,List.take_zero,dW]at s;have f:e.drop b.length=[]:=bL (by omega);rw[f,dh]at s
 have g:¬((b.toArray.size≠c.size||decide (b.toArray.size>e.toArray.size))=true):=by simp[h,o]
 rw[if_neg g]
 have D:b.toArray.zipIdx.foldl (fun E (x:Tan×Nat)=>E.setIfInBounds x.2 x.1) e.toArray=b.toArray:=by rw[show b.toArray.zipIdx=(b.zipIdx).toArray by simp];exact(List.foldl_toArray' _ _ _ (by simp)).trans s
 exact congrArg some D
def E9(P:Tap)(tt T:Tba)(k:Nat):Bool:=match P.underlying tt with
 |some (.slice e)=>e==T&&(match P.info? T with
  |some ie=>ie.size==k&&ie.zero.isSome&&decide (0<k)&&decide (k<=100)
  |none=>false)
 |_=>false
def LF{P:Tap}{tt T:Tba}{k:Nat}(h:E9 P tt T k=true)(w:Tam)(u:Tan)(l:u.cells.size=k):(Instr.buildSlice tt 1 #[(0,u)]).run P w=.ok (.slice (some ⟨w.heap.size,0,none⟩) 1 1) (w.alloc (.cells u.cells T)):=by
 unfold E9 at h;split at h
 .rename_i e g;rw[aT,beq_iff_eq]at h;obtain⟨rfl,h⟩:=h;split at h
  .rename_i c b;simp only[aT,beq_iff_eq,bk]at h;obtain⟨⟨⟨q,j⟩,p⟩,o⟩:=h;obtain⟨z,f⟩:=dk.1 j;exact OZ w tt e u c z g b f (by omega) (by omega) (by omega)
  cases h
 cases h
section
variable{P:Tap}{ops:Tad}{Q:Iv}{SS:Tae}{n n0 i d:Nat}{a:Act}{w:Tam}{m:Tab}{gd:Tao (Nat×Bool)}{LL r:List OK}
variable{x y z:Tbb}{t t2 tt T:Tba}{v u:Tan}{S:bE}{ow:Ow}
def rW{us:Tac}(k:Kn n a m)(hi:n0<=i)(f:rq LL m gd=some true)(g:d<n)(e:mD m x=some v)(j:v.cells=us.toArray)(l:r≠[]->SS (w.alloc (.cells us.toArray t)))(h:∀b,Kn n b ((d,.pointer (some ⟨w.heap.size,0,none⟩))::m)->TL P ops Q SS n0 LL r (i+1) b (w.alloc (.cells us.toArray t))):TL P ops Q SS n0 LL ((some d,.box t x,gd)::r) i a w:=by refine nk k hi f g (fun o c p=>⟨_,_,?_,l,h⟩);have:=k.op e;unfold execOp;simp only[Instr.box];simp[newVar,newRow,this,j]
def jO{nn:Nat}(k:Kn n a m)(hi:n0<=i)(j:rq LL m gd=some true)(l:d<n)(g:((P.info? t).bind (·.zero)).map (fun z=>z.cells.size)=some nn)(o:∀b:Tac,r≠[]->SS (w.alloc (.cells b.toArray t)))(h:∀b:Tac,b.length=nn->∀e,Kn n e ((d,.pointer (some ⟨w.heap.size,0,none⟩))::m)->TL P ops Q SS n0 LL r (i+1) e (w.alloc (.cells b.toArray t))):TL P ops Q SS n0 LL ((some d,.alloc t,gd)::r) i a w:=by refine nk k hi j l (fun f c s=>?_);obtain⟨b,q,p⟩:=Jh (P:=P) (a:=a) (w:=w) (dst:=some d) (ty:=f) (pos:=c) (af:=s) (gd:=gd) g;refine⟨_,_,?_,o b.toList,h b.toList (by simpa using q)⟩;simpa using p
def mn{kk:Nat}(k:Kn n a m)(hi:n0<=i)(g:rq LL m gd=some true)(j:d<n)(e:mD m x=some v)(f:E9 P tt T kk=true)(l:v.cells.size=kk)(o:r≠[]->SS (w.alloc (.cells v.cells T)))(h:∀b,Kn n b ((d,.slice (some ⟨w.heap.size,0,none⟩) 1 1)::m)->TL P ops Q SS n0 LL r (i+1) b (w.alloc (.cells v.cells T))):TL P ops Q SS n0 LL ((some d,.buildSlice tt 1 #[(0,x)],gd)::r) i a w:=by refine nk k hi g j (fun q c s=>⟨_,_,?_,o,h⟩);have:=k.op e;have p:=LF f w v l;unfold execOp;simp[this,p]
def mM{b:Tbd (Nat×Tbb)}{ps:Tab}{vs:Tac}(k:Kn n a m)(B:SS w)(p:rq LL m gd=some true)(s:d<n)(o:b.toList.map (fun y=>(mD m y.2).map fun v=>(y.1,v))=ps.map some)(A:P.built t ps=some vs.toArray)(h:∀e,Kn n e ((d,.agg vs.toArray)::m)->TL P ops Q SS n0 LL r (i+1) e w):TL P ops Q SS n0 LL ((some d,.build t b,gd)::r) i a w:=by
 refine qt k B p s (fun F g G f _=>?_) h
 have j:(b.map fun(i,x)=>(i,a.eval x)).toList=ps:=by
  rw[Array.toList_map]
  have c:∀(l:List (Nat×Tbb)) (qs:Tab),l.map (fun y=>(mD m y.2).map fun v=>(y.1,v))=qs.map some->l.map (fun y=>(y.1,a.eval y.2))=qs:=by
   intro l
   induction l with
   |nil=>intro qs h;cases qs with|nil=>rfl|cons=>cases h
   |cons y l ih=>
    intro qs h;cases qs with
    |nil=>cases h
    |cons q qs=>
     simp only[cM,eI,dn]at h;obtain⟨⟨v,E,D⟩,C⟩:=h;rw[cM,ih qs C,k.op E,D]
  exact c b.toList ps o
 unfold execOp;simp only[bw,run_build f t _ _ (j▸A),bZ];rfl
def ln{b off:Nat}{cur:Tbd Tan}{TT:Tba}{vs:Tac}(k:Kn n a m)(hi:n0<=i)(q:rq LL m gd=some true)(p:iy P t=some vs.length)(o:mD m x=some (.pointer (some ⟨b,off,none⟩)))(l:mD m y=some v)(s:v.cells=vs.toArray)(f:w.heap[b]?=some (.cells cur TT (0,0)))(e:off+vs.length<=cur.size)(c:∀v∈vs,v.oneCell'=true)(A:r≠[]->SS (w.setRow b (cur.toList.take off++vs++cur.toList.drop (off+vs.length)).toArray))(h:∀g,Kn n g m->TL P ops Q SS n0 LL r (i+1) g (w.setRow b (cur.toList.take off++vs++cur.toList.drop (off+vs.length)).toArray)):TL P ops Q SS n0 LL ((none,.store t x y,gd)::r) i a w:=
 aeS k hi q (fun B j C=>Je p (k.op o) (by rw[k.op l];exact s) f e c) A h
def jw{b off:Nat}{cur:Tac}{TT:Tba}(k:Kn n a m)(hi:n0<=i)(q:rq LL m gd=some true)(p:iy P t=some 1)(o:mD m x=some (.pointer (some ⟨b,off,none⟩)))(l:mD m y=some v)(s:v.cells=#[v])(g:w.heap[b]?=some (.cells cur.toArray TT (0,0)))(f:off<cur.length)(c:v.oneCell'=true)(A:r≠[]->SS (w.setRow b (cur.set off v).toArray))(h:∀j,Kn n j m->TL P ops Q SS n0 LL r (i+1) j (w.setRow b (cur.set off v).toArray)):TL P ops Q SS n0 LL ((none,.store t x y,gd)::r) i a w:=by
 have e:(cur.toArray.toList.take off++[v]++cur.toArray.toList.drop (off+[v].length))=cur.set off v:=AX f;refine ln (vs:=[v]) (cur:=cur.toArray) k hi q p o l (by rw[s]) g (by simp;omega) (by simpa using c) ?_ ?_
 .rw[e];exact A
 rw[e];exact h
def OD(P:Tap)(t f:Nat):Tak:=match lF P t f with
 |some (fl,nn)=>if jd P fl.type=false/\(P.underlying fl.type).isSome=true/\nn=1 then some fl.offset else none
 |none=>none
def Fo{f off:Nat}{vs:Tac}(k:Kn n a m)(K:SS w)(H:rq LL m gd=some true)(I:d<n)(D:mD m x=some (.agg vs.toArray))(b:OD P t f=some off)(q:vs[off]?=some v)(h:∀A,Kn n A ((d,v)::m)->TL P ops Q SS n0 LL r (i+1) A w):TL P ops Q SS n0 LL ((some d,.field t x f,gd)::r) i a w:=by
 refine qt k K H I (fun M C R B _=>?_) h;unfold OD at b;split at b
 .rename_i fl N o;split at b
  .rename_i c;obtain⟨J,l,rfl⟩:=c;injection b with b;subst b;obtain⟨L,l⟩:=dk.1 l;obtain⟨O,E,p,F⟩:=u9 o;have G:=(aO.1 q).1;have s:=r7 (w:=B) (n:=1) (off:=fl.offset) l F vs (by omega) (fun _=>by decide)
   have g:valOf P fl.type ((vs.drop fl.offset).take 1)=v:=by
    have e:(vs.drop fl.offset).take 1=[v]:=by
     apply dD;intro j;rw[aq,aD]
     match j with
     |0=>simpa using q
     |j+1=>simp
    rw[e];simp[valOf,J]
   rw[g]at s;unfold execOp;simp only[k.op D,Instr.field,asAgg];simp[run_underlying E,p,s]
  cases b
 cases b
end
def results_tmp{fn:Func}{t:Nat}(h:fn.results=#[.tmp t])(tmps:Tbd Tan)(P:Tap)(w:Tam):(results fn tmps).run P w=.ok (tmps.getD t undef) w:=by simp[results,h]
def mb{P:Tap}{fn:Func}{R:Ending->Tae}{a:Act}{w:Tam}{n:Nat}{m:Tab}(b:fn.results=#[])(k:Kn n a m)(h:R (.returned (.tuple #[])) w):bodyPost P fn R .ret a w/\bodyPost P fn R .normal a w:=
 ⟨⟨k.2.1,_,results_none b _ _ _,h⟩,⟨k.2.1,_,results_none b _ _ _,h⟩⟩
def r9{P:Tap}{fn:Func}{R:Ending->Tae}{a:Act}{w:Tam}{n t:Nat}{m:Tab}{v:Tan}(b:fn.results=#[.tmp t])(k:Kn n a m)(e:lk m t=some v)(h:R (.returned v) w):bodyPost P fn R .ret a w/\bodyPost P fn R .normal a w:=by
 have f:=k.2.2 t v e;have c:a.tmps.getD t undef=v:=by simp[f]
 exact⟨⟨k.2.1,_,results_tmp b _ _ _,by rw[c];exact h⟩,⟨k.2.1,_,results_tmp b _ _ _,by rw[c];exact h⟩⟩
def jD{P:Tap}{fn:Func}{R:Ending->Tae}:QP (bodyPost P fn R):=fun c a d v w h=>(by cases d<;>exact h)
def Fh:Tac->Nat->Tab
 |[],_=>[]
 |v::r,i=>(i,v)::Fh r (i+1)
def CU:∀(l:Tac) (i t:Nat) (v:Tan),lk (Fh l i) t=some v->i<=t/\l[t-i]?=some v
 |[],_,_,_,h=>by cases h
 |x::r,i,t,v,h=>by
  simp only[Fh,lk]at h;split at h
  .rename_i c;have b:t=i:=by simpa using c
   subst b;injection h with h;subst h;exact⟨aU _,by simp⟩
  obtain⟨f,e⟩:=CU r (i+1) t v h;refine⟨by omega,?_⟩;rw[show t-i=(t-(i+1))+1 by omega];simpa using e
def OS{n:Nat}{vs:Tac}(h:vs.length<=n):Kn n {tmps:=vs.toArray++Array.replicate (n-vs.toArray.size) undef,defers:=[]} (Fh vs 0):=by refine⟨by simp;omega,rfl,fun t v c=>?_⟩;obtain⟨_,b⟩:=CU vs 0 t v c;rw[Nat.sub_zero]at b;have e:=(aO.1 b).1;rw[Array.getElem?_append_left (by simpa using e)];simpa using b
def kD{P:Tap}{f:FuncId}{fn:Func}{n:Nat}{c:Code}{vs:Tac}{w:Tam}{R:Ending->Tae}(g:P.funcs[f]?=some fn)(k:fn.body=some (fS fn))(j:fS fn=c)(b:fn.ntmps=n)(e:vs.length<=n)(h:∀a,Kn n a (Fh vs 0)->c.wp P (bodyPost P fn R) a w):Calls P f vs.toArray w R:=by refine calls_of_wp g k ?_;rw[j,b];exact h _ (OS e)
def bf{P:Tap}{Q:Iv}{n:Nat}{a:Act}{w:Tam}{m:Tab}{c:Tbb}{x y:Code}{b:Bool}(k:Kn n a m)(e:mD m c=some (.bool b))(h:(if b then x else y).wp P Q a w):(Code.cond c x y).wp P Q a w:=wp_cond (k.op e) h
section
variable{L L' X X':Tai}{w w' GP:Tam}{S S' Mt:bE}{ow bT zj:Ow}
def bD.tr(g:Wf w S ow)(e:Wf w' S' bT)(h:bD L X w S ow w' S' bT)(k:bD L' X' w' S' bT GP Mt zj)(p:∀b,X' b->X b\/w.heap.size<=b):bD (fun l=>L l\/L' l) X w S ow GP Mt zj:=by
 refine bD.trans g e h k p ?_;intro b l o c j;cases h0:ow b with
 |none=>rw[h.um b o h0]at c;cases c
 |some l0=>
  refine⟨l0,rfl,?_⟩;by_cases f:L l0
  .exact .inl f
  rw[h.keep b l0 h0 f]at c;injection c with c;subst c;exact j
def bD.CW{l:Nat}(e:Wf w S ow)(c:Wf w' S' bT)(h:bD (iI l) X w S ow w' S' bT)(k:bD (iI l) X' w' S' bT GP Mt zj)(f:∀b,X' b->X b\/w.heap.size<=b):bD (iI l) X w S ow GP Mt zj:=
 (h.tr e c k f).mono (fun _ h=>h.elim id id) (fun _ h=>h)
def bD.trN{l:Nat}(e:Wf w S ow)(c:Wf w' S' bT)(h:bD aB X w S ow w' S' bT)(k:bD (iI l) X' w' S' bT GP Mt zj)(f:∀b,X' b->X b\/w.heap.size<=b):bD (iI l) X w S ow GP Mt zj:=
 (h.tr e c k f).mono (fun _ h=>h.elim (fun h=>h.elim) id) (fun _ h=>h)
def bD.sx{l:Nat}(h:bD (iI l) aB w S ow w' S' bT):SX (fun b=>ow b=some l) w w':=by
 refine⟨h.size,fun b c f=>?_⟩;cases ho:ow b with
 |none=>exact h.free b c ho (fun h=>h)
 |some l'=>exact h.GY b l' c ho (fun e=>f (ho.trans (congrArg some e)))
def bD.vi(h:bD aB aB w S ow w' S' bT)(X:Tai):SX X w w':=by
 refine⟨h.size,fun b c _=>?_⟩;cases ho:ow b with
 |none=>exact h.free b c ho (fun h=>h)
 |some l'=>exact h.GY b l' c ho (fun h=>h)
def SX.alloc(X:Tai)(w:Tam)(o:Obj):SX X w (w.alloc o):=⟨by simp,fun b c _=>Below.heap_alloc w o b c⟩
def SX.trans{X:Tai}(h:SX X w w')(k:SX X w' GP):SX X w GP:=⟨aY h.1 k.1,fun b e c=>(k.2 b (az e h.1) c).trans (h.2 b e c)⟩
def SX.iw{X:Tai}{l:Nat}(g:∀b,ow b=some l->X b)(h:bD (iI l) aB w S ow w' S' bT):SX X w w':=⟨h.size,fun b f c=>h.sx.2 b f (fun e=>c (g b e))⟩
def dB.E0{P:Tap}{l:Nat}{tt T:Tba}{t:Ty}{v:Tan}{xs:Taf}{d:D}(h:dB w S ow l T t v xs)(o:NU P tt T t=true)(k:t.cells.all Ty.scalar=true)(s:Wf w S ow)(ty:Tba)(B:Nat)(E:Has t d){us:Tac}(g:us.length=t.cells.length)(F:w.heap[B]?=some (.cells us.toArray T (0,0)))(C:∀(j:Nat) u c,us[j]?=some u->d.cells[j]?=some c->cg w S u c)(e:nh t (xs.length+1)):
  ∃p w',(Builtin.append_ #[tt,tt] ty #[v,.slice (some ⟨B,0,none⟩) 1 1]).run P w=.ok p w'/\∃bT,bD (iI l) aB w S ow w' S bT/\Wf w' S bT/\dB w' S bT l T t p (xs++[d]):=by
 refine h.mq (ys:=[d]) o k s ty (some ⟨B,0,none⟩) 1 us (by intro h;cases h) (by rw[g];simp) ?_ (by simpa using E) ?_ e
 .intro I b j u A;injection b with b;subst b;rw[fT,av];exact ja F A
 intro i H j u c f G q
 match i,f with
 |0,f=>
  simp at f;subst f;rw[Nat.zero_mul,av]at q;exact C j u c q G
end
section
variable{w w':Tam}{S:bE}{ow:Ow}{P:Tap}{ops:Tad}{Q:Iv}{SS:Tae}{n n0 i d:Nat}{a:Act}{m:Tab}{gd:Tao (Nat×Bool)}{LL r:List OK}{x y z:Tbb}{t:Tba}{v:Tan}
def Db{el:Tba}{b nn e sz s:Nat}{kk:IntKind}(k:Kn n a m)(q:SS w)(o:rq LL m gd=some true)(p:d<n)(j:mD m x=some (.slice (some ⟨b,0,none⟩) nn e))(g:mD m y=some (.int kk (s:Int)))(l:P.underlying t=some (.slice el))(c:iy P el=some sz)(u:s<nn)(h:∀f,Kn n f ((d,.pointer (some ⟨b,s*sz,none⟩))::m)->TL P ops Q SS n0 LL r (i+1) f w):TL P ops Q SS n0 LL ((some d,.indexAddr t x y,gd)::r) i a w:=by refine oR (off:=0) k q o p j g l c (by omega) (by omega) ?_;rw[av,bP];exact h
def eP{X:Tai}{b o:Nat}{v:Tan}(e:b<w.heap.size)(f:¬X b)(h:w.cell? ⟨b,o,none⟩=some v):∀w',SX X w w'->w'.cell? ⟨b,o,none⟩=some v:=fun w' c=>(bn (c.2 b e f)).trans h
def fF.cell{b j:Nat}{T:Tba}{vs:Tac}{v:Tan}(h:fF w S ow b T vs){X:Tai}(e:¬X b)(c:vs[j]?=some v):∀w',SX X w w'->w'.cell? ⟨b,j,none⟩=some v:=eP h.lt e (ja h.heap c)
end
def dB.wx{w:Tam}{S:bE}{ow:Ow}{iw i T:Nat}{v:Tan}{l:Taf}{n:Int}(h:dB w S ow iw T (.int .i64) v l)(hi:l[i]?=some (.int .i64 n)):
  ∃b c,v=.slice (some ⟨b,0,none⟩) l.length c/\b<w.heap.size/\ow b=some iw/\w.cell? ⟨b,i*1,none⟩=some (.int .i64 n):=by
 obtain⟨b,c,f,s,q,p,o,k,j⟩:=h.elem hi;have e:f.length=1:=o
 match f,e with
 | [u],_=>
  have g:=(j 0 u (.int .i64 n) rfl rfl).cQ;subst g;exact⟨b,c,s,q,p,k 0 _ rfl⟩
def fF.O{w c:Tam}{S:bE}{ow:Ow}{b:Nat}{T:Tba}{vs:Tac}(h:fF w S ow b T vs)(e:vm w c):fF c S ow b T vs:=h.J (bD.O e aB aB S ow) (fun h=>h)
def OJ{p q:Int}(h:p<q):Hd .lss p q=some true:=congrArg some (decide_eq_true h)
def OL{p q:Int}(h:¬p<q):Hd .lss p q=some false:=congrArg some (decide_eq_false h)
def It{p q:Int}(h:p>q):Hd .gtr p q=some true:=congrArg some (decide_eq_true h)
def DD{p q:Int}(h:¬p>q):Hd .gtr p q=some false:=congrArg some (decide_eq_false h)
def bD.eY{L:Tai}{w0 w f:Tam}{S0 S g:bE}{b ow ko:Ow}{l:Nat}(c:Wf w0 S0 b)(j:Wf w S ow)(h:bD L aB w0 S0 b w S ow)(k:bD (iI l) aB w S ow f g ko)(o:L l):bD L aB w0 S0 b f g ko:=
 (h.tr c j k (fun _ h=>h.elim)).mono (fun _ h=>h.elim id (fun e=>by rw[show _=l from e];exact o)) (fun _ h=>h)
def bD.Z{L X:Tai}{w0 w g:Tam}{S0 S j:bE}{c ow ko:Ow}(f:Wf w0 S0 c)(l:Wf w S ow)(h:bD L aB w0 S0 c w S ow)(k:bD aB X w S ow g j ko)(o:∀b,X b->w0.heap.size<=b):bD L aB w0 S0 c g j ko:=
 (h.tr f l k (fun b h=>.inr (o b h))).mono (fun _ h=>h.elim id (fun e=>e.elim)) (fun _ h=>h)
def bD.Y{L:Tai}{w0 w f:Tam}{S0 S:bE}{b ow:Ow}(c:Wf w0 S0 b)(g:Wf w S ow)(h:bD L aB w0 S0 b w S ow)(e:vm w f):bD L aB w0 S0 b f S ow:=h.Z c g (bD.O e aB aB S ow) (fun _ h=>h.elim)
def nE{X:Tai}:∀b,aB b->X b:=fun _ h=>h.elim
section
variable{P:Tap}{ops:Tad}{Q:Iv}{SS:Tae}{n n0 i d:Nat}{a:Act}{w:Tam}{m:Tab}{gd:Tao (Nat×Bool)}{LL r:List OK}{x y z:Tbb}{t t2:Tba}{v:Tan}
def ptB(P:Tap)(t:Tba):Bool:=match P.underlying t with
 |some (.pointer _)=>true
 |_=>false
def N3{p:Tao Addr}(b:ptB P t=true)(k:Kn n a m)(q:SS w)(j:rq LL m gd=some true)(o:d<n)(g:mD m x=some (.pointer p))(f:mD m y=some (.pointer none))(h:∀c,Kn n c ((d,.bool p.isSome)::m)->TL P ops Q SS n0 LL r (i+1) c w):TL P ops Q SS n0 LL ((some d,.binOp .neq t x y t2,gd)::r) i a w:=by
 refine qt k q j o (fun C e E w' _=>?_) h;have B:=k.op g;have A:=k.op f;unfold execOp;unfold ptB at b;split at b
 .rename_i D l;have u:=pQ (w:=w') l p x y;have s:(do eqGuard .neq t x y (.pointer p) (.pointer none);binOp .neq t (.pointer p) (.pointer none):Sem Tan).run P w'=.ok (.bool p.isSome) w':=by rw[u];cases p<;>rfl
  simp only[B,A];rw[bw,s];rfl
 cases b
def cg.NO{w:Tam}{S:bE}{v:Tan}{l:Taf}{t:Ty}{j:Nat}{d:D}(h:cg w S v (.list l))(F:l[j]?=some d)(G:Has t d)(E:0<t.cells.length):
  ∃(b off g:Nat) (us:Tac),v=.slice (some ⟨b,off,none⟩) l.length g/\S b (off+j*t.cells.length)/\us.length=t.cells.length/\(∀(q:Nat) u,us[q]?=some u->w.cell? ⟨b,off+j*t.cells.length+q,none⟩=some u)/\∀(q:Nat) u c,us[q]?=some u->d.cells[q]?=some c->cg w S u c:=by
 obtain⟨b,off,g,u,C,p⟩:=h.FO F;have s:=(cB G).1;refine⟨b,off,g,(List.range t.cells.length).map u,C,?_,by simp,?_,?_⟩
 .obtain⟨B,_⟩:=p 0 _ (aS (by omega));rw[s]at B;exact B
 .intro q y o;rw[ab,dn]at o;obtain⟨k,e,rfl⟩:=o;have f:q<t.cells.length:=by have:=(aO.1 e).1;simpa using this
  have:k=q:=by rw[da f]at e;injection e with e;exact e.symm
  subst this;obtain⟨_,A,_⟩:=p k _ (aS (by omega));rw[s]at A;exact A
 intro q y c o H;rw[ab,dn]at o;obtain⟨k,e,rfl⟩:=o;have f:q<t.cells.length:=by have:=(aO.1 e).1;simpa using this
 have:k=q:=by rw[da f]at e;injection e with e;exact e.symm
 subst this;exact(p k c H).2.2
def Wf.nx{w:Tam}{S:bE}{ow:Ow}(h:Wf w S ow){b o l:Nat}(c:S b o)(f:l<1000):¬ow b=some l:=fun e=>by have:=h.d b o l c e;omega
end
end Go.dF
