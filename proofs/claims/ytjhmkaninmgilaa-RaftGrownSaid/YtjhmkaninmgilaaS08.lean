/- Part 8 of the proof of RaftGrown; no condition. -/
import Derived.Test.YtjhmkaninmgilaaS07
set_option linter.defProp false
set_option linter.unusedVariables false
set_option linter.unusedSimpArgs false
set_option maxHeartbeats 4000000
namespace Go.dG
open Go Go.RowKit
section
variable{w w':Tan}{S S':bG}{ow cE:Ow}{P:Tba}
def BA{β:Nat->Nat}:∀{n:Nat} {vs:Tad} {ds:Tah} {o:Nat},vs.length=n->ds.length=n->(∀(i:Nat) v d,vs[i]?=some v->ds[i]?=some d->bV w S v d)->rC w S β (List.replicate n false) o vs ds
 |0,[],[],_,_,_,_=>trivial
 |n+1,v::vs,d::ds,o,hv,hd,h=>by refine⟨h 0 v d rfl rfl,BA (by simpa using hv) (by simpa using hd) fun i u e a b=>h (i+1) u e (by simpa using a) (by simpa using b)⟩
def kK.call{f:Nat}{G:dI}{ob ob0:Ob}{Pre:Tah->Prop}{Φ:Tah->D}{l b n:Nat}{cells:List (Tah)}{vs:Tad}{dd:Tah}(hf:bn P f G Pre Φ)(b7:G.ob=some ob)(b5:ob.wU=false)(a1:ob.shape=true::List.replicate n false)(a:ob.cC=ob0.cC)(r:ob.outs=ob0.cC)(R:ob0.shape=[true])(h2:1<=ob0.cC.length)(b2:2<=ob0.cC.length\/ob.mv=false)(a5:cJ G.res=[])(c5:1000<=l)(h:kK w S ow l ob0 b cells)(hw:Wf w S ow)(b3:vs.length=n)(c4:dd.length=n)(a3:∀(i:Nat) v d,vs[i]?=some v->dd[i]?=some d->bV w S v d)(b4:dr (.Y G.params) (dd++cells.flatten))(a4:Pre (dd++cells.flatten)):
  Calls P f (.pointer (some ⟨b,0,none⟩)::vs).toArray w fun e w'=>∃v S' cE N d0 q,e=.returned v/\Φ (dd++cells.flatten)=.fa (d0::q.map .agg)/\q.length=ob0.cC.length/\bB (iF l) ax w S ow w' S' cE/\Wf w' S' cE/\kK w' S' cE l ob0 b q/\gZ w' 0 S' N G.res v d0:=by
 obtain⟨s,N,hb,u,B⟩:=h;have a6:ob.new=false:=by unfold Ob.new;rw[r,a];simp
 have a9:gW ob.shape=1:=by
  have hz:(List.filter (fun b=>b) (List.replicate n false)).length=0:=by rw[List.length_eq_zero_iff,List.filter_eq_nil_iff];intro x hx;rw[(List.mem_replicate.1 hx).2];decide
  rw[a1];simp only[gW,List.filter_cons,if_true,bu];omega
 have b0:gW ob0.shape=1:=by rw[R];rfl
 have Z:ob.jz=ob0.jz:=by unfold Ob.jz;rw[a]
 have y:∀k,ug ob s N k↔ug ob0 s N k:=fun k=>by unfold ug;rw[a,Z]
 have a8:Cz w S ob s N (.pointer (some ⟨b,0,none⟩)::vs) dd cells:=by refine⟨u.lt,?_,by rw[a];exact u.len,by rw[a];exact u.cC,by rw[a];exact u.inj,by rw[Z];exact u.own,by rw[Z,a];exact u.eO,fun O=>by rw[a];exact u.link (by rw[b0];rw[a9,a]at O;exact O)⟩;rw[a1];exact⟨by rw[hb],BA b3 c4 a3⟩
 refine(hf.Ad ob b7 b5 w S s N _ dd cells a8 b4 a4).mono ?_;rintro e w1 ⟨v,S',τ',βn,rfl,ho⟩;obtain⟨d0,q,hd,p,J,A⟩:=ho.res;rw[a6]at J;simp only[ai,if_false]at J;have K:q.length=ob0.cC.length:=by rw[p,r]
 have H:∀o,o<ob0.cC.length->jU ob s βn o=s o\/(o=ob0.cC.length-1/\ob.mv=true/\jU ob s βn o=βn):=by
  intro o p;unfold jU;rw[a];by_cases O:ob.mv=true/\o=ob0.cC.length-1
  .exact .inr ⟨O.2,O.1,if_neg (fun h=>h.2 O)⟩
  exact .inl (if_pos ⟨p,O⟩)
 have b1:∀o,o<ob0.cC.length->ug ob0 s N (jU ob s βn o)\/w.heap.size<=jU ob s βn o:=by
  intro o p;rcases H o p with g|⟨_,g,h2⟩
  .rw[g];exact .inl (.inl ⟨o,p,rfl⟩)
  rw[h2];rcases ho.mvd g with z|z
  .rw[z,a];exact .inl (.inl ⟨_,by omega,rfl⟩)
  exact .inr z
 have E:∀j,j∈ob0.jz->j∈kr G ob:=by intro j C;unfold kr;rw[a5,r];exact C
 have L:∀k,ug ob0 (jU ob s βn) τ' k->ug ob0 s N k\/w.heap.size<=k:=by
  rintro k (⟨o,p,rfl⟩|⟨j,C,m⟩)
  .exact b1 o p
  rcases ho.fS j k (E j C) m with g|g
  .exact .inr g
  exact .inl ((y k).1 g)
 have Y:∀k,ug ob0 s N k->k<w.heap.size:=fun k m=>hw.o k l (B k m);have W:=ho.below.size
 classical
 refine⟨v,S',fun k=>if ug ob0 (jU ob s βn) τ' k then some l else if ow k=some l then none else ow k,τ',d0,q,rfl,hd,K,⟨W,ho.below.os,ho.below.tape,ho.below.output,?_,?_,ho.jx,ho.keep,?_,?_,?_,fun k l' m=>(by
   replace m:(if ug ob0 (jU ob s βn) τ' k then some l else if ow k=some l then none else ow k)=some l':=m;split at m
   .injection m with m;exact .inr m.symm
   split at m
   .cases m
   exact .inl m)⟩,⟨ho.lt,?_,?_⟩,⟨jU ob s βn,τ',?_,⟨ho.lt,?_,by rw[K],?_,?_,?_,?_,?_⟩,fun k m=>if_pos m⟩,J⟩
 .intro k l' m p I;exact ho.below.block k m (fun M=>I (by have:=(B k ((y k).1 M)).symm.trans p;injection this with this;exact this.symm))
 .intro k m I _;exact ho.below.block k m (fun M=>by rw[B k ((y k).1 M)]at I;cases I)
 .intro k l' m I;show(if ug ob0 (jU ob s βn) τ' k then some l else if ow k=some l then none else ow k)=some l';rw[if_neg,if_neg,m]
  .rw[m];intro e;injection e with e;exact I e
  intro M;rcases L k M with g|g
  .have:=(B k g).symm.trans m;injection this with this;exact I this.symm
  have:=hw.o k l' m;omega
 .intro k o hs;rcases ho.new k o hs with g|g|g
  .exact .inl g
  .exact .inr (.inl g)
  exact .inr (.inr ⟨l,B k ((y k).1 g),rfl⟩)
 .intro k m I;show(if ug ob0 (jU ob s βn) τ' k then some l else if ow k=some l then none else ow k)=none;rw[if_neg,if_neg (by rw[I];intro e;cases e)]
  .exact I
  intro M;rcases L k M with g|g
  .rw[B k g]at I;cases I
  omega
 .intro k l' m;replace m:(if ug ob0 (jU ob s βn) τ' k then some l else if ow k=some l then none else ow k)=some l':=m;split at m
  .rename_i M;rcases L k M with g|g
   .exact ar (Y k g) W
   rcases M with⟨o,p,rfl⟩|⟨j,C,I7⟩
   .obtain⟨rc,X⟩:∃rc,ob0.cC[o]?=some rc:=⟨_,aR p⟩;obtain⟨cs,a0⟩:∃cs,q[o]?=some cs:=⟨_,aR (by omega)⟩;obtain⟨Q,T,hh,_⟩:=A o rc cs (by rw[r];exact X) a0;exact(aI.1 hh).1
   obtain⟨rc,X,c1⟩:=cU.1 C;obtain⟨x,hx,V⟩:=bE.1 c1;obtain⟨o,p,b6⟩:=fD X;obtain⟨i,c2,c3⟩:=fD hx;obtain⟨cs,a0⟩:∃cs,q[o]?=some cs:=⟨_,aR (by omega)⟩;obtain⟨Q,T,hh,z,F,h5,_⟩:=A o rc cs (by rw[r,aR p,b6]) a0;have O:=h5 i x (Q[i]'(by omega)) (cs[i]'(by omega)) (by rw[aR c2,c3]) (aR _) (aR _);obtain⟨t,ro⟩:=x;cases ro with
   |none=>cases V
   |some jT=>
    simp only[aS,aa]at V;subst V;obtain⟨_,hO⟩:=O;obtain⟨xs,l2,_,a2,_⟩:=hO.own;exact(a2.lt k I7).2
  split at m
  .cases m
  exact ar (hw.o k l' m) W
 .intro k o l' hs m;replace m:(if ug ob0 (jU ob s βn) τ' k then some l else if ow k=some l then none else ow k)=some l':=m;split at m
  .injection m with m;omega
  split at m
  .cases m
  rename_i b8;rcases ho.new k o hs with g|g|g
  .exact hw.d k o l' g m
  .have:=hw.o k l' m;omega
  exact absurd (B k ((y k).1 g)) b8
 .rcases H 0 (by omega) with g|⟨g,z,_⟩
  .rw[g,hb]
  rcases b2 with F|F
  .omega
  rw[z]at F;cases F
 .rw[R];refine⟨?_,trivial⟩;rcases H 0 (by omega) with g|⟨g,z,_⟩
  .rw[g,hb]
  rcases b2 with F|F
  .omega
  rw[z]at F;cases F
 .intro o rc cs g z;exact A o rc cs (by rw[r];exact g) z
 .intro i j hi C U;rcases H i hi with g|⟨g,c0,z⟩
  .rcases H j C with F|⟨F,b9,h5⟩
   .rw[g,F]at U;exact u.inj i j hi C U
   rw[g,h5]at U;rcases ho.mvd b9 with h6|h6
   .rw[h6,a]at U;have:=u.inj i (ob0.cC.length-1) hi (by omega) U;omega
   have:=Y (s i) (.inl ⟨i,hi,rfl⟩);omega
  rcases H j C with F|⟨F,_⟩
  .rw[z,F]at U;rcases ho.mvd c0 with h6|h6
   .rw[h6,a]at U;have:=u.inj (ob0.cC.length-1) j (by omega) C U;omega
   have:=Y (s j) (.inl ⟨j,C,rfl⟩);omega
  omega
 .intro j k b' C m g z;exact ho.own j k b' (E j C) (E k m) g z
 .intro j o b' C p g;exact ho.eO j o b' (E j C) (by rw[r];exact p) g
 intro a7 o c rc g z;have:=ho.link (by rw[a9,a];rw[b0]at a7;exact a7) o c rc (by rw[r];exact g) z;rw[a]at this;exact this
def CO{f:Nat}{a:dI}{Pre:Tah->Prop}{Φ:Tah->D}{vs:Tad}{dd:Tah}(t:bn P f a Pre Φ)(q:a.ob=none)(j:Wf w S ow)(g:vs.length=dd.length)(k:∀(i:Nat) v d,vs[i]?=some v->dd[i]?=some d->bV w S v d)(p:dr (.Y a.params) dd)(m:Pre dd):
  Calls P f vs.toArray w fun e w'=>∃v S' n,e=.returned v/\bB ax ax w S ow w' S' ow/\Wf w' S' ow/\gZ w' 0 S' n a.res v (Φ dd):=by
 refine(t.calls q w S vs dd j.s g k p m).mono ?_;rintro e u ⟨v,S',n,rfl,hb,h1,h2,h3,h4,_⟩;refine⟨v,S',n,rfl,⟨hb.size,hb.os,hb.tape,hb.output,fun b _ c _ _=>hb.block b c,fun b c _ _=>hb.block b c,h1,fun b o hs=>bj (hb.block b (j.s b o hs)),fun _ _ h _=>h,fun b o hs=>(h3 b o hs).imp id .inl,fun _ _ h=>h,fun _ _ h=>.inl h⟩,⟨h2,fun b l g=>ar (j.o b l g) hb.size,?_⟩,h4⟩;intro b o l hs g;rcases h3 b o hs with r|r
 .exact j.d b o l r g
 have:=j.o b l g;omega
end
def Pc{P:Tba}(w:Tan)(tt T:Tbb)(u:Tao)(c:TypeInfo)(z:Tao)(C:P.underlying tt=some (.slice T))(q:P.info? T=some c)(B:c.zero=some z)(j:u.cells.size=c.size)(A:0<c.size)(k:c.size<=2 ^ 24):
  (Instr.buildSlice tt 1 #[(0,u)]).run P w=.ok (.slice (some ⟨w.heap.size,0,none⟩) 1 1) (w.alloc (.cells u.cells T)):=by
 refine run_buildSlice w tt T 1 _ u.cells c z C q B (by omega) (by omega) ?_;obtain⟨b,p⟩:∃b:Tad,u.cells=b.toArray:=⟨u.cells.toList,by simp⟩;simp only[Instr.fill,Nat.zero_mul,Nat.one_mul,aq];rw[p]at j⊢;have h:b.length=c.size:=by simpa using j
 obtain⟨e,l,o⟩:∃e:Tad,(Array.range c.size).map (fun x=>z.cells[x % z.cells.size]!)=e.toArray/\e.length=c.size:=⟨((Array.range c.size).map (fun x=>z.cells[x % z.cells.size]!)).toList,by rw[Array.toArray_toList],by simp⟩;rw[l];have s:=foldl_set 0 b 0 e (by omega);simp only[aq,fN,eL]at s;have f:e.drop b.length=[]:=bQ (by omega);rw[f,aX]at s
 have g:¬((b.toArray.size≠c.size||decide (b.toArray.size>e.toArray.size))=true):=by simp[h,o]
 rw[if_neg g]
 have D:b.toArray.zipIdx.foldl (fun E (x:Tao×Nat)=>E.setIfInBounds x.2 x.1) e.toArray=b.toArray:=by rw[show b.toArray.zipIdx=(b.zipIdx).toArray by simp];exact(List.foldl_toArray' _ _ _ (by simp)).trans s
 exact congrArg some D
def Cq(P:Tba)(tt T:Tbb)(k:Nat):Bool:=match P.underlying tt with
 |some (.slice e)=>e==T&&(match P.info? T with
  |some ie=>ie.size==k&&ie.zero.isSome&&decide (0<k)&&decide (k<=100)
  |none=>false)
 |_=>false
def Lk{P:Tba}{tt T:Tbb}{k:Nat}(h:Cq P tt T k=true)(w:Tan)(u:Tao)(l:u.cells.size=k):(Instr.buildSlice tt 1 #[(0,u)]).run P w=.ok (.slice (some ⟨w.heap.size,0,none⟩) 1 1) (w.alloc (.cells u.cells T)):=by
 unfold Cq at h;split at h
 .rename_i e g;rw[aP,beq_iff_eq]at h;obtain⟨rfl,h⟩:=h;split at h
  .rename_i c b;simp only[aP,beq_iff_eq,bg]at h;obtain⟨⟨⟨q,j⟩,p⟩,o⟩:=h;obtain⟨z,f⟩:=cW.1 j;exact Pc w tt e u c z g b f (by omega) (by omega) (by omega)
  cases h
 cases h
section
variable{P:Tba}{ops:Tae}{Q:O3}{SS:Taf}{n n0 i d:Nat}{a:Act}{w:Tan}{m:Tac}{gd:Tap (Nat×Bool)}{LL r:List OK}
variable{x y z:Tbc}{t t2 tt T:Tbb}{v u:Tao}{S:bG}{ow:Ow}
def uv{us:Tad}(k:Kn n a m)(f:n0<=i)(g:qd LL m gd=some true)(j:d<n)(e:lq m x=some v)(l:v.cells=us.toArray)(o:r≠[]->SS (w.alloc (.cells us.toArray t)))(h:∀b,Kn n b ((d,.pointer (some ⟨w.heap.size,0,none⟩))::m)->TL P ops Q SS n0 LL r (i+1) b (w.alloc (.cells us.toArray t))):TL P ops Q SS n0 LL ((some d,.box t x,gd)::r) i a w:=by refine tO k f g j (fun p c q=>⟨_,_,?_,o,h⟩);have:=k.op e;unfold execOp;simp only[Instr.box];simp[newVar,newRow,this,l]
def mn{nn:Nat}(k:Kn n a m)(j:n0<=i)(l:qd LL m gd=some true)(o:d<n)(g:((P.info? t).bind (·.zero)).map (fun z=>z.cells.size)=some nn)(p:∀b:Tad,r≠[]->SS (w.alloc (.cells b.toArray t)))(h:∀b:Tad,b.length=nn->∀e,Kn n e ((d,.pointer (some ⟨w.heap.size,0,none⟩))::m)->TL P ops Q SS n0 LL r (i+1) e (w.alloc (.cells b.toArray t))):TL P ops Q SS n0 LL ((some d,.alloc t,gd)::r) i a w:=by refine tO k j l o (fun f c A=>?_);obtain⟨b,s,q⟩:=IU (P:=P) (a:=a) (w:=w) (dst:=some d) (ty:=f) (pos:=c) (af:=A) (gd:=gd) g;refine⟨_,_,?_,p b.toList,h b.toList (by simpa using s)⟩;simpa using q
def lX{kk:Nat}(k:Kn n a m)(g:n0<=i)(j:qd LL m gd=some true)(l:d<n)(e:lq m x=some v)(f:Cq P tt T kk=true)(o:v.cells.size=kk)(p:r≠[]->SS (w.alloc (.cells v.cells T)))(h:∀b,Kn n b ((d,.slice (some ⟨w.heap.size,0,none⟩) 1 1)::m)->TL P ops Q SS n0 LL r (i+1) b (w.alloc (.cells v.cells T))):TL P ops Q SS n0 LL ((some d,.buildSlice tt 1 #[(0,x)],gd)::r) i a w:=by refine tO k g j l (fun s c A=>⟨_,_,?_,p,h⟩);have:=k.op e;have q:=Lk f w v o;unfold execOp;simp[this,q]
def gU{b:Tbe (Nat×Tbc)}{ps:Tac}{vs:Tad}(k:Kn n a m)(B:SS w)(p:qd LL m gd=some true)(s:d<n)(o:b.toList.map (fun y=>(lq m y.2).map fun v=>(y.1,v))=ps.map some)(A:P.built t ps=some vs.toArray)(h:∀e,Kn n e ((d,.agg vs.toArray)::m)->TL P ops Q SS n0 LL r (i+1) e w):TL P ops Q SS n0 LL ((some d,.build t b,gd)::r) i a w:=by
 refine qe k B p s (fun F g G f _=>?_) h
 have j:(b.map fun(i,x)=>(i,a.eval x)).toList=ps:=by
  rw[fI]
  have c:∀(l:List (Nat×Tbc)) (qs:Tac),l.map (fun y=>(lq m y.2).map fun v=>(y.1,v))=qs.map some->l.map (fun y=>(y.1,a.eval y.2))=qs:=by
   intro l
   induction l with
   |nil=>intro qs h;cases qs with|nil=>rfl|cons=>cases h
   |cons y l ih=>
    intro qs h;cases qs with
    |nil=>cases h
    |cons q qs=>
     simp only[ct,dD,cQ]at h;obtain⟨⟨v,E,D⟩,C⟩:=h;rw[ct,ih qs C,k.op E,D]
  exact c b.toList ps o
 unfold execOp;simp only[bz,run_build f t _ _ (j▸A),bZ];rfl
def lv{b off:Nat}{cur:Tbe Tao}{TT:Tbb}{vs:Tad}(k:Kn n a m)(p:n0<=i)(q:qd LL m gd=some true)(hs:ik P t=some vs.length)(o:lq m x=some (.pointer (some ⟨b,off,none⟩)))(l:lq m y=some v)(s:v.cells=vs.toArray)(f:w.heap[b]?=some (.cells cur TT (0,0)))(e:off+vs.length<=cur.size)(c:∀v∈vs,v.oneCell'=true)(A:r≠[]->SS (w.setRow b (cur.toList.take off++vs++cur.toList.drop (off+vs.length)).toArray))(h:∀g,Kn n g m->TL P ops Q SS n0 LL r (i+1) g (w.setRow b (cur.toList.take off++vs++cur.toList.drop (off+vs.length)).toArray)):TL P ops Q SS n0 LL ((none,.store t x y,gd)::r) i a w:=
 afQ k p q (fun B j C=>IQ hs (k.op o) (by rw[k.op l];exact s) f e c) A h
def jV{b off:Nat}{cur:Tad}{TT:Tbb}(k:Kn n a m)(p:n0<=i)(q:qd LL m gd=some true)(hs:ik P t=some 1)(o:lq m x=some (.pointer (some ⟨b,off,none⟩)))(l:lq m y=some v)(s:v.cells=#[v])(g:w.heap[b]?=some (.cells cur.toArray TT (0,0)))(f:off<cur.length)(c:v.oneCell'=true)(A:r≠[]->SS (w.setRow b (cur.set off v).toArray))(h:∀j,Kn n j m->TL P ops Q SS n0 LL r (i+1) j (w.setRow b (cur.set off v).toArray)):TL P ops Q SS n0 LL ((none,.store t x y,gd)::r) i a w:=by
 have e:(cur.toArray.toList.take off++[v]++cur.toArray.toList.drop (off+[v].length))=cur.set off v:=Bj f;refine lv (vs:=[v]) (cur:=cur.toArray) k p q hs o l (by rw[s]) g (by simp;omega) (by simpa using c) ?_ ?_
 .rw[e];exact A
 rw[e];exact h
def OW(P:Tba)(t f:Nat):Tal:=match kj P t f with
 |some (fl,nn)=>if iW P fl.type=false/\(P.underlying fl.type).isSome=true/\nn=1 then some fl.offset else none
 |none=>none
def Az{f off:Nat}{vs:Tad}(k:Kn n a m)(J:SS w)(G:qd LL m gd=some true)(H:d<n)(D:lq m x=some (.agg vs.toArray))(b:OW P t f=some off)(q:vs[off]?=some v)(h:∀A,Kn n A ((d,v)::m)->TL P ops Q SS n0 LL r (i+1) A w):TL P ops Q SS n0 LL ((some d,.field t x f,gd)::r) i a w:=by
 refine qe k J G H (fun L C O B _=>?_) h;unfold OW at b;split at b
 .rename_i fl M o;split at b
  .rename_i c;obtain⟨I,l,rfl⟩:=c;injection b with b;subst b;obtain⟨K,l⟩:=cW.1 l;obtain⟨N,E,p,hs⟩:=uR o;have F:=(aD.1 q).1;have s:=rL (w:=B) (n:=1) (off:=fl.offset) l hs vs (by omega) (fun _=>by decide)
   have g:valOf P fl.type ((vs.drop fl.offset).take 1)=v:=by
    have e:(vs.drop fl.offset).take 1=[v]:=by
     apply eH;intro j;rw[aC,aL]
     match j with
     |0=>simpa using q
     |j+1=>simp
    rw[e];simp[valOf,I]
   rw[g]at s;unfold execOp;simp only[k.op D,Instr.field,asAgg];simp[run_underlying E,p,s]
  cases b
 cases b
end
def results_tmp{fn:Func}{t:Nat}(h:fn.results=#[.tmp t])(tmps:Tbe Tao)(P:Tba)(w:Tan):(results fn tmps).run P w=.ok (tmps.getD t undef) w:=by simp[results,h]
def na{P:Tba}{fn:Func}{R:Ending->Taf}{a:Act}{w:Tan}{n:Nat}{m:Tac}(b:fn.results=#[])(k:Kn n a m)(h:R (.returned (.tuple #[])) w):bodyPost P fn R .ret a w/\bodyPost P fn R .normal a w:=
 ⟨⟨k.2.1,_,results_none b _ _ _,h⟩,⟨k.2.1,_,results_none b _ _ _,h⟩⟩
def rQ{P:Tba}{fn:Func}{R:Ending->Taf}{a:Act}{w:Tan}{n t:Nat}{m:Tac}{v:Tao}(b:fn.results=#[.tmp t])(k:Kn n a m)(e:lk m t=some v)(h:R (.returned v) w):bodyPost P fn R .ret a w/\bodyPost P fn R .normal a w:=by
 have f:=k.2.2 t v e;have c:a.tmps.getD t undef=v:=by simp[f]
 exact⟨⟨k.2.1,_,results_tmp b _ _ _,by rw[c];exact h⟩,⟨k.2.1,_,results_tmp b _ _ _,by rw[c];exact h⟩⟩
def jw{P:Tba}{fn:Func}{R:Ending->Taf}:QP (bodyPost P fn R):=fun c a d v w h=>(by cases d<;>exact h)
def Fu:Tad->Nat->Tac
 |[],_=>[]
 |v::r,i=>(i,v)::Fu r (i+1)
def Dg:∀(l:Tad) (i t:Nat) (v:Tao),lk (Fu l i) t=some v->i<=t/\l[t-i]?=some v
 |[],_,_,_,h=>by cases h
 |x::r,i,t,v,h=>by
  simp only[Fu,lk]at h;split at h
  .rename_i c;have b:t=i:=by simpa using c
   subst b;injection h with h;subst h;exact⟨aM _,by simp⟩
  obtain⟨f,e⟩:=Dg r (i+1) t v h;refine⟨by omega,?_⟩;rw[show t-i=(t-(i+1))+1 by omega];simpa using e
def O7{n:Nat}{vs:Tad}(h:vs.length<=n):Kn n {tmps:=vs.toArray++Array.replicate (n-vs.toArray.size) undef,defers:=[]} (Fu vs 0):=by refine⟨by simp;omega,rfl,fun t v c=>?_⟩;obtain⟨_,b⟩:=Dg vs 0 t v c;rw[Nat.sub_zero]at b;have e:=(aD.1 b).1;rw[Array.getElem?_append_left (by simpa using e)];simpa using b
def lh{P:Tba}{f:FuncId}{fn:Func}{n:Nat}{c:Code}{vs:Tad}{w:Tan}{R:Ending->Taf}(g:P.funcs[f]?=some fn)(k:fn.body=some (cA fn))(j:cA fn=c)(b:fn.ntmps=n)(e:vs.length<=n)(h:∀a,Kn n a (Fu vs 0)->c.wp P (bodyPost P fn R) a w):Calls P f vs.toArray w R:=by refine calls_of_wp g k ?_;rw[j,b];exact h _ (O7 e)
def bw{P:Tba}{Q:O3}{n:Nat}{a:Act}{w:Tan}{m:Tac}{c:Tbc}{x y:Code}{b:Bool}(k:Kn n a m)(e:lq m c=some (.bool b))(h:(if b then x else y).wp P Q a w):(Code.cond c x y).wp P Q a w:=wp_cond (k.op e) h
section
variable{L L' X X':Taj}{w w' GW:Tan}{S S' Mi:bG}{ow cE zM:Ow}
def bB.tr(g:Wf w S ow)(e:Wf w' S' cE)(h:bB L X w S ow w' S' cE)(k:bB L' X' w' S' cE GW Mi zM)(p:∀b,X' b->X b\/w.heap.size<=b):bB (fun l=>L l\/L' l) X w S ow GW Mi zM:=by
 refine bB.trans g e h k p ?_;intro b l o c j;cases h0:ow b with
 |none=>rw[h.qT b o h0]at c;cases c
 |some l0=>
  refine⟨l0,rfl,?_⟩;by_cases f:L l0
  .exact .inl f
  rw[h.keep b l0 h0 f]at c;injection c with c;subst c;exact j
def bB.Di{l:Nat}(e:Wf w S ow)(c:Wf w' S' cE)(h:bB (iF l) X w S ow w' S' cE)(k:bB (iF l) X' w' S' cE GW Mi zM)(f:∀b,X' b->X b\/w.heap.size<=b):bB (iF l) X w S ow GW Mi zM:=
 (h.tr e c k f).mono (fun _ h=>h.elim id id) (fun _ h=>h)
def bB.trN{l:Nat}(e:Wf w S ow)(c:Wf w' S' cE)(h:bB ax X w S ow w' S' cE)(k:bB (iF l) X' w' S' cE GW Mi zM)(f:∀b,X' b->X b\/w.heap.size<=b):bB (iF l) X w S ow GW Mi zM:=
 (h.tr e c k f).mono (fun _ h=>h.elim (fun h=>h.elim) id) (fun _ h=>h)
def bB.sx{l:Nat}(h:bB (iF l) ax w S ow w' S' cE):SX (fun b=>ow b=some l) w w':=by
 refine⟨h.size,fun b c f=>?_⟩;cases ho:ow b with
 |none=>exact h.free b c ho (fun h=>h)
 |some l'=>exact h.E1 b l' c ho (fun e=>f (ho.trans (congrArg some e)))
def bB.xL(h:bB ax ax w S ow w' S' cE)(X:Taj):SX X w w':=by
 refine⟨h.size,fun b c _=>?_⟩;cases ho:ow b with
 |none=>exact h.free b c ho (fun h=>h)
 |some l'=>exact h.E1 b l' c ho (fun h=>h)
def SX.alloc(X:Taj)(w:Tan)(o:Obj):SX X w (w.alloc o):=⟨by simp,fun b c _=>Below.heap_alloc w o b c⟩
def SX.trans{X:Taj}(h:SX X w w')(k:SX X w' GW):SX X w GW:=⟨aY h.1 k.1,fun b e c=>(k.2 b (ar e h.1) c).trans (h.2 b e c)⟩
def SX.iu{X:Taj}{l:Nat}(g:∀b,ow b=some l->X b)(h:bB (iF l) ax w S ow w' S' cE):SX X w w':=⟨h.size,fun b f c=>h.sx.2 b f (fun e=>c (g b e))⟩
def dA.Fa{P:Tba}{l:Nat}{tt T:Tbb}{t:Ty}{v:Tao}{xs:Tah}{d:D}(h:dA w S ow l T t v xs)(o:Oe P tt T t=true)(k:t.cells.all Ty.scalar=true)(s:Wf w S ow)(ty:Tbb)(B:Nat)(E:Has t d){us:Tad}(g:us.length=t.cells.length)(F:w.heap[B]?=some (.cells us.toArray T (0,0)))(C:∀(j:Nat) u c,us[j]?=some u->d.cells[j]?=some c->bV w S u c)(e:mG t (xs.length+1)):
  ∃p w',(Builtin.append_ #[tt,tt] ty #[v,.slice (some ⟨B,0,none⟩) 1 1]).run P w=.ok p w'/\∃cE,bB (iF l) ax w S ow w' S cE/\Wf w' S cE/\dA w' S cE l T t p (xs++[d]):=by
 refine h.sZ (ys:=[d]) o k s ty (some ⟨B,0,none⟩) 1 us (by intro h;cases h) (by rw[g];simp) ?_ (by simpa using E) ?_ e
 .intro I b j u A;injection b with b;subst b;rw[fL,aq];exact iq F A
 intro i H j u c f G q
 match i,f with
 |0,f=>
  simp at f;subst f;rw[Nat.zero_mul,aq]at q;exact C j u c q G
end
section
variable{w w':Tan}{S:bG}{ow:Ow}{P:Tba}{ops:Tae}{Q:O3}{SS:Taf}{n n0 i d:Nat}{a:Act}{m:Tac}{gd:Tap (Nat×Bool)}{LL r:List OK}{x y z:Tbc}{t:Tbb}{v:Tao}
def DC{el:Tbb}{b nn e sz s:Nat}{kk:IntKind}(k:Kn n a m)(q:SS w)(o:qd LL m gd=some true)(p:d<n)(j:lq m x=some (.slice (some ⟨b,0,none⟩) nn e))(g:lq m y=some (.int kk (s:Int)))(l:P.underlying t=some (.slice el))(c:ik P el=some sz)(u:s<nn)(h:∀f,Kn n f ((d,.pointer (some ⟨b,s*sz,none⟩))::m)->TL P ops Q SS n0 LL r (i+1) f w):TL P ops Q SS n0 LL ((some d,.indexAddr t x y,gd)::r) i a w:=by refine ot (off:=0) k q o p j g l c (by omega) (by omega) ?_;rw[aq,cY];exact h
def eP{X:Taj}{b o:Nat}{v:Tao}(e:b<w.heap.size)(f:¬X b)(h:w.cell? ⟨b,o,none⟩=some v):∀w',SX X w w'->w'.cell? ⟨b,o,none⟩=some v:=fun w' c=>(bj (c.2 b e f)).trans h
def fU.cell{b j:Nat}{T:Tbb}{vs:Tad}{v:Tao}(h:fU w S ow b T vs){X:Taj}(e:¬X b)(c:vs[j]?=some v):∀w',SX X w w'->w'.cell? ⟨b,j,none⟩=some v:=eP h.lt e (iq h.heap c)
end
def dA.vY{w:Tan}{S:bG}{ow:Ow}{iu i T:Nat}{v:Tao}{l:Tah}{n:Int}(h:dA w S ow iu T (.int .i64) v l)(j:l[i]?=some (.int .i64 n)):
  ∃b c,v=.slice (some ⟨b,0,none⟩) l.length c/\b<w.heap.size/\ow b=some iu/\w.cell? ⟨b,i*1,none⟩=some (.int .i64 n):=by
 obtain⟨b,c,f,A,s,q,p,o,k⟩:=h.elem j;have e:f.length=1:=p
 match f,e with
 | [u],_=>
  have g:=(k 0 u (.int .i64 n) rfl rfl).dj;subst g;exact⟨b,c,A,s,q,o 0 _ rfl⟩
def fU.W{w c:Tan}{S:bG}{ow:Ow}{b:Nat}{T:Tbb}{vs:Tad}(h:fU w S ow b T vs)(e:zD w c):fU c S ow b T vs:=h.O (bB.W e ax ax S ow) (fun h=>h)
def Yi{p q:Int}(h:p<q):Hd .lss p q=some true:=congrArg some (decide_eq_true h)
def Yj{p q:Int}(h:¬p<q):Hd .lss p q=some false:=congrArg some (decide_eq_false h)
def HZ{p q:Int}(h:p>q):Hd .gtr p q=some true:=congrArg some (decide_eq_true h)
def DY{p q:Int}(h:¬p>q):Hd .gtr p q=some false:=congrArg some (decide_eq_false h)
def bB.fF{L:Taj}{w0 w f:Tan}{S0 S g:bG}{b ow iT:Ow}{l:Nat}(c:Wf w0 S0 b)(j:Wf w S ow)(h:bB L ax w0 S0 b w S ow)(k:bB (iF l) ax w S ow f g iT)(o:L l):bB L ax w0 S0 b f g iT:=
 (h.tr c j k (fun _ h=>h.elim)).mono (fun _ h=>h.elim id (fun e=>by rw[show _=l from e];exact o)) (fun _ h=>h)
def bB.eC{L X:Taj}{w0 w g:Tan}{S0 S j:bG}{c ow iT:Ow}(f:Wf w0 S0 c)(l:Wf w S ow)(h:bB L ax w0 S0 c w S ow)(k:bB ax X w S ow g j iT)(o:∀b,X b->w0.heap.size<=b):bB L ax w0 S0 c g j iT:=
 (h.tr f l k (fun b h=>.inr (o b h))).mono (fun _ h=>h.elim id (fun e=>e.elim)) (fun _ h=>h)
def bB.eN{L:Taj}{w0 w f:Tan}{S0 S:bG}{b ow:Ow}(c:Wf w0 S0 b)(g:Wf w S ow)(h:bB L ax w0 S0 b w S ow)(e:zD w f):bB L ax w0 S0 b f S ow:=h.eC c g (bB.W e ax ax S ow) (fun _ h=>h.elim)
def nE{X:Taj}:∀b,ax b->X b:=fun _ h=>h.elim
section
variable{P:Tba}{ops:Tae}{Q:O3}{SS:Taf}{n n0 i d:Nat}{a:Act}{w:Tan}{m:Tac}{gd:Tap (Nat×Bool)}{LL r:List OK}{x y z:Tbc}{t t2:Tbb}{v:Tao}
def ptB(P:Tba)(t:Tbb):Bool:=match P.underlying t with
 |some (.pointer _)=>true
 |_=>false
def Ot{p:Tap Addr}(b:ptB P t=true)(k:Kn n a m)(q:SS w)(j:qd LL m gd=some true)(o:d<n)(g:lq m x=some (.pointer p))(f:lq m y=some (.pointer none))(h:∀c,Kn n c ((d,.bool p.isSome)::m)->TL P ops Q SS n0 LL r (i+1) c w):TL P ops Q SS n0 LL ((some d,.binOp .neq t x y t2,gd)::r) i a w:=by
 refine qe k q j o (fun C e E w' _=>?_) h;have B:=k.op g;have A:=k.op f;unfold execOp;unfold ptB at b;split at b
 .rename_i D l;have u:=py (w:=w') l p x y;have s:(do eqGuard .neq t x y (.pointer p) (.pointer none);binOp .neq t (.pointer p) (.pointer none):Sem Tao).run P w'=.ok (.bool p.isSome) w':=by rw[u];cases p<;>rfl
  simp only[B,A];rw[bz,s];rfl
 cases b
def bV.Fs{w:Tan}{S:bG}{v:Tao}{l:Tah}{t:Ty}{j:Nat}{d:D}(h:bV w S v (.list l))(F:l[j]?=some d)(G:Has t d)(E:0<t.cells.length):
  ∃(b off g:Nat) (us:Tad),v=.slice (some ⟨b,off,none⟩) l.length g/\S b (off+j*t.cells.length)/\us.length=t.cells.length/\(∀(q:Nat) u,us[q]?=some u->w.cell? ⟨b,off+j*t.cells.length+q,none⟩=some u)/\∀(q:Nat) u c,us[q]?=some u->d.cells[q]?=some c->bV w S u c:=by
 obtain⟨b,off,g,u,C,p⟩:=h.FW F;have s:=(cZ G).1;refine⟨b,off,g,(List.range t.cells.length).map u,C,?_,by simp,?_,?_⟩
 .obtain⟨B,_⟩:=p 0 _ (aR (by omega));rw[s]at B;exact B
 .intro q y o;rw[ab,cQ]at o;obtain⟨k,e,rfl⟩:=o;have f:q<t.cells.length:=by have:=(aD.1 e).1;simpa using this
  have:k=q:=by rw[cN f]at e;injection e with e;exact e.symm
  subst this;obtain⟨_,A,_⟩:=p k _ (aR (by omega));rw[s]at A;exact A
 intro q y c o H;rw[ab,cQ]at o;obtain⟨k,e,rfl⟩:=o;have f:q<t.cells.length:=by have:=(aD.1 e).1;simpa using this
 have:k=q:=by rw[cN f]at e;injection e with e;exact e.symm
 subst this;exact(p k c H).2.2
def Wf.nx{w:Tan}{S:bG}{ow:Ow}(h:Wf w S ow){b o l:Nat}(hs:S b o)(c:l<1000):¬ow b=some l:=fun e=>by have:=h.d b o l hs e;omega
end
end Go.dG
