/- Part 2 of the proof of RaftOut; no condition. -/
import Derived.Test.YtjhmkaninmgilaaS01
import Derived.Laws.MakeOwn
set_option linter.defProp false
set_option linter.unusedVariables false
set_option linter.unusedSimpArgs false
set_option maxHeartbeats 4000000
open Go.IntKind (i64)
namespace Go.dI
open Go Go.RowKit
section
variable{P:Tap}{C:Cx}{w w0:Tam}{S0:gJ}{G:Gh}{σ:St}{a:Act}{o:Tbc}{pc:dB}{s:SV}{is:List Item}{Φ:Taa}{Pre:eN}{n p:Nat}{cs:mG}
def pz{g:Tag}{t:Ty}{e:E}{T:Tba}(h:qL σ g t=some (e,T)):σ.live g=some (e,T,t)∧g.ex=true∧0<t.cells.length:=by
 unfold qL at h;split at h
 ·rename_i j k i b;split at h
  ·rename_i c;obtain⟨rfl,f,d⟩:=c;obtain⟨rfl,rfl⟩:=iD h;exact⟨b,f,d⟩
  ·cases h
 ·cases h
def wM{g:Tag}{x:E×Tba×Ty}(h:σ.live g=some x):eT σ.live [(g,some x)] =σ.live:=by
 rw[sW,dD];funext y;split
 ·rename_i b;rw[b,h]
 ·rfl
def eW.Rg(O:eW w0 S0 C G σ w){g:Tag}{e:E}{T:Tba}{t:Ty}(Q:σ.live g=some (e,T,t)){b k I:Nat}(r:G.τ g= .slice (some ⟨b,0,none⟩) k I):
  ∃(cur:Tbd Tan) (l:Taf),w.heap[b]? =some (.cells cur T (0,0))∧den C.ρ e= .list l∧l.length=k∧(∀d∈l,Has t d)∧k*t.cells.length<=cur.size∧mK t k∧
   ∀(i:Nat) d (j:Nat) c,l[i]? =some d->d.cells[j]? =some c-> ∃v,cur[i*t.cells.length+j]? =some v∧ca w G.S v c:=by
 have u:=O.own g e T t Q;obtain⟨L,l,K,⟨M,U⟩,W,N⟩:=u.own;obtain⟨V,h,B,m⟩:=bL.1 u.has;rw[K]at h;injection h with h;subst h;rcases U with⟨hv,_⟩|⟨b',Gi,cur,hv,_,aeY,LK,Xg,FY,tI⟩
 ·rw[r]at hv;cases hv
 ·rw[r]at hv;injection hv with f z y;injection f with f;injection f with f;subst f;subst z;subst y;refine⟨cur,l,aeY,K,rfl,m,by rw[FY];exact au _ LK,B,fun i d j c H J=> ?_⟩;have F:i<l.length:=(aG.1 H).1;have x:=(cd (m d (bU H))).1;have R:j<t.cells.length:=by rw[<-x];exact(aG.1 J).1
  have A:i*t.cells.length+j<l.length*t.cells.length:=by have:(i+1)*t.cells.length<=l.length*t.cells.length:=au _ F;rw[cb]at this;omega
  obtain⟨v,q⟩: ∃v,L[i*t.cells.length+j]? =some v:=⟨_,aQ (by omega)⟩;refine⟨v,?_,N i d j _ c H J q⟩;rw[<-tI,ay,if_pos A]at q;simpa using q
def eW.Nq(H:eW w0 S0 C G σ w){g:Tag}{e i:E}{T:Tba}{t:Ty}(J:σ.live g=some (e,T,t)){b k y:Nat}(r:G.τ g= .slice (some ⟨b,0,none⟩) k y)(hi:(den C.ρ i).q.toNat<k):
  ∃(d:D) (uu:Taj),(den C.ρ e).A[(den C.ρ i).q.toNat]? =some d∧den C.ρ (.bin .idx e i)=d∧Has t d∧ ∀(j:Nat) c,d.cells[j]? =some c->w.cell? ⟨b,(den C.ρ i).q.toNat*t.cells.length+j,none⟩=some (uu j)∧ca w G.S (uu j) c:=by
 obtain⟨h,l,m,A,I,q,_,_,F⟩:=H.Rg J r;have f:l[(den C.ρ i).q.toNat]? =some (l[(den C.ρ i).q.toNat]'(by omega)):=aQ _;refine⟨_,fun j=>h.toList.getD ((den C.ρ i).q.toNat*t.cells.length+j) undef,by rw[A];exact f,?_,q _ (bU f),fun j c K=> ?_⟩
 ·simp only[den,B.den,A,D.A];exact gu f
 ·obtain⟨v,z,u⟩:=F _ _ j c f K;have x:h.toList[(den C.ρ i).q.toNat*t.cells.length+j]? =some v:=by simpa using z
  have L:h.toList.getD ((den C.ρ i).q.toNat*t.cells.length+j) undef=v:=by simp[List.getD,x]
  simp only[L];exact⟨by rw[cell_of_row w b _ h T (0,0) m];exact z,u⟩
def Gn{ops:Tad}{e:iH}(k:gG n w0 S0 C G σ a w)(r:o.guard=none){v:Tan}(c:(execOp a.eval o).run P w= .ok (.value v) w)(j:e.hp=[])(h:eT σ.live e.live=σ.live)(t:e.dst=o.dst)(f:e.qW.1=[])(i:e.qW.2.lt C.N=true)(q:wu C w G e.qW.2 v)(g: ∀d,o.dst=some d->d<n):fx P n w0 S0 C (e.app σ) p ops a w o:=by
 intro K Q u;have l:Region.wanted o (yielded ops a.tmps)=true:=by unfold Region.wanted;rw[r]
 rw[l,if_pos rfl];unfold Oper.wp;rw[c];have b:=dL.nu C w G p;refine u _ _ _ (k.step (o:=o) b ((k.m.nu p).congr (by show eT σ.hp e.hp=_;rw[j,dD]) h) t i (by rw[f];simp) (fun _=> ?_) g);rw[f];simp only[aU,bQ,if_true];exact q.later b
def Bl{ops:Tad}{e:iH}(q:gG n w0 S0 C G σ a w)(U:o.guard=none)(h:IQ P σ o=some e)(z:e.qW.2.lt C.N=true)(l: ∀d,o.dst=some d->d<n):
  fx P n w0 S0 C (e.app σ) p ops a w o:=by
 unfold IQ at h;split at h
 ·rename_i t x R;split at h
  ·cases h
  ·rename_i c;have c:(P.underlying t).isSome=true:=by cases hq:P.underlying t<;>simp[hq]at c⊢
   split at h
   ·rename_i g i u J O;split at h
    ·rename_i Y T y;simp only[cU]at h;obtain⟨⟨I,M⟩,X,rfl⟩:=h;obtain⟨A,V,D⟩:=pz y;obtain⟨hM,f,b,Z,k,r,S,B,Q⟩:=cC q.t (pc:=[]) rfl O;obtain⟨d,H,_,F,j,W⟩:=q.m.Nq (i:=i) A r B;obtain⟨v,L,K⟩:=oQ (P:=P) (C:=C) (w:=w) (G:=G) (b:=b) (o':=(den C.ρ i).q.toNat*u.cells.length) (uu:=H) X c (by simp[E.lt,f,(q.m.own _ _ _ _ A).lt]) (by rw[F];exact j) (by rw[F];exact W);refine Gn (e:=⟨o.dst,([],I),[],[(g,some (Y,T,u))],[],[]⟩) (v:=v) q U ?_ rfl (wM A) rfl rfl z K l;unfold execOp;simp only[R,Q];rw[bg,L];rfl
    ·cases h
   ·cases h
 ·cases h
def Dt{ops:Tad}{e:iH}(B:gG n w0 S0 C G σ a w)(Z:o.guard=none)(h:Pt P σ o=some e)(H:e.qW.2.lt C.N=true)(y: ∀d,o.dst=some d->d<n):
  fx P n w0 S0 C (e.app σ) p ops a w o:=by
 unfold Pt at h;split at h
 ·rename_i z q X;split at h
  ·rename_i x t j J;split at h
   ·rename_i el g u W S;split at h
    ·rename_i ee T F;injection h with h;subst h;obtain⟨L,a0,K⟩:=pz F;obtain⟨hM,V,A,k,a1,r⟩:=cC B.t (pc:=[]) rfl S;have f:=B.m.own _ _ _ _ L;obtain⟨l,I,i,_⟩:=bL.1 f.has
     have Y:k=l.length:=by
      obtain⟨xs,l',b,⟨_,M⟩,_⟩:=f.own;rw[I]at b;injection b with b;subst b;rw[<-V,r]at M;rcases M with⟨Pk,hn⟩|⟨b',Gi,cur,Pk,_⟩
      ·injection Pk with R Q O;omega
      ·injection Pk with R Q O
     have c:z= #[x] :=by apply cW;simpa using j
     refine Gn (v:=.int .i64 l.length) B Z ?_ rfl (wM L) rfl rfl H ?_ y
     ·unfold execOp;simp only[X,resolve,invoke,builtin,c];simp[Builtin.len_,J,r,run_underlying W,goInt,Y]
     ·refine⟨by simpa [E.lt]using f.lt,?_,?_⟩
      ·simp only[den,U.den,I,D.A];exact .int _ _
      ·simp only[den,U.den,I,D.A];have i:=i.1;refine dr.2 ⟨_,rfl,?_,?_⟩
       ·show i64.min<=_;simp[IntKind.min,IntKind.signed,IntKind.bits];try omega
       ·show _<=i64.max;simp[IntKind.max,IntKind.signed,IntKind.bits];simp only[maxLen]at i;omega
    ·cases h
   ·cases h
  ·cases h
 ·cases h
def AO{ops:Tad}{e:iH}(y:gG n w0 S0 C G σ a w)(hg:o.guard=none)(h:Cy P σ o=some e)(K: ∀Y∈e.items,eG C Φ Pre Y)(J:e.qW.2.lt C.N=true)(q: ∀d,o.dst=some d->d<n):
  fx P n w0 S0 C (e.app σ) p ops a w o:=by
 unfold Cy at h;split at h
 ·rename_i t x i ho;split at h
  ·rename_i el g u M k hu Z hi;split at h
   ·rename_i ee T I;split at h
    ·rename_i F;injection h with h;subst h;obtain⟨Q,a2,O⟩:=pz I;obtain⟨hM,hv,A,kk,a3,a0⟩:=cC y.t (pc:=[]) rfl Z;obtain⟨X,W,V⟩:=dR y.t (pc:=[]) rfl hi;obtain⟨m,j,_⟩:=dr.1 V;have f:=y.m.own _ _ _ _ Q;obtain⟨l,R,a1,_⟩:=bL.1 f.has;have H:eG C Φ Pre (.kq [] (.bin .and (.bin .le (.aR k 0) M) (.bin .lt M (.un .len ee)))):=K _ (by simp);have S:=H.2 rfl;simp only[den,B.den,U.den,R,j,D.q,D.Y,D.A,aS,bk]at S;obtain⟨r,L⟩:=S;obtain⟨xs,l',c,⟨_,hh⟩,_⟩:=f.own;rw[R]at c;injection c with c;subst c;rcases hh with⟨_,hn⟩|⟨b,Gi,cur,Pk,_⟩
     ·omega
     ·have E:a.eval i= .int k m:=(j▸W).cn;have z:a.eval x= .slice (some ⟨b,0,none⟩) l.length Gi:=by rw[hv,Pk]
      refine Gn (v:=.pointer (some ⟨b,m.toNat*u.cells.length,none⟩)) y hg ?_ rfl (wM Q) rfl rfl J ?_ q
      ·have h1:=gZ (P:=P) (w:=w) F;unfold execOp;simp only[ho,z,E,Instr.indexAt,asIntOf];simp[run_underlying hu,r,L,h1,fJ]
      ·refine⟨hM,X,b,Gi,l.length,Pk,?_,?_,?_⟩
       ·rw[j];exact r
       ·rw[j];simp only[D.q];omega
       ·rw[j];simp only[D.q];rw[dM]
    ·cases h
   ·cases h
  ·cases h
 ·cases h
def rr{N:Nat}: ∀(l:List E),(E.V l).lt N=true↔ ∀e∈l,e.lt N=true
 | [] =>by simp[E.V,E.lt]
 |e::l=>by simp[E.V,E.lt,rr l]
def Cf: ∀{d:Ty} {e l:Taf},dn d e->dn (.V d.A) l->dn d l
 |.nil,_,l,_,h=>h
 |.cons a b,e,l,h0,h=>by obtain⟨_,i,_,_,c⟩:=ag.1 h0;obtain⟨x,r,rfl,f,g⟩:=ag.1 h;exact ag.2 ⟨x,r,rfl,f,Cf c g⟩
 |.int _,_,_,h,_| .bool,_,_,h,_| .str,_,_,h,_| .list _,_,_,h,_| .agg _,_,_,h,_| .eS _,_,_,h,_| .box _,_,_,h,_| .ptr _,_,_,h,_| .fn _ _,_,_,h,_=>h.elim
def DW{u:Ty}{d:D}(b:u.scalar=true)(h:Has u d):u.cells=[u] ∧d.cells=[d] :=by
 have c:u.cells=[u] :=by cases u<;>first|rfl|cases b
 refine⟨c,?_⟩;cases d<;>first|rfl|(rename_i l;exfalso;cases u<;>simp[Ty.scalar]at b<;>simp[dr,dh,mg,bL,iF,kC,kH]at h)
def Ko{u:Ty}{el x:E}{off:Nat}{es:List E}{ts:Tal}(h:Gx u el off es=some x)(T:el.lt C.N=true)(S:(E.V es).lt C.N=true)(Z:Has u (den C.ρ el))(Q:off+es.length<=u.cells.length)(k:ts=(u.cells.drop off).take es.length)(Y:dn (.V ts) (es.map (den C.ρ))):
  x.lt C.N=true∧Has u (den C.ρ x)∧ ∀(j:Nat) c,(den C.ρ x).cells[j]? =some c->if off<=j∧j<off+es.length then(es[j-off]?).map (den C.ρ)=some c else(den C.ρ el).cells[j]? =some c:=by
 have r:=(rr es).1 S;unfold Gx at h;split at h
 ·rename_i L;injection h with h;subst h;obtain⟨l0,H,l⟩:=dQ.1 Z;have m:=fU l
  have F:((jr el 0 L.A).map (·.1)).map (den C.ρ)=l0:=by
   apply fc;intro i;simp only[ab,lY,Option.map_map];cases I:(L.A)[i]? with
   |none=>
    have:l0.length<=i:=by rw[m];exact eC.1 I
    simp[eJ this]
   |some t=>
    obtain⟨y,M,_⟩:=cI l i t I;simp only[aP,Function.comp,den,U.den,H,D.A,ao,gu M,M]
  have X:off+es.length<=l0.length:=by rw[m];exact Q
  have v:den C.ρ (.un .agg (.V (((jr el 0 L.A).map (·.1)).take off++es++((jr el 0 L.A).map (·.1)).drop (off+es.length))))= .agg (l0.take off++es.map (den C.ρ)++l0.drop (off+es.length)):=by simp only[den,fX,U.den,D.A,ck,List.map_take,List.map_drop,F]
  have q: ∀(j:Nat) c,(l0.take off++es.map (den C.ρ)++l0.drop (off+es.length))[j]? =some c->if off<=j∧j<off+es.length then(es[j-off]?).map (den C.ρ)=some c else l0[j]? =some c:=by
   intro j c b;have K:(l0.take off).length=off:=by rw[aK];omega
   split
   ·rename_i O;rw[aq (by simp[K];omega),aN (by omega),K]at b;simpa using b
   ·rename_i O;by_cases R:j<off
    ·rw[aq (by simp[K];omega),aq (by omega),ay,if_pos R]at b;exact b
    ·rw[aN (by simp[K];omega)]at b;simp only[ah,K,ak,aE]at b;rw[show off+es.length+(j-(off+es.length))=j by omega]at b;exact b
  refine⟨?_,?_,?_⟩
  ·simp only[E.lt];rw[rr]
   have J: ∀e∈(jr el 0 L.A).map (·.1),e.lt C.N=true:=by intro e g;obtain⟨i,I⟩:=aw g;simp only[ab,lY,Option.map_map,cU]at I;obtain⟨_,_,rfl⟩:=I;simpa [E.lt]using T
   intro e g;simp only[aI]at g;rcases g with(g|g)|g
   ·exact J e (cF g)
   ·exact r e g
   ·exact J e (cG g)
  ·rw[v];refine dQ.2 ⟨_,rfl,Cf l (iQ ?_ fun j t y b M=> ?_)⟩
   ·simp only[ah,aK,ak,aX];omega
   ·have:=q j y M;split at this
    ·rename_i O
     have ht:ts[j-off]? =some t:=by rw[k,ay,if_pos (by omega),aE,show off+(j-off)=j by omega];exact b
     obtain⟨z,d,f⟩:=cI Y (j-off) t (by rw[Ty.dq];exact ht);simp only[ab]at d;rw[this]at d;injection d with d;subst d;exact f
    ·obtain⟨z,d,f⟩:=cI l j t b;rw[this]at d;injection d with d;subst d;exact f
  ·rw[v];intro j c b;have:=q j c b;rw[H];exact this
 ·rename_i W _;split at h
  ·rename_i O;obtain⟨rfl,B⟩:=O;injection h with h;subst h
   have A:Has u (den C.ρ W):=by
    have V:u.cells=[u] :=by cases u<;>first|rfl|cases B
    rw[V]at k;simp at k;subst k;obtain⟨z,d,f⟩:=cI Y 0 u (by simp[Ty.V,Ty.A]);simp at d;subst d;exact f
   refine⟨r W (by simp),A,fun j c b=> ?_⟩;rw[(DW B A).2]at b;cases j with
   |zero=>simp at b⊢;exact b
   |succ j=>simp at b
  ·cases h
 ·cases h
def AN{ops:Tad}{e:iH}(U:gG n w0 S0 C G σ a w)(hg:o.guard=none)(h:Cv P σ o=some e):fx P n w0 S0 C (e.app σ) p ops a w o:=by
 unfold Cv at h;split at h
 ·rename_i t x y ho;split at h
  ·rename_i g i u off es ts sz hx hy d7;split at h
   ·rename_i el T e2;split at h
    ·rename_i d0;obtain⟨hn,e4,d6,d8,hd⟩:=d0;simp only[cU]at h;obtain⟨xe,d3,rfl⟩:=h;obtain⟨hl,e8,f2⟩:=pz e2;obtain⟨hM,a1,b,g0,k,a6,f6,e6,hv⟩:=cC U.t (pc:=[]) rfl hx;obtain⟨f,l,a4,a3,c1,a5,f3,e3,hr⟩:=U.m.Rg hl a6;obtain⟨d,_,a8,c9,c7,_⟩:=U.m.Nq (i:=i) hl a6 e6;rw[a3]at a8;simp only[D.A]at a8;generalize hI:(den C.ρ i).q.toNat=I at*;have f5:=(cd c7).1
     obtain⟨r,d5,d9⟩: ∃r:Tac,(a.eval y).cells=r.toArray∧(E.V es).lt C.N=true∧es.length=r.length∧ts.length=r.length∧(∀(i:Nat) v e,r[i]? =some v->es[i]? =some e->ca w G.S v (den C.ρ e))∧dn (.V ts) (es.map (den C.ρ))∧ ∀u∈r,u.oneCell'=true:=by
      cases Ua:fP P σ [] y t with
      |none=>simp[Ua]at hy
      |some sv=>
       simp only[Ua,ch]at hy;cases hac:mi sv with
       |none=>simp[hac]at hy
       |some csl=>
        simp only[hac,ch]at hy
        have a0:csl.all SC.scalar=true:=by
         rw[bY];intro c Z;obtain⟨j,J⟩:=aw Z
         have: ∀{l:List SC} {es:List E} {ts:Tal} {j:Nat} {c:SC},gY l=some (es,ts)->ts.all Ty.scalar=true->l[j]? =some c->c.scalar=true:=by
          intro l
          induction l with
          |nil=>intro es ts j c _ _ J;simp at J
          |cons c0 l ih=>
           intro es ts j c h U J;simp only[gY]at h;split at h
           ·rename_i e0 t0 f9 f4 V h2;obtain⟨rfl,rfl⟩:=iD h;simp only[List.all_cons,aS]at U;cases j with
            |zero=>
             simp at J;subst J
             cases c0<;>simp only[asData]at V<;>first
              |rfl
              |(obtain⟨_,rfl⟩:=iD V;exact U.1)
            |succ j=>exact ih h2 U.2 (by simpa using J)
           ·cases h
         exact this hy d8 J
        obtain⟨r,V,h2⟩:=qq hac (cC U.t (pc:=[]) rfl Ua) a0;obtain⟨m1,m2,m3,m4,m5⟩:=lZ hy h2;refine⟨r,V,m1,m2,m3,m4,m5,fun v hv=> ?_⟩;obtain⟨j,J⟩:=aw hv;have c4:j<r.length:=(aG.1 J).1;have d1:csl[j]? =some (csl[j]'(by rw[<-h2.1];exact c4)):=aQ _;exact(h2.2 j _ v d1 J).hZ (bY.1 a0 _ (bU d1))
     obtain⟨b0,c6,f1,b7,e7,b8⟩:=d9;have b9:(E.bin .idx el i).lt C.N=true:=by simp[E.lt,(U.m.own _ _ _ _ hl).lt,a1]
     obtain⟨b2,b3,b4⟩:=Ko (C:=C) d3 b9 b0 (by rw[c9];exact c7) (by rw[hn];exact e4) (by rw[hn];exact d6) e7;rw[c9]at b4;generalize L:den C.ρ xe=d' at*;have f8:I<l.length:=by omega
     have f0:=(cd b3).1;let l':=l.take I++d'::(l.drop I).drop 1;have M:l'.length=l.length:=by simp only[l',ah,aK,bu,aX];omega
     have a2:den C.ρ (uT el i xe)= .list l':=by
      have:den C.ρ (uT el i xe)= .list (l.take (den C.ρ i).q.toNat++d'::(l.drop (den C.ρ i).q.toNat).drop 1):=by simp only[uT,den,B.den,a3,D.A,L];rfl
      rw[this,hI]
     have O: ∀(q:Nat) R,l'[q]? =some R->(q=I∧R=d')∨(q≠I∧l[q]? =some R):=by
      intro q R H;have V:(l.take I).length=I:=by rw[aK];omega
      by_cases e1:q<I
      ·simp only[l']at H;rw[aq (by omega),ay,if_pos e1]at H;exact .inr ⟨by omega,H⟩
      ·simp only[l']at H;rw[aN (by omega),V]at H;by_cases a7:q=I
       ·rw[a7,Nat.sub_self]at H;simp at H;exact .inl ⟨a7,H.symm⟩
       ·rw[show q-I=(q-I-1)+1 by omega,dm,aE,aE]at H;rw[show I+(1+(q-I-1))=q by omega]at H;exact .inr ⟨a7,H⟩
     have d2:(I+1)*u.cells.length<=k*u.cells.length:=au _ (by omega);have f7:(I+1)*u.cells.length=I*u.cells.length+u.cells.length:=by rw[cb,Nat.one_mul]
     have c5:I*u.cells.length+off+r.length<=f.size:=by omega
     have b5:=run_storeCells_at P b (I*u.cells.length+off) T r 0 f w a4 (by simpa using c5) b8;simp only[dM]at b5
     have b6:(execOp a.eval o).run P w= .ok .skip (w.setRow b (f.toList.take (I*u.cells.length+off)++r++f.toList.drop (I*u.cells.length+off+r.length)).toArray):=by have V:=gZ (P:=P) (w:=w) d7;unfold execOp;simp only[ho,hv,Instr.storeAt,Instr.sureAddr];simp[storeVar,V,d5,b5,<-c6,hn]
     intro K Q hK;have hw:Region.wanted o (yielded ops a.tmps)=true:=by unfold Region.wanted;rw[hg]
     rw[hw,if_pos rfl];unfold Oper.wp;rw[b6]
     obtain⟨c2,hm⟩:=U.m.adO hl e8 (e':=uT el i xe) (live':=eT σ.live [(g,some (uT el i xe,T,u))]) (l':=l') (row:=(f.toList.take (I*u.cells.length+off)++r++f.toList.drop (I*u.cells.length+off+r.length)).toArray)
      (by
       intro g' x' A;rw[sW,dD]at A;have A:(if g'=g then some (uT el i xe,T,u) else σ.live g')=some x':=A;by_cases he:g'=g
       ·rw[if_pos he]at A;injection A with A;exact .inr ⟨he,A.symm⟩
       ·rw[if_neg he]at A;exact .inl ⟨he,A⟩) a6 a4 (by simp;omega)
      (by simp[uT,E.lt,(U.m.own _ _ _ _ hl).lt,a1,b2]) a2 (by rw[M,c1])
      (by
       rw[a2];refine bL.2 ⟨l',rfl,by rw[M,c1];exact e3,fun z hz=> ?_⟩;obtain⟨q,H⟩:=aw hz;rcases O q z H with⟨_,rfl⟩|⟨_,hq'⟩
       ·exact b3
       ·exact a5 z (bU hq'))
      (by
       intro q R j v c H J F
       have W:(f.toList.take (I*u.cells.length+off)).length=I*u.cells.length+off:=by
        have e9:f.toList.length=f.size:=by simp
        rw[aK,e9];omega
       have X: ∀z,(z<I*u.cells.length+off∨I*u.cells.length+off+r.length<=z)->(f.toList.take (I*u.cells.length+off)++r++f.toList.drop (I*u.cells.length+off+r.length)).toArray[z]? =f[z]? :=by
        intro z hz;rw[dj];rcases hz with hz|hz
        ·rw[aq (by rw[ah,W];omega),aq (by omega),ay,if_pos hz];simp
        ·rw[aN (by rw[ah,W];omega),aE,ah,W];rw[show I*u.cells.length+off+r.length+(z-(I*u.cells.length+off+r.length))=z by omega];simp
       have b1: ∀(q:Nat) R,l[q]? =some R->R.cells[j]? =some c->(q*u.cells.length+j<I*u.cells.length+off∨I*u.cells.length+off+r.length<=q*u.cells.length+j)->(f.toList.take (I*u.cells.length+off)++r++f.toList.drop (I*u.cells.length+off+r.length)).toArray[q*u.cells.length+j]? =some v->ca w G.S v c:=by intro q R H J hz F;rw[X _ hz]at F;obtain⟨v0,Y,d4⟩:=hr q R j c H J;rw[F]at Y;injection Y with Y;subst Y;exact d4
       rcases O q R H with⟨rfl,rfl⟩|⟨tv,hq'⟩
       ·have Z:=b4 j c J;split at Z
        ·rename_i e5;rw[dj,aq (by rw[ah,W];omega),aN (by omega),W]at F;rw[show q*u.cells.length+j-(q*u.cells.length+off)=j-off by omega]at F;cases J2:es[j-off]? with
         |none=>rw[J2]at Z;cases Z
         |some ee=>
          rw[J2]at Z;simp only[aP,aa]at Z;rw[<-Z];exact b7 _ v ee F J2
        ·rename_i e5;exact b1 q d a8 Z (by omega) F
       ·have c4:j<u.cells.length:=by rw[<-(cd (a5 R (bU hq'))).1];exact(aG.1 J).1
        refine b1 q R hq' J ?_ F;rcases Nat.lt_or_gt_of_ne tv with V|V
        ·have:(q+1)*u.cells.length<=I*u.cells.length:=au _ V;rw[cb]at this;omega
        ·have:(I+1)*u.cells.length<=q*u.cells.length:=au _ V;omega)
     have a9:=c2.trans (dL.nu C _ G p)
     exact hK _ _ _ (U.step (o:=o) (e:=⟨none,([],.agg []),[],[(g,some (uT el i xe,T,u))],[],[]⟩) a9 ((hm.nu p).congr (dD _) rfl) hd.symm rfl (by simp)
      (v:=undef) (by rintro⟨d,L⟩;rw[hd]at L;cases L) (by intro d L;rw[hd]at L;cases L))
    ·cases h
   ·cases h
  ·cases h
 ·cases h
end
section
variable{P:Tap}{C:Cx}{w w0:Tam}{S0:gJ}{G:Gh}{σ:St}{a:Act}{o:Tbc}{pc:dB}{s:SV}{is:List Item}{Φ:Taa}{Pre:eN}{n p:Nat}{cs:mG}
def Dv{ops:Tad}{g:Tao Tag}{e1 e2:E}{T:Tba}{t:Ty}{b:Nat}(hs:gG n w0 S0 C G σ a w)(hp: ¬C.M p)(hg:guardOf ops σ o=some [])(h:yZ P σ o=some (g,e1,e2,T,t,b))(b9:eG C Φ Pre (.room [] (.bin .cat e1 e2) b))(c0: ∀d,o.dst=some d->d<n)(F:List Item)(d9: ¬S0.fr)(d8: ¬S0.wz):
  fx P n w0 S0 C ((⟨o.dst,([],.one (.xo (p,1000) t)),[],(match g with|some g=> [(g,none)] |none=> [])++[((p,1000),some (.bin .cat e1 e2,T,t))],[],F⟩:iH).app σ) p ops a w o:=by
 intro K Q hK;obtain⟨hw,hc⟩:=fL hs.t hg;rw[hw];simp only[aU,bQ,if_true];unfold yZ at h;split at h
 ·rename_i c6 O ho;split at h
  ·rename_i sx x tt f4 b0 c5;split at h
   ·rename_i el sv ex u hu b2 hx;split at h
    ·rename_i ie u' e5 f7;split at h
     ·rename_i c1;obtain⟨rfl,rfl,a3,f2,a4,U,c4⟩:=c1;obtain⟨y1,y2,y3⟩:=dR hs.t (pc:=[]) rfl hx;obtain⟨l2,b8,f3,H⟩:=bL.1 y3;have e4: ∀d∈l2,d.cells.length=u.cells.length:=fun d hd=>(cd (H d hd)).1;obtain⟨A,c,I,d0,hA,b6,e0,b5⟩:=(b8▸y2).source e4
      obtain⟨z,hz,c9⟩: ∃z,ie.zero=some z∧z.cells.size=ie.size:=by
       cases hq:ie.zero with
       |none=>simp[hq]at U
       |some z=>exact⟨z,rfl,by simpa [hq]using U⟩
      have a2: ∀(v:Tan) (k:E) (g':Tao Tag),a.eval sx=v->k.lt C.N=true->(∃R xs,den C.ρ k= .list R∧(∀d∈R,Has u d)∧w.ownsRow 0 el u.cells.length v R.length xs∧
        (∀(i:Nat) d (j:Nat) u' c,R[i]? =some d->d.cells[j]? =some c->xs[i*u.cells.length+j]? =some u'->ca w G.S u' c)∧
        (v= .slice none 0 0∧g'=none∨ ∃g x,g'=some g∧σ.live g=some x∧G.τ g=v∧ ∀b,v.ownBlock=some b->(∀o,G.S b o↔Tag.ex (p,1000)=false∧o<xs.length)))->
        eG C Φ Pre (.room [] (.bin .cat k ex) ie.bytes)->
        (∀a' w' G',gG n w0 S0 (C.add p) G' ((⟨o.dst,([],.one (.xo (p,1000) u)),[],(match g' with|some g=> [(g,none)] |none=> [])++[((p,1000),some (.bin .cat k ex,el,u))],[],F⟩:iH).app σ) a' w'->K a' w')->
        o.wp P a w K Q:=by
       rintro v k g' hv a1 ⟨R,xs,a0,r,y,hxr,hold⟩ M7 hK;have Z:den C.ρ (.bin .cat k ex)= .list (R++l2):=by simp only[den,B.den,a0,b8,D.A]
       obtain⟨f8,d3⟩:=M7;have J:=d3 rfl;rw[Z]at J;simp only[D.A,ah]at J
       have b4: ∀w∈I,w.oneCell'=true:=by
        intro uu d1;obtain⟨q,hq⟩:=aw d1;have d5:q<I.length:=(aG.1 hq).1;have b1:0<u.cells.length:=by omega
        have hi:q/u.cells.length<l2.length:=by rw[fq b1,<-b6];exact d5
        have hj:q % u.cells.length<u.cells.length:=Nat.mod_lt _ b1;have hd:l2[q/u.cells.length]? =some (l2[q/u.cells.length]'hi):=aQ hi;have d2:u.cells[q % u.cells.length]? =some (u.cells[q % u.cells.length]'hj):=aQ hj;obtain⟨cc,e9,c2⟩:=(cd (H _ (bU hd))).2 _ _ d2;have d4:q/u.cells.length*u.cells.length+q % u.cells.length=q:=by rw[Nat.mul_comm];exact Nat.div_add_mod _ _
        exact(b5 _ _ _ uu cc hd e9 (by rw[d4];exact hq)).hZ c2 (bY.1 a4 _ (aF hj))
       obtain⟨v',w',b3,V,a9⟩:=ja (P:=P) w 0 tt o.type el ie z u.cells.length hu e5 hz a3.symm (by rw[c9,a3]) v R.length xs y A l2.length c I hA b6 e0 b4 J.1 J.2 (aC _)
       have a7:(execOp a.eval o).run P w= .ok (.value v') w':=by
        have f1:c6= #[sx,x] :=by apply cW;simpa using b0
        have f0:O= #[tt,tt] :=by apply cW;simpa using c5
        unfold execOp;simp only[ho,resolve,invoke,builtin,f1,f0];simp[hv,d0,b3]
       unfold Oper.wp;rw[a7]
       have e6: ∀g,g'=some g->g≠(p,1000):=by
        intro g L Y;rcases hold with⟨_,h2⟩|⟨g0,x0,h2,h3,_⟩
        ·rw[h2]at L;cases L
        ·rw[h2]at L;injection L with L;subst L;subst Y;exact fy hs.m hp h3 rfl
       obtain⟨G',b7,hm,c7⟩:=hs.m.appended hp 1000 (v:=v) (v':=v') (T:=el) (t:=u) (n:=R.length) (m:=l2.length) (xs:=xs) (news:=I) (l:=R) (l2:=l2) (e2:=.bin .cat k ex)
        (by omega) rfl rfl hxr b5 (fun d hd=>(cd (r d hd)).1) y.1 V a9 (eT σ.live ((match g' with|some g=> [(g,none)] |none=> [])++[((p,1000),some (.bin .cat k ex,el,u))]))
        (by
         rcases hold with⟨h1,_⟩|⟨g0,x0,h2,h3,h4,h5⟩
         ·exact .inl h1
         ·refine .inr ⟨g0,x0,h3,h4,?_,fun b hb=>⟨h5 b hb,fun o' u' d7=> ?_⟩⟩
          ·rw[h2];simp[eT,lk]
          ·have:=y.cells (g:=b) hb o' u' d7;rw[fJ,ao]at this;exact this)
        (by simp[E.lt,a1,y1]) Z (by rw[Z];exact bL.2 ⟨_,rfl,⟨by simpa using J.1,by rw[<-c4];simpa using J.2⟩,fun d hd=>by rcases aI.1 hd with h|h;exact r d h;exact H d h⟩)
        (by
         intro g0 x0 f;unfold eT at f;cases g' with
         |none=>
          simp only[cX,lk]at f;by_cases Y:g0=(p,1000)
          ·rw[if_pos Y]at f;simp only[aa]at f;exact .inr ⟨Y,f.symm⟩
          ·rw[if_neg Y]at f;exact .inl ⟨Y,f⟩
         |some g1=>
          simp only[dU,cX,lk]at f;by_cases a1:g0=g1
          ·rw[if_pos a1]at f;cases f
          ·rw[if_neg a1]at f;by_cases Y:g0=(p,1000)
           ·rw[if_pos Y]at f;simp only[aa]at f;exact .inr ⟨Y,f.symm⟩
           ·rw[if_neg Y]at f;exact .inl ⟨Y,f⟩)
        (fun e8=>absurd e8 d9) d8
       have d6:=hm.own (p,1000) (.bin .cat k ex) el u (by
        show eT σ.live _ (p,1000)=_;unfold eT;cases g' with
        |none=>simp[lk]
        |some g1=>simp[lk,Ne.symm (e6 g1 rfl)])
       exact hK _ _ _ (hs.step (o:=o) (e:=⟨o.dst,([],.one (.xo (p,1000) u)),[],(match g' with|some g=> [(g,none)] |none=> [])++[((p,1000),some (.bin .cat k ex,el,u))],[],F⟩) b7 (hm.congr (dD _) rfl) rfl
        (rfl) (by simp)
        (by
         intro _;simp only[aU,bQ,if_true];refine⟨.inr rfl,c7.symm,?_⟩;rcases V.2 with⟨hv,_⟩|⟨b,cap,cur,hv,_⟩
         ·exact⟨_,_,_,hv⟩
         ·exact⟨_,_,_,hv⟩) c0)
      split at h
      ·rename_i v;split at h
       ·rename_i f6;obtain⟨rfl,rfl,rfl,rfl,rfl,rfl⟩:=WZ h;have hv:=cC hs.t (pc:=[]) rfl b2;refine a2 (.slice none 0 0) .nil none hv rfl ⟨[],[],rfl,by simp,fb w _ _ _,by simp,.inl ⟨rfl,rfl⟩⟩ b9 hK
       ·cases h
      ·rename_i g0 v;split at h
       ·rename_i k T' e3;split at h
        ·rename_i a8;obtain⟨rfl,rfl⟩:=a8;obtain⟨W,e7,_⟩:=pz e3;obtain⟨rfl,rfl,rfl,rfl,rfl,rfl⟩:=WZ h;have hv:=cC hs.t (pc:=[]) rfl b2;have a5:=hs.m.own _ _ _ _ W;obtain⟨xs,R,a0,y,a6,hr⟩:=a5.own;have hh:=a5.has;rw[a0]at hh;obtain⟨f5,X,_,r⟩:=bL.1 hh;injection X with X;subst X;exact a2 (G.τ g0) k (some g0) hv.2.1 a5.lt ⟨R,xs,a0,r,y,hr,.inr ⟨g0,_,rfl,W,rfl,fun b hb o=>(a6 b hb o).trans (by rw[e7];rfl)⟩⟩ b9 hK
        ·cases h
       ·cases h
      ·cases h
     ·cases h
    ·cases h
   ·cases h
  ·cases h
 ·cases h
def jc.adS{base:Nat}{g:Tag}{e:E}{T:Tba}{t:Ty}(h:jc C w base G g e T t)(u:0<t.cells.length){S':bz}(y: ∀b o,G.S b o->S' b o)(z: ∀b o,(G.τ g).ownBlock=some b->S' b o):ca w S' (G.τ g) (den C.ρ e):=by
 obtain⟨B,l,A,m,N,F⟩:=h.own;rw[A];obtain⟨H,I⟩:=m;rcases I with⟨hv,hn⟩|⟨b,cap,cur,hv,hb,hg,LK,Xg,FY,tI⟩
 ·have:l=[] :=an hn;subst this;rw[hv];exact .nil none 0
 ·have f:=h.has;rw[A]at f;obtain⟨M,k,_,D⟩:=bL.1 f;injection k with k;subst k;by_cases q:l=[]
  ·subst q;rw[hv];exact .nil _ cap
  ·rw[hv];refine .list b 0 cap t.cells.length B l u q LK H (fun i r=> ?_) (fun i v r=> ?_) (fun i d x=> ?_) (fun i d j v c L K J=>(F i d j v c L K J).keep y (fun _ _ _=>rfl))
   ·exact z b _ (by rw[hv];rfl)
   ·rw[ao,cell_of_row w b i cur T (0,0) hg];rw[<-tI,ay]at r;split at r
    ·simpa using r
    ·cases r
   ·exact(cd (D d (bU x))).1
def rl(G:Gh)(σ:St):bz:=fun b o=>G.S b o∨ ∃g x,σ.live g=some x∧(G.τ g).ownBlock=some b
def AK(r:eW w0 S0 C G σ w){c:SC}{e:E}{t:Ty}{l:List (Tag×Tao (E×Tba×Ty))}{v:Tan}(h:mT σ c=some ((e,t),l))(m:qG C w G c v):
  (e.lt C.N=true∧ca w (rl G σ) v (den C.ρ e)∧Has t (den C.ρ e))∧ ∀y∈l,σ.live y.1=y.2∧y.2.isSome=true:=by
 have plain:(asData c).map (fun x=>(x,([] :List (Tag×Tao (E×Tba×Ty)))))=some ((e,t),l)->(e.lt C.N=true∧ca w (rl G σ) v (den C.ρ e)∧Has t (den C.ρ e))∧ ∀y∈l,σ.live y.1=y.2∧y.2.isSome=true:=by intro h;simp only[cU,ae]at h;obtain⟨x,q,rfl,rfl⟩:=h;obtain⟨B,A,z⟩:=kM q m;exact⟨⟨B,A.keep (fun _ _ h=>.inl h) (fun _ _ _=>rfl),z⟩,by simp⟩
 cases c with
 |xo g t'=>
  simp only[mT]at h;split at h
  ·rename_i D T i;injection h with h;simp only[ae]at h;obtain⟨⟨rfl,rfl⟩,rfl⟩:=h;obtain⟨j,_,f⟩:=pz i;have d:=r.own _ _ _ _ j;refine⟨⟨d.lt,?_,d.has⟩,?_⟩
   ·rw[m.2.1];exact d.adS f (fun _ _ h=>.inl h) (fun b o u=>.inr ⟨g,_,j,u⟩)
   ·intro y k;simp only[aB]at k;subst k;exact⟨j,rfl⟩
  ·cases h
 |_=>exact plain h
def xQ(m:eW w0 S0 C G σ w): ∀{f:List SC} {es:List E} {ts:Tal} {l:List (Tag×Tao (E×Tba×Ty))} {vs:Tac},jJ σ f=some ((es,ts),l)->jQ C w G f vs->
  ((E.V es).lt C.N=true∧es.length=vs.length∧(∀(i:Nat) v e,vs[i]? =some v->es[i]? =some e->ca w (rl G σ) v (den C.ρ e))∧dn (.V ts) (es.map (den C.ρ)))∧ ∀y∈l,σ.live y.1=y.2∧y.2.isSome=true
 | [],es,ts,l,vs,h,hr=>by simp only[jJ,aa,ae]at h;obtain⟨⟨rfl,rfl⟩,rfl⟩:=h;have g:vs=[] :=an hr.1;subst g;exact⟨⟨rfl,rfl,by intro i v e b;simp at b,dg.2 rfl⟩,by simp⟩
 |c::f,es,ts,l,vs,h,hr=>by
  simp only[jJ]at h;split at h
  ·rename_i e t Q L q O K J;injection h with h;simp only[ae]at h;obtain⟨⟨rfl,rfl⟩,rfl⟩:=h;cases vs with
   |nil=>have:=hr.1;simp at this
   |cons v vs=>
    have j:jQ C w G f vs:=⟨by simpa using hr.1,fun i c v b g=>hr.2 (i+1) c v (by simpa using b) (by simpa using g)⟩;obtain⟨⟨I,H,F,D⟩,B⟩:=xQ m J j;obtain⟨⟨A,z,x⟩,r⟩:=AK m K (hr.2 0 c v rfl rfl);refine⟨⟨by simp[E.V,E.lt,A,I],by simp[H],?_,ag.2 ⟨_,_,rfl,x,D⟩⟩,fun y d=> ?_⟩
    ·intro i u M b k;cases i with
     |zero=>simp at b k;subst b;subst k;exact z
     |succ i=>exact F i u M (by simpa using b) (by simpa using k)
    ·rcases aI.1 d with d|d
     ·exact r y d
     ·exact B y d
  ·cases h
def FR(f:eW w0 S0 C G σ w){s:SV}{e:E}{t:Ty}{l:List (Tag×Tao (E×Tba×Ty))}{v:Tan}(h:mE σ s=some ((e,t),l))(b:wu C w G s v):
  (e.lt C.N=true∧ca w (rl G σ) v (den C.ρ e)∧Has t (den C.ρ e))∧ ∀y∈l,σ.live y.1=y.2∧y.2.isSome=true:=by
 cases s with
 |one c=>exact AK f h b
 |agg cl=>
  simp only[mE]at h;split at h
  ·rename_i I F H B;injection h with h;simp only[ae]at h;obtain⟨⟨rfl,rfl⟩,rfl⟩:=h;obtain⟨j,rfl,x⟩:=b;obtain⟨⟨u,r,q,m⟩,k⟩:=xQ f B x;refine⟨⟨by simpa [E.lt]using u,?_,?_⟩,k⟩
   ·simp only[den,fX,U.den,D.A];refine .agg j _ (by simp[r]) fun i v d z g=> ?_;simp only[ab,cU]at g;obtain⟨e,A,rfl⟩:=g;exact q i v e z A
   ·simp only[den,fX,U.den,D.A];exact dQ.2 ⟨_,rfl,m⟩
  ·cases h
 |eS l=>cases h
def Ac(q:eW w0 S0 C G σ w)(m:iO C w G σ.tm a){pc:dB}(c:aU C.ρ pc=true): ∀{xs:List Tbb} {g:List Tba} {es:List (E×Ty)} {l:List (Tag×Tao (E×Tba×Ty))},qM P σ pc xs g=some (es,l)->
  (es.length=xs.length∧ ∀(i:Nat) x e,xs[i]? =some x->es[i]? =some e->e.1.lt C.N=true∧ca w (rl G σ) (a.eval x) (den C.ρ e.1)∧Has e.2 (den C.ρ e.1))∧ ∀y∈l,σ.live y.1=y.2∧y.2.isSome=true
 | [],[],es,l,h=>by simp only[qM,aa,ae]at h;obtain⟨rfl,rfl⟩:=h;exact⟨⟨rfl,by intro i x e d;simp at d⟩,by simp⟩
 |x::xs,t::ts,es,l,h=>by
  simp only[qM]at h;split at h
  ·rename_i e K F J f D;obtain⟨rfl,rfl⟩:=iD h;obtain⟨⟨B,A⟩,z⟩:=Ac q m c D;rw[dJ]at f;obtain⟨I,j,f⟩:=f;obtain⟨v,u⟩:=FR q (e:=e.1) (t:=e.2) f (cC m c j);refine⟨⟨by simp[B],fun i r H d k=> ?_⟩,fun y b=> ?_⟩
   ·cases i with
    |zero=>simp at d k;subst d;subst k;exact v
    |succ i=>exact A i r H (by simpa using d) (by simpa using k)
   ·rcases aI.1 b with b|b
    ·exact u y b
    ·exact z y b
  ·cases h
 | [],_::_,_,_,h=>by cases h
 |_::_,[],_,_,h=>by cases h
def ca.bare{S S':bz}{v:Tan}{d:D}{t:Ty}(h:ca w S v d)(b:Has t d)(c:t.bare=true):ca w S' v d:=by
 cases t<;>first|(cases c;done)|skip
 ·obtain⟨n,rfl,_⟩:=dr.1 b;rw[h.cn];exact .int _ _
 ·obtain⟨n,rfl⟩:=dh.1 b;rw[h.gS];exact .bool _
 ·obtain⟨n,rfl⟩:=mg.1 b;rw[h.Df];exact .str _
def jF.bare{w':Tam}{S S':bz}{τ:Taj}{c:bB}{v:Tan}{d:D}(h:jF w' 0 S τ c v d)(z:c.bare=true)(I: ∀j T,c.2=some (j,T)-> ∀b,(τ j).ownBlock=some b-> ∀o,S' b o↔S b o):jF w' 0 S' τ c v d:=by
 obtain⟨t,_|⟨j,T⟩⟩:=c
 ·exact⟨h.1.bare h.2 z,h.2⟩
 ·obtain⟨rfl,⟨x,M,B,l,A,L,K,J⟩⟩:=h;refine⟨rfl,x,M,B,l,A,L,fun b k o=>(I j T rfl b k o).trans (K b k o),fun i d q v c y r H=> ?_⟩;rw[A]at x;obtain⟨N,f,_,m⟩:=bL.1 x;injection f with f;subst f;obtain⟨F,E⟩:=cd (m d (bU y));have g:q<t.cells.length:=by rw[<-F];exact(aG.1 r).1
  obtain⟨O,e,u⟩:=E q _ (aQ g);rw[r]at e;injection e with e;subst e;exact(J i d q v c y r H).bare u (bY.1 z _ (aF g))
def gU.bare{w':Tam}{S S':bz}{τ:Taj}{res:List (Bool×List bB)}{v:Tan}{d:D}(h:gU w' 0 S τ res v d)(M:(res.all fun c=>c.2.all bB.bare)=true)(L: ∀j b,j∈cK res->(τ j).ownBlock=some b-> ∀o,S' b o↔S b o):gU w' 0 S' τ res v d:=by
 have g: ∀c∈res,∀y∈c.2,∀j T,y.2=some (j,T)->j∈cK res:=by intro c t y q j T r;unfold cK;exact cZ.2 ⟨c,t,bE.2 ⟨y,q,by rw[r];rfl⟩⟩
 have k: ∀c∈res,∀v d,gl w' 0 S τ c v d->gl w' 0 S' τ c v d:=by
  intro c t v d h;have z:=bY.1 M c t;unfold gl at h⊢;split
  ·rename_i l;rw[if_pos l]at h;obtain⟨B,K,J,I,H,F,A⟩:=h;refine⟨B,K,J,I,H,F,fun i x u y f E q=> ?_⟩;have e:=bU f;exact(A i x u y f E q).bare (bY.1 z x e) (fun j T r b m o=>L j b (g c t x e j T r) m o)
  ·rename_i l;rw[if_neg l]at h;obtain⟨x,f,A⟩:=h;have e:x∈c.2:=by rw[f];simp
   exact⟨x,f,A.bare (bY.1 z x e) (fun j T r b m o=>L j b (g c t x e j T r) m o)⟩
 rcases h with⟨c,rfl,h⟩|⟨tv,B,K,J,I,H,F,A⟩
 ·exact .inl ⟨c,rfl,k c (by simp) v d h⟩
 ·exact .inr ⟨tv,B,K,J,I,H,F,fun i x u y f E q=>k x (bU f) u y (A i x u y f E q)⟩
def B5{b β:Type}[DecidableEq b] : ∀(l r:List (b×β)) (x:b),lk (l++r) x=match lk l x with|some v=>some v|none=>lk r x
 | [],r,x=>rfl
 |(k,v)::l,r,x=>by
  simp only[dU,lk];split
  ·rfl
  ·exact B5 l r x
def Ai{l r:List (Tag×Tao (E×Tba×Ty))}(e: ∀y∈l,σ.live y.1=y.2)(c: ∀y∈l,∀z∈r,y.1≠z.1):eT σ.live (l++r)=eT σ.live r:=by
 funext g;unfold eT;rw[B5];cases h:lk l g with
 |none=>rfl
 |some v=>
  have b:=iK h
  have d:lk r g=none:=by
   cases hr:lk r g with
   |none=>rfl
   |some u=>exact absurd (show((g,v):Tag×Tao (E×Tba×Ty)).1=((g,u):Tag×Tao (E×Tba×Ty)).1 from rfl) (c (g,v) b (g,u) (iK hr))
  rw[d];exact(e _ b).symm
def Bm{ops:Tad}{e:iH}(H:gG n w0 S0 C G σ a w)(hp: ¬C.M p)(a4:p<C.N)(hg:guardOf ops σ o=some [])(h:IT P cs σ p o=some e)(b1: ∀k c,lk cs.l k=some c->bj P k c (Pre k) (Φ k))(c0: ∀it∈e.items,eG C Φ Pre it)(b8:e.qW.2.lt C.N=true)(a8: ∀d,o.dst=some d->d<n)(b7: ¬S0.fr)(b6: ¬S0.wz):
  fx P n w0 S0 C (e.app σ) p ops a w o:=by
 unfold IT at h;split at h
 ·rename_i f r V ho;split at h
  ·rename_i fe k es l hf c7;split at h
   ·rename_i c a1;split at h
    ·rename_i b2;obtain⟨b5,b4,d2,b3,U⟩:=b2;injection h with h;subst h;intro K Q hK;obtain⟨hw,hc⟩:=fL H.t hg;rw[hw,if_pos (show aU C.ρ [] =true from rfl)];obtain⟨f1,f2,f3⟩:=cC H.t (pc:=[]) rfl hf;obtain⟨fl,c4,c5⟩:=kH.1 f3;have a7:=dg.1 c5;subst a7;obtain⟨d1,c2,T,d3⟩:=(c4▸f2).ug;have b0:d1=[] :=an (by simpa using T);subst b0;obtain⟨⟨k1,k2⟩,F⟩:=Ac H.m H.t (pc:=[]) rfl c7;have q:=b1 _ _ a1;have a9:(den C.ρ (.V (es.map (·.1)))).A=es.map fun x=>den C.ρ x.1:=by rw[fX];simp[D.A]
     have a2:(execOp a.eval o).run P w= .ok (.enter k (r.toList.map a.eval).toArray) w:=by
      have e1:(r.toList.map a.eval).toArray=r.map a.eval:=by apply cW;simp
      unfold execOp;simp only[ho,resolve,c2,Deferred.ofValue,e1];have:=q.enter (r.map a.eval) w;simpa [invoke]using this
     unfold Oper.wp;rw[a2]
     have R: ∀b o,rl G σ b o->b<w.heap.size:=by
      rintro b o (h|⟨g,x,hl,hb⟩)
      ·exact H.m.dF b o h
      ·exact((H.m.own g x.1 x.2.1 x.2.2 hl).gq b hb).2
     have I: ∀(i:Nat) v d,(r.toList.map a.eval)[i]? =some v->(es.map fun x=>den C.ρ x.1)[i]? =some d->ca w (rl G σ) v d:=by intro i v d hv hd;simp only[ab,cU]at hv hd;obtain⟨x,A,rfl⟩:=hv;obtain⟨y,B,rfl⟩:=hd;exact(k2 i x y A B).2.1
     have a6:dn (.V c.params) (es.map fun x=>den C.ρ x.1):=by
      rw[<-b4];refine iQ (by simp) fun j u x hj A=> ?_;simp only[ab,cU]at hj A;obtain⟨y,B,rfl⟩:=hj;obtain⟨y',O,rfl⟩:=A;rw[B]at O;injection O with O;subst O;have b9:j<r.toList.length:=by rw[<-k1];exact(aG.1 B).1
      exact(k2 j _ y (aQ b9) B).2.2
     obtain⟨_,_,Z,a3⟩:=c0 _ (aB.2 rfl);have L:=a3 rfl;rw[a9]at Z L;refine(q.calls (by simpa using b5) w (rl G σ) _ _ R (by simp[k1]) I a6 L).mono ?_;rintro e' w' ⟨v,S',τ',rfl,tW,hS,Bg,Nc,kR,M9,Zr,_⟩;simp only;rw[<-Z]at kR;let S1:bz:=fun b o=>G.S b o∨(S' b o∧w.heap.size<=b);let W:Gh:={S:=S1,β:=G.β,τ:=fun g=>if g.1=p then τ' g.2 else G.τ g};have Y: ∀j,W.τ (p,j)=τ' j:=fun j=>if_pos rfl;have hM:(C.add p).M p:=.inr rfl
     have J:gU w' 0 W.S τ' c.res v ((C.add p).ρ p):=gU.bare kR U fun j b hj hb o=>by
      have c1:=M9 j b hj hb;constructor
      ·rintro(h|h)
       ·have:=H.m.dF b o h;omega
       ·exact h.1
      ·intro h;exact .inr ⟨h,c1⟩
     have E:=um (C:=C.add p) (G:=W) J hM a4 Y
     have a0:eT σ.live (l++gM p c.res)=eT σ.live (gM p c.res):=Ai (fun y B=>(F y B).1) (fun y B z hz he=>by
      obtain⟨h1,h2⟩:=F y B;cases hy2:y.2 with
      |none=>rw[hy2]at h2;cases h2
      |some x=>rw[hy2]at h1;exact fy H.m hp h1 (by rw[he];exact(E z hz).1))
     obtain⟨a5,hm⟩:=H.m.called hp (τ':=τ') tW (fun b o h=>.inl h) (S':=S1)
      (by
       rintro b o (h|h)
       ·have:=H.m.dF b o h;have:=tW.size;omega
       ·exact Bg b o h.1)
      (by
       rintro b o (h|h)
       ·exact .inl h
       ·exact .inr h.2) (eT σ.live (gM p c.res)) W rfl
      (by
       intro g x A;unfold eT at A;split at A
       ·rename_i y B;obtain⟨q1,q2,e1,T1,t1,q3,q4⟩:=E _ (iK B);simp only at q1 q3 q4;rw[q3]at A;injection A with A;subst A;refine .inr ⟨q1,q4.Gz (fun b hb=>M9 g.2 b q2 ?_)⟩;have e:W.τ g=τ' g.2:=if_pos q1;rw[<-e];exact hb
       ·exact .inl ⟨fy H.m hp A,A⟩)
      (by
       intro j1 j2 x y b A B d0 c9
       have X: ∀j x,eT σ.live (gM p c.res) (p,j)=some x->j∈cK c.res:=by
        intro j x A;unfold eT at A;split at A
        ·rename_i y B;exact(E _ (iK B)).2.1
        ·exact absurd rfl (fy H.m hp A)
       exact Zr j1 j2 b (X j1 x A) (X j2 y B) d0 c9) (fun c6=>absurd c6 b7) b6
     exact hK _ _ _ (H.step (o:=o) (e:=⟨o.dst,([],lC true p c.res),[],l++gM p c.res,[],[.call p k (.V (es.map (·.1))) []]⟩) a5 (hm.congr (dD _) a0) rfl b8 hc
      (by intro _;simp only[aU,bQ,if_true];exact vA (C:=C.add p) (G:=W) J hM a4 Y _) a8)
    ·cases h
   ·cases h
  ·cases h
 ·cases h
def tP{c:SC}{x:E×Ty}{l:List (Tag×Tao (E×Tba×Ty))}(h:mT σ c=some (x,l)): ∀y∈l,σ.live y.1=y.2:=by
 unfold mT at h;split at h
 ·split at h
  ·rename_i e T b;obtain⟨_,rfl⟩:=iD h;unfold qL at b;split at b
   ·rename_i j k i d;split at b
    ·rename_i g;obtain⟨rfl,rfl⟩:=iD b;intro y f;rw[aB]at f;subst f;rw[d,g.1]
    ·cases b
   ·cases b
  ·cases h
 ·rw[cU]at h;obtain⟨_,_,h⟩:=h;simp only[ae]at h;obtain⟨_,rfl⟩:=h;simp
def r5: ∀{cs:List SC} {x:List E×Tal} {l:List (Tag×Tao (E×Tba×Ty))},jJ σ cs=some (x,l)-> ∀y∈l,σ.live y.1=y.2
 | [],x,l,h=>by simp only[jJ,aa,ae]at h;obtain⟨_,rfl⟩:=h;simp
 |c::r,x,l,h=>by
  simp only[jJ]at h;split at h
  ·rename_i e t j k g i f d;obtain⟨_,rfl⟩:=iD h;intro y b;rcases aI.1 b with b|b
   ·exact tP f y b
   ·exact r5 d y b
  ·cases h
def AX{s:SV}{x:E×Ty}{l:List (Tag×Tao (E×Tba×Ty))}(h:mE σ s=some (x,l)): ∀y∈l,σ.live y.1=y.2:=by
 cases s with
 |one c=>exact tP h
 |agg cl=>
  simp only[mE]at h;split at h
  ·rename_i f d e b;obtain⟨_,rfl⟩:=iD h;exact r5 b
  ·cases h
 |eS l=>cases h
def xR{pc:dB}: ∀{xs:List Tbb} {d:List Tba} {es:List (E×Ty)} {l:List (Tag×Tao (E×Tba×Ty))},qM P σ pc xs d=some (es,l)-> ∀y∈l,σ.live y.1=y.2
 | [],[],es,l,h=>by simp only[qM,aa,ae]at h;obtain⟨_,rfl⟩:=h;simp
 |x::xs,t::ts,es,l,h=>by
  simp only[qM]at h;split at h
  ·rename_i e k g j c f;obtain⟨_,rfl⟩:=iD h;rw[dJ]at c;obtain⟨i,_,c⟩:=c;intro y b;rcases aI.1 b with b|b
   ·exact AX c y b
   ·exact xR f y b
  ·cases h
 | [],_::_,_,_,h=>by cases h
 |_::_,[],_,_,h=>by cases h
def AP{ops:Tad}{pc:dB}{e:iH}(A:gG n w0 S0 C G σ a w)(hp: ¬C.M p)(b3:p<C.N)(hg:guardOf ops σ o=some pc)(h:wD P cs σ pc p o=some e)(a8: ∀k z,lk cs.l k=some z->bj P k z (Pre k) (Φ k))(c0: ∀it∈e.items,eG C Φ Pre it)(a1:e.qW.2.lt C.N=true)(I: ∀d,o.dst=some d->d<n)(b7: ¬S0.fr)(b6: ¬S0.wz):
  fx P n w0 S0 C (e.app σ) p ops a w o:=by
 unfold wD at h;split at h
 ·rename_i f q U ho;split at h
  ·rename_i fe k T l hf a5;split at h
   ·rename_i z X;split at h
    ·rename_i a9;obtain⟨b4,b2,b8,b5,b0,R⟩:=a9;injection h with h;subst h
     have a0:eT σ.live l=σ.live:=by have:=Ai (σ:=σ) (l:=l) (r:=[]) (xR a5) (fun _ _ _ hz=>by simp at hz);rw[cN]at this;rw[this];exact dD _
     intro K Q hK;obtain⟨hw,hc⟩:=fL A.t hg;rw[hw];cases uG:aU C.ρ pc with
     |false=>
      simp only[ai,if_false]
      exact hK _ _ _ (A.step (o:=o) (e:=⟨o.dst,(pc,lC false p z.res),[],l,[],[.call p k (.V (T.map (·.1))) pc]⟩) (dL.nu C w G p) ((A.m.nu p).congr (dD _) a0) rfl a1 hc
       (by intro _;simp only[uG,ai,if_false]) I)
     |true=>
      simp only[if_true];obtain⟨f1,f2,f3⟩:=cC A.t (pc:=[]) rfl hf;obtain⟨fl,c2,c4⟩:=kH.1 f3;have a4:=dg.1 c4;subst a4;obtain⟨c6,c1,O,c7⟩:=(c2▸f2).ug;have a7:c6=[] :=an (by simpa using O);subst a7;obtain⟨⟨k1,k2⟩,_⟩:=Ac A.m A.t uG a5;have c:=a8 _ _ X;have a6:(den C.ρ (.V (T.map (·.1)))).A=T.map fun x=>den C.ρ x.1:=by rw[fX];simp[D.A]
      have Y:(execOp a.eval o).run P w= .ok (.enter k (q.toList.map a.eval).toArray) w:=by
       have e1:(q.toList.map a.eval).toArray=q.map a.eval:=by apply cW;simp
       unfold execOp;simp only[ho,resolve,c1,Deferred.ofValue,e1];have:=c.enter (q.map a.eval) w;simpa [invoke]using this
      unfold Oper.wp;rw[Y]
      have L: ∀b o,rl G σ b o->b<w.heap.size:=by
       rintro b o (h|⟨g,x,hl,hb⟩)
       ·exact A.m.dF b o h
       ·exact((A.m.own g x.1 x.2.1 x.2.2 hl).gq b hb).2
      have B: ∀(i:Nat) v d,(q.toList.map a.eval)[i]? =some v->(T.map fun x=>den C.ρ x.1)[i]? =some d->ca w (rl G σ) v d:=by intro i v d hv hd;simp only[ab,cU]at hv hd;obtain⟨x,H,rfl⟩:=hv;obtain⟨y,W,rfl⟩:=hd;exact(k2 i x y H W).2.1
      have a3:dn (.V z.params) (T.map fun x=>den C.ρ x.1):=by
       rw[<-b2];refine iQ (by simp) fun j u x hj H=> ?_;simp only[ab,cU]at hj H;obtain⟨y,W,rfl⟩:=hj;obtain⟨y',F,rfl⟩:=H;rw[W]at F;injection F with F;subst F;have b9:j<q.toList.length:=by rw[<-k1];exact(aG.1 W).1
       exact(k2 j _ y (aQ b9) W).2.2
      obtain⟨_,_,V,Z⟩:=c0 _ (aB.2 rfl);have E:=Z uG;rw[a6]at V E;refine(c.calls (by simpa using b4) w (rl G σ) _ _ L (by simp[k1]) B a3 E).mono ?_;rintro e' w' ⟨v,S',τ',rfl,tW,hS,Bg,Nc,kR,M9,Zr,_⟩;simp only;rw[<-V]at kR;let G':Gh:={S:=G.S,β:=G.β,τ:=fun g=>if g.1=p then τ' g.2 else G.τ g};have b1: ∀j,G'.τ (p,j)=τ' j:=fun j=>if_pos rfl;have hM:(C.add p).M p:=.inr rfl;have J:gU w' 0 G'.S τ' z.res v ((C.add p).ρ p):=gU.bare kR R fun j b hj=>by rw[b8]at hj;simp at hj
      obtain⟨a2,hm⟩:=A.m.called hp (τ':=τ') tW (fun b o h=>h) (S':=G.S)
       (fun b o h=>av (A.m.dF b o h) tW.size) (fun b o h=>.inl h) σ.live G' rfl
       (fun g x H=>.inl ⟨fy A.m hp H,H⟩)
       (fun j1 j2 x y b H _ _ _=>absurd rfl (fy A.m hp H)) (fun c5=>absurd c5 b7) b6
      exact hK _ _ _ (A.step (o:=o) (e:=⟨o.dst,(pc,lC false p z.res),[],l,[],[.call p k (.V (T.map (·.1))) pc]⟩) a2 (hm.congr (dD _) a0) rfl a1 hc
       (by intro _;simp only[uG,if_true];exact vA (C:=C.add p) (G:=G') J hM b3 b1 _ (.inr b5)) I)
    ·cases h
   ·cases h
  ·cases h
 ·cases h
end
section
variable{P:Tap}{C:Cx}{w w0:Tam}{S0:gJ}{G:Gh}{σ:St}{a:Act}{o:Tbc}{pc:dB}{s:SV}{is:List Item}{Φ:Taa}{Pre:eN}{n p:Nat}{cs:mG}
def xr(G:Gh)(ids:Tah)(b o:Nat):Prop:=G.S b o∨ ∃id∈ids,b=G.β id
def EX(r:eW w0 S0 C G σ w){id:Nat}{ro:Bool}{cs:List SC}(j:σ.hp id=some (ro,cs))(g:mapOf cs=none){ds:Taf}(k:ds.length=cs.length){ids:Tah}(hi:id∈ids)(h: ∀(i:Nat) c v d,cs[i]? =some c->qG C w G c v->ds[i]? =some d->ca w (xr G ids) v d):ca w (xr G ids) (.pointer (some ⟨G.β id,0,none⟩)) (.ptr ds):=by
 obtain⟨_,_,e,_⟩:=r.box _ _ _ j;obtain⟨q,T,t,m⟩:=e.cells g;refine .ptr (G.β id) q ds (by rw[k];exact m.1) (fun i _=>.inr ⟨id,hi,rfl⟩) (fun i v f=> ?_) (fun i v d f l=> ?_)
 ·rw[cell_of_row w _ i _ T (0,0) t];simpa using f
 ·have b:i<cs.length:=by rw[<-k];exact(aG.1 l).1
  exact h i _ v d (aQ b) (m.2 i _ v (aQ b) f) l
def xP: ∀{cs:List SC} {es:List E} {ts:Tal},gY cs=some (es,ts)->es.length=cs.length∧ts.length=cs.length∧ ∀(i:Nat) c,cs[i]? =some c-> ∃e t,es[i]? =some e∧ts[i]? =some t∧asData c=some (e,t)
 | [],es,ts,h=>by simp only[gY,aa,ae]at h;obtain⟨rfl,rfl⟩:=h;exact⟨rfl,rfl,by intro i c b;simp at b⟩
 |c::r,es,ts,h=>by
  simp only[gY]at h;split at h
  ·rename_i e t x d v u;obtain⟨rfl,rfl⟩:=iD h;obtain⟨k,j,g⟩:=xP u;refine⟨by simp[k],by simp[j],fun i z b=> ?_⟩;cases i with
   |zero=>simp at b;subst b;exact⟨e,t,rfl,rfl,v⟩
   |succ i=>
    obtain⟨y,f,q,m,l⟩:=g i z (by simpa using b);exact⟨y,f,by simpa using q,by simpa using m,l⟩
  ·cases h
def B7(M:eW w0 S0 C G σ w): ∀{cs:List SC} {es:List E} {ts:Tal} {ids:Tah},tG σ cs=some (es,ts,ids)->es.length=cs.length∧ts.length=cs.length∧(∀id∈ids,∃x,σ.hp id=some x)∧
  ∀(i:Nat) c,cs[i]? =some c-> ∃e t,es[i]? =some e∧ts[i]? =some t∧(∀v,qG C w G c v-> ∀b,(∀j∈ids,j∈b)->ca w (xr G b) v (den C.ρ e)∧Has t (den C.ρ e))
 | [],es,ts,ids,h=>by simp only[tG,aa,ae]at h;obtain⟨rfl,rfl,rfl⟩:=h;exact⟨rfl,rfl,by simp,by intro i c l;simp at l⟩
 |c::r,es,ts,ids,h=>by
  simp only[tG]at h;split at h
  ·rename_i a1 a0 b h1;obtain⟨Z,Y,X,W⟩:=B7 M h1;split at h
   ·rename_i e t J;obtain⟨rfl,rfl,rfl⟩:=LA h;refine⟨by simp[Z],by simp[Y],X,fun i Q l=> ?_⟩;cases i with
    |zero=>
     simp at l;subst l;refine⟨e,t,rfl,rfl,fun v z b _=> ?_⟩;obtain⟨_,g,k⟩:=kM J z;exact⟨g.keep (fun _ _ h=>.inl h) (fun _ _ _=>rfl),k⟩
    |succ i=>
     obtain⟨N,K,y,g,k⟩:=W i Q (by simpa using l);exact⟨N,K,by simpa using y,by simpa using g,k⟩
   ·split at h
    ·rename_i id _;split at h
     ·rename_i ro O B;split at h
      ·rename_i ds us F;obtain⟨rfl,rfl,rfl⟩:=LA h;refine⟨by simp[Z],by simp[Y],fun j q=> ?_,fun i Q l=> ?_⟩
       ·rcases aD.1 q with rfl|q
        ·exact⟨_,B⟩
        ·exact X j q
       ·cases i with
        |zero=>
         simp at l;subst l;obtain⟨V,S,R⟩:=xP F;refine⟨_,_,rfl,rfl,fun v z m f=> ?_⟩;obtain⟨_,rfl⟩:=z;have H:den C.ρ (.un .pP (.V ds))= .ptr (ds.map (den C.ρ)):=by simp only[den,U.den,fX,D.A]
         rw[H];refine⟨EX M B (iZ F) (by simp[V]) (f id (by simp)) (fun i c v d hc z J=> ?_),iF.2 ⟨_,rfl,iQ (by simp[V,S]) (fun j u x q hx=> ?_)⟩⟩
         ·obtain⟨e,t,y,_,k⟩:=R i c hc;simp only[ab,y,aP,aa]at J;subst J;exact(kM k z).2.1.keep (fun _ _ h=>.inl h) (fun _ _ _=>rfl)
         ·have A:j<O.length:=by rw[<-S];exact(aG.1 q).1
          obtain⟨e,t,y,g,k⟩:=R j _ (aQ A);rw[q]at g;injection g with g;subst g;simp only[ab,y,aP,aa]at hx;subst hx;obtain⟨_,_,I,_⟩:=M.box _ _ _ B;obtain⟨vs,T,b3,b4⟩:=I.cells (iZ F);have L:j<vs.length:=by rw[b4.1];exact A
          exact(kM k (b4.2 j _ _ (aQ A) (aQ L))).2.2
        |succ i=>
         obtain⟨N,K,y,g,k⟩:=W i Q (by simpa using l);exact⟨N,K,by simpa using y,by simpa using g,fun v z m f=>k v z m (fun j q=>f j (by simp[q]))⟩
      ·cases h
     ·cases h
    ·cases h
  ·cases h
def vV{cs:List SC}{x:List E×Tal×Tah}(h:tG σ cs=some x):mapOf cs=none:=by
 unfold mapOf;split
 ·simp[tG,asData]at h
 ·rfl
def QV(B:gG n w0 S0 C G σ a w)(F:aU C.ρ pc=true){x:Tbb}{t:Tba}{e:E}{ty:Ty}{ids:Tah}(h:Kd P σ pc x t=some (e,ty,ids)):(∀id∈ids,∃z,σ.hp id=some z)∧
  ∀b,(∀j∈ids,j∈b)->ca w (xr G b) (a.eval x) (den C.ρ e)∧Has ty (den C.ρ e):=by
 unfold Kd at h;split at h
 ·rename_i e' Z J;obtain⟨rfl,rfl,rfl⟩:=LA h;obtain⟨_,q,r⟩:=dR B.t F J;exact⟨by simp,fun b _=>⟨q.keep (fun _ _ h=>.inl h) (fun _ _ _=>rfl),r⟩⟩
 ·split at h
  ·rename_i id hx;split at h
   ·rename_i ro O l;split at h
    ·rename_i W ts A N;obtain⟨rfl,rfl,rfl⟩:=LA h;obtain⟨S,R,q3,Q⟩:=B7 B.m N;obtain⟨_,M⟩:=cC B.t F hx;refine⟨fun j f=> ?_,fun b g=> ?_⟩
     ·rcases aD.1 f with rfl|f
      ·exact⟨_,l⟩
      ·exact q3 j f
     ·have H:den C.ρ (.un .pP (.V W))= .ptr (W.map (den C.ρ)):=by simp only[den,U.den,fX,D.A]
      rw[H,M];obtain⟨_,_,I,_⟩:=B.m.box _ _ _ l;obtain⟨Y,T,b3,X⟩:=I.cells (vV N);refine⟨EX B.m l (vV N) (by simp[S]) (g id (by simp)) (fun i c v d hc M J=> ?_),iF.2 ⟨_,rfl,iQ (by simp[S,R]) (fun j u y f V=> ?_)⟩⟩
      ·obtain⟨e,t,K,_,r⟩:=Q i c hc;simp only[ab,K,aP,aa]at J;subst J;exact(r v M b (fun j f=>g j (by simp[f]))).1
      ·have k:j<O.length:=by rw[<-R];exact(aG.1 f).1
       obtain⟨e,t,K,q,r⟩:=Q j _ (aQ k);rw[f]at q;injection q with q;subst q;simp only[ab,K,aP,aa]at V;subst V;have L:j<Y.length:=by rw[X.1];exact k
       exact(r _ (X.2 j _ _ (aQ k) (aQ L)) A (fun _ h=>h)).2
    ·cases h
   ·cases h
  ·cases h
def Fh(q:gG n w0 S0 C G σ a w)(f:aU C.ρ pc=true): ∀{l:List Tbb} {ts:List Tba} {es:List (E×Ty)} {ids:Tah},xp P σ pc l ts=some (es,ids)->
  es.length=l.length∧(∀id∈ids,∃z,σ.hp id=some z)∧ ∀(i:Nat) x e,l[i]? =some x->es[i]? =some e-> ∀b,(∀j∈ids,j∈b)->ca w (xr G b) (a.eval x) (den C.ρ e.1)∧Has e.2 (den C.ρ e.1)
 | [],[],es,ids,h=>by simp only[xp,aa,ae]at h;obtain⟨rfl,rfl⟩:=h;exact⟨rfl,by simp,by intro i x e k;simp at k⟩
 |y::l,t::ts,es,ids,h=>by
  simp only[xp]at h;split at h
  ·rename_i e J K H b F D;obtain⟨rfl,rfl⟩:=iD h;obtain⟨u,r⟩:=QV q f F;obtain⟨B,A,v⟩:=Fh q f D;refine⟨by simp[B],fun j g=>(aI.1 g).elim (u j) (A j),fun i x I k m c d=> ?_⟩;cases i with
   |zero=>simp at k m;subst k;subst m;exact r c (fun j g=>d j (aA _ g))
   |succ i=>exact v i x I (by simpa using k) (by simpa using m) c (fun j g=>d j (bq _ g))
  ·cases h
 | [],_::_,_,_,h=>by cases h
 |_::_,[],_,_,h=>by cases h
def Bp{ops:Tad}{k:Nat}{e:E}{A:dH}{rd:Tah}(R:gG n w0 S0 C G σ a w)(hp: ¬C.M p)(b5:p<C.N)(hg:guardOf ops σ o=some pc)(h:om P cs σ pc o=some (k,e,A,rd))(c6: ∀k A,lk cs.l k=some A->bj P k A (Pre k) (Φ k))(d6:eG C Φ Pre (.call p k e pc))(b6:(lC pc.isEmpty p A.res).lt C.N=true)(a0: ∀d,o.dst=some d->d<n)(H:List Item)(d5: ¬S0.fr)(d4: ¬S0.wz):
  fx P n w0 S0 C ((⟨o.dst,(pc,lC pc.isEmpty p A.res),[],if pc.isEmpty then gM p A.res else [],rd,H⟩:iH).app σ) p ops a w o:=by
 intro K Q hK;obtain⟨hw,hc⟩:=fL R.t hg;rw[hw];have c1:aU C.ρ pc=false->pc.isEmpty=false:=by intro h;cases pc<;>first|rfl|(simp[aU]at h)
 cases uG:aU C.ρ pc with
 |false=>
  simp only[ai,if_false]
  have hm:eW w0 S0 (C.add p) G ((⟨o.dst,(pc,lC pc.isEmpty p A.res),[],if pc.isEmpty then gM p A.res else [],rd,H⟩:iH).app σ) w:=
   (R.m.nu p).congr (dD _) (by simp only[iH.app,c1 uG,ai,if_false];exact dD _)
  exact hK _ _ _ (R.step (o:=o) (e:=⟨o.dst,(pc,lC pc.isEmpty p A.res),[],if pc.isEmpty then gM p A.res else [],rd,H⟩) (dL.nu C w G p) hm rfl b6 hc
   (by intro _;simp only[uG,ai,if_false]) a0)
 |true=>
 simp only[if_true];unfold om at h;split at h
 ·rename_i f F a8 ho;split at h
  ·rename_i fe k' es ids hf e2;split at h
   ·rename_i c b2;split at h
    ·rename_i c7;obtain⟨d2,d1,e6,d0,a5,d3⟩:=c7;obtain⟨rfl,hE,rfl,rfl⟩:=W0 h;obtain⟨f1,f2,f3⟩:=cC R.t (pc:=[]) rfl hf;obtain⟨fl,d8,d9⟩:=kH.1 f3;have c0:fl=[] :=dg.1 d9;subst c0;obtain⟨e5,d7,a4,_⟩:=(d8▸f2).ug;have c5:e5=[] :=an a4;subst c5;obtain⟨k1,kh,k2⟩:=Fh R uG e2;have B:=c6 _ _ b2
     have c4:(den C.ρ e).A=es.map fun x=>den C.ρ x.1:=by rw[<-hE,fX];simp only[D.A,List.map_map];rfl
     have b3:(execOp a.eval o).run P w= .ok (.enter k' (F.toList.map a.eval).toArray) w:=by
      have e1:(F.toList.map a.eval).toArray=F.map a.eval:=by apply cW;simp
      unfold execOp;simp only[ho,resolve,d7,Deferred.ofValue,e1];have:=B.enter (F.map a.eval) w;simpa [invoke]using this
     unfold Oper.wp;rw[b3]
     have a7: ∀b o,xr G ids b o->b<w.heap.size:=by
      rintro b o (hb|⟨id,hid,rfl⟩)
      ·exact R.m.dF b o hb
      ·obtain⟨z,hz⟩:=kh id hid;exact R.m.kY hz
     have J: ∀(i:Nat) v d,(F.toList.map a.eval)[i]? =some v->(es.map fun x=>den C.ρ x.1)[i]? =some d->ca w (xr G ids) v d:=by intro i v d hv hd;simp only[ab,cU]at hv hd;obtain⟨x,I,rfl⟩:=hv;obtain⟨y,O,rfl⟩:=hd;exact(k2 i x y I O ids (fun _ h=>h)).1
     have b9:dn (.V c.params) (es.map fun x=>den C.ρ x.1):=by
      rw[<-d1];refine iQ (by simp) fun j u x L I=> ?_;simp only[ab,cU]at L I;obtain⟨y,O,rfl⟩:=L;obtain⟨y',W,rfl⟩:=I;rw[O]at W;injection W with W;subst W;have b7:j<F.toList.length:=by rw[<-k1];exact(aG.1 O).1
      exact(k2 j _ y (aQ b7) O ids (fun _ h=>h)).2
     obtain⟨_,_,b1,b4⟩:=d6;have U:=b4 uG;rw[c4]at b1 U;refine(B.calls (by simpa using d2) w (xr G ids) _ _ a7 (by simp[k1]) J b9 U).mono ?_;rintro e' w' ⟨v,S1,WY,rfl,tW,hS1,abw,afh,Sm,zj,Na,_⟩;simp only;rw[<-b1]at Sm;obtain⟨S',X⟩: ∃S':bz,∀b o,S' b o↔S1 b o∧(G.S b o∨w.heap.size<=b):=⟨fun b o=>S1 b o∧(G.S b o∨w.heap.size<=b),fun _ _=>dx⟩
     have a1:gU w' 0 S' WY c.res v (C.ρ p):=Sm.bare a5 (fun j b L hb o=>by rw[X];exact⟨fun h=>h.1,fun h=>⟨h,.inr (zj j b L hb)⟩⟩)
     have hS: ∀b o,G.S b o->S' b o:=fun b o h=>(X b o).2 ⟨hS1 b o (.inl h),.inl h⟩;have c9: ∀b o,S' b o->b<w'.heap.size:=fun b o h=>abw b o ((X b o).1 h).1;have a6: ∀b o,S' b o->G.S b o∨w.heap.size<=b:=fun b o h=>((X b o).1 h).2;obtain⟨r,Y⟩: ∃r,r=oX c.res WY:=⟨_,rfl⟩;have a3: ∀j,j∈cK c.res->r j=WY j:=fun j L=>by rw[Y];exact if_pos L
     have Z:=a1.YY;rw[<-Y]at Z;have a2: ∀j b,j∈cK c.res->(r j).ownBlock=some b->w.heap.size<=b:=fun j b L hb=>zj j b L (by rw[<-a3 j L];exact hb);have c2: ∀j k b,j∈cK c.res->k∈cK c.res->(r j).ownBlock=some b->(r k).ownBlock=some b->j=k:=fun j k b L hk h1 h2=>Na j k b L hk (by rw[<-a3 j L];exact h1) (by rw[<-a3 k hk];exact h2);let G':Gh:={S:=S',β:=G.β,τ:=fun g=>if g.1=p then r g.2 else G.τ g};have b0: ∀j,G'.τ (p,j)=r j:=fun j=>if_pos rfl;have hM:(C.add p).M p:=.inr rfl;have T:gU w' 0 G'.S r c.res v ((C.add p).ρ p):=Z;have V:=um (C:=C.add p) (G:=G') T hM b5 b0
     obtain⟨b8,hm⟩:=R.m.called hp (τ':=r) tW hS c9 a6 (eT σ.live (if pc.isEmpty then gM p c.res else [])) G' rfl
      (by
       intro g x I;unfold eT at I;split at I
       ·rename_i y O;have q:=iK O;cases LJ:pc.isEmpty with
        |false=>rw[LJ]at q;simp at q
        |true=>
        rw[LJ]at q;simp only[if_true]at q;obtain⟨q1,q2,e1,T1,t1,q3,q4⟩:=V _ q;simp only at q1 q3 q4;rw[q3]at I;injection I with I;subst I;refine .inr ⟨q1,q4.Gz (fun b hb=>a2 g.2 b q2 ?_)⟩;have e:G'.τ g=r g.2:=if_pos q1;rw[<-e];exact hb
       ·exact .inl ⟨fy R.m hp I,I⟩)
      (by
       intro j1 j2 x y b I O e4 e3
       have a9: ∀j x,eT σ.live (if pc.isEmpty then gM p c.res else []) (p,j)=some x->j∈cK c.res:=by
        intro j x I;unfold eT at I;split at I
        ·rename_i y O;have q:=iK O;cases LJ:pc.isEmpty with
         |false=>rw[LJ]at q;simp at q
         |true=>
         rw[LJ]at q;simp only[if_true]at q;exact(V _ q).2.1
        ·exact absurd rfl (fy R.m hp I)
       exact c2 j1 j2 b (a9 j1 x I) (a9 j2 y O) e4 e3)
      (fun e0=>absurd e0 d5) d4
     exact hK _ _ _ (R.step (o:=o) (e:=⟨o.dst,(pc,lC pc.isEmpty p c.res),[],if pc.isEmpty then gM p c.res else [],ids,H⟩) b8 (hm.congr (dD _) rfl) rfl b6 hc
      (by intro _;simp only[uG,if_true];exact vA (C:=C.add p) (G:=G') T hM b5 b0 _ (by simpa using d3)) a0)
    ·cases h
   ·cases h
  ·cases h
 ·cases h
end
def vS{b:Type}(l:List b): ∀(n i j:Nat),i<n->j<l.length->(List.replicate n l).flatten[i*l.length+j]? =l[j]?
 |0,i,j,h,_=>by omega
 |n+1,0,j,_,hj=>by simp only[List.replicate_succ,eD,Nat.zero_mul,ao];rw[aq hj]
 |n+1,i+1,j,h,hj=>by simp only[List.replicate_succ,eD];rw[aN (by rw[cb];omega)];have:=vS l n i j (by omega) hj;rw[<-this];congr 1;rw[cb];omega
def je(b:Bool)(size:Nat): ∀(n:Nat) (es:List E),(qc b size es n).length=n
 |0,_=>rfl
 |n+1,es=>by simp[qc,je b size n]
def nR(b:Bool)(size:Nat): ∀(n i:Nat) (es:List E),i<n->(qc b size es n)[i]? =some (if b then .un .agg (.V ((es.drop (i*size)).take size)) else(es.drop (i*size)).headD .nil)
 |0,i,_,h=>by omega
 |n+1,0,es,_=>by simp[qc]
 |n+1,i+1,es,h=>by simp only[qc,dm];rw[nR b size n i _ (by omega)];rw[List.drop_drop,cb,Nat.one_mul,Nat.add_comm size]
def yd{P:Tap}(w:Tam)(t e:Tba)(len:Nat)(b:Tbd (Nat×Tan))(cells:Tbd Tan)(d:TypeInfo)(z:Tan)(k:P.underlying t=some (.slice e))(j:P.info? e=some d)(l:d.zero=some z)(g: ¬len*d.size>2 ^ 24)(h:Instr.fill (fun i=>some (i*d.size,d.size)) ((Array.range (len*d.size)).map (z.cells[· % z.cells.size]!)) b.toList=some cells):
  (Instr.buildSlice t len b).run P w= .ok (.slice (some ⟨w.heap.size,0,none⟩) len len) (w.alloc (.cells cells e)):=by
 by_cases c:len*d.size=0
 ·have q: ∀f:Taj,(Array.range (len*d.size)).map f= #[] :=fun f=>by rw[c];simp
  rw[q]at h;have m: ∀f:Taj,(Array.range 0).map f= #[] :=fun f=>by simp
  simp[Instr.buildSlice,run_underlying k,sizeOf,typeInfo,j,newRow,c];rw[m,h];simp
 ·exact run_buildSlice w t e len b cells d z k j l g c h
section
variable{P:Tap}{C:Cx}{w w0:Tam}{S0:gJ}{G:Gh}{σ:St}{a:Act}{o:Tbc}{pc:dB}{s:SV}{is:List Item}{Φ:Taa}{Pre:eN}{n p:Nat}{cs:mG}
def BV{e:E}{T:Tba}{t:Ty}{len:Nat}(ht:iO C w G σ.tm a)(b9:aU C.ρ pc=true)(h:qJ P σ pc o=some (e,T,t,len)):
  ∃(xs:Tac) (l:Taf),(execOp a.eval o).run P w= .ok (.value (.slice (some ⟨w.heap.size,0,none⟩) len len)) (w.alloc (.cells xs.toArray T))∧e.lt C.N=true∧den C.ρ e= .list l∧l.length=len∧mK t len∧
   0<t.cells.length∧xs.length=len*t.cells.length∧(∀d∈l,Has t d)∧
   (∀(i:Nat) d (j:Nat) v c,l[i]? =some d->d.cells[j]? =some c->xs[i*t.cells.length+j]? =some v->ca w G.S v c)∧ ∀cl,qa P σ pc o=some cl->jQ C w G cl xs:=by
 unfold qJ at h;split at h
 ·rename_i tt lB a0 ho;split at h
  ·rename_i el hu;split at h
   ·rename_i f u ts ps b4 a8 c1 b0;split at h
    ·rename_i zs A
     obtain⟨z,hz,A⟩: ∃z,f.zero=some z∧ma ts z.cells.toList=some zs:=by
      cases hq:f.zero with
      |none=>simp[hq]at A
      |some z=>exact⟨z,rfl,by simpa [hq]using A⟩
     split at h
     ·rename_i c4;obtain⟨c5,a3,b1,b7,X⟩:=c4;split at h
      ·rename_i c6 J;split at h
       ·rename_i K us c2;split at h
        ·rename_i a2;have a7:=ql (C:=C) (w:=w) (G:=G) A;have a6:z.cells.size=zs.length:=by have:=a7.1;simpa using this
         have a4:jQ C w G ((List.range (lB*f.size)).map fun j=>zs.getD (j % zs.length) (.mN .nil)) ((List.range (lB*f.size)).map fun j=>z.cells[j % z.cells.size]!):=by
          refine⟨by simp,fun i c v r L=> ?_⟩;have k:i<lB*f.size:=by have:=(aG.1 r).1;simpa using this
          simp only[ab,dp k,aP,aa]at r L;have hm:i % zs.length<zs.length:=Nat.mod_lt _ (by omega);subst r;subst L;rw[a6];have e1:zs.getD (i % zs.length) (.mN .nil)=zs[i % zs.length] :=by simp[List.getD,hm]
          have b2:i % zs.length<z.cells.size:=by omega
          have e2:z.cells[i % zs.length]! =z.cells.toList[i % zs.length]'(by simpa using b2):=by simp[getElem!_pos,b2]
          rw[e1,e2];exact a7.2 _ _ _ (aQ hm) (aQ _)
         obtain⟨k1,k2⟩:=uq ht b9 _ _ _ b0;obtain⟨xs,h1,h2⟩:=xb _ _ _ _ _ _ J a4 k1 k2;obtain⟨m1,m2,m3,m4,m5⟩:=lZ c2 h2
         have V: ∀cl,qa P σ pc o=some cl->jQ C w G cl xs:=by
          intro cl m;have hb:(f.zero.bind fun z=>ma ts z.cells.toList)=some zs:=by rw[hz];exact A
          unfold qa at m;simp only[ho,hu,b4,c1,b0,hb]at m;rw[J]at m;injection m with m;rw[<-m];exact h2
         have a1:xs.length=lB*f.size:=by rw[<-m3,a2.1];simp[a3]
         have Q: ∀{T},el=T->(execOp a.eval o).run P w= .ok (.value (.slice (some ⟨w.heap.size,0,none⟩) lB lB)) (w.alloc (.cells xs.toArray T)):=by
          rintro T rfl
          have:=yd (P:=P) w tt el lB (a0.map fun(i,x)=>(i,a.eval x)) xs.toArray f z hu b4 hz (by rw[show(2:Nat) ^ 24=16777216 from rfl];omega)
           (by
            rw[Array.toList_map];have e1:(Array.range (lB*f.size)).map (fun x=>z.cells[x % z.cells.size]!)=((List.range (lB*f.size)).map fun j=>z.cells[j % z.cells.size]!).toArray:=by apply cW;simp
            rw[e1];exact h1)
          unfold execOp;simp only[ho,bg];rw[this];rfl
         have R:lB<=maxLen:=by
          have:lB<=lB*f.size:=Nat.le_mul_of_pos_right _ b1;have h9:(16777216:Nat)<=maxLen:=by decide
          omega
         have W:K.length=lB*f.size:=by rw[m2,a1]
         have H: ∀e∈K,e.lt C.N=true:=(rr K).1 m1
         have O: ∀(i j:Nat) (ty:Ty) (x:E),i<lB->j<f.size->u.cells[j]? =some ty->K[i*f.size+j]? =some x->Has ty (den C.ρ x):=by intro i j ty x k hj a8 g;have b8:=cI m5 (i*f.size+j) ty (by rw[Ty.dq,a2.1,<-a3,vS _ _ _ _ k (by omega)];exact a8);obtain⟨d,q,c0⟩:=b8;simp only[ab,g,aP,aa]at q;subst q;exact c0
         have b6: ∀{i j:Nat},i<lB->j<f.size->i*f.size+j<lB*f.size:=by intro i j k hj;have:(i+1)*f.size<=lB*f.size:=au _ k;rw[cb]at this;omega
         split at h
         ·rename_i fs Z;obtain⟨rfl,rfl,rfl,rfl⟩:=W0 h;have m:(Ty.agg (.V fs.A)).cells=fs.A:=by simp[Ty.cells,Ty.dq]
          have I:fs.A.length=f.size:=a3
          have elem: ∀i,i<lB->den C.ρ (.un .agg (.V ((K.drop (i*f.size)).take f.size)))= .agg (((K.drop (i*f.size)).take f.size).map (den C.ρ)):=by intro i _;simp only[den,fX,U.den,D.A]
          refine⟨xs,_,Q rfl,?_,fX _ _,by simp[je],⟨R,by rw[Ty.Lu];exact X⟩,by rw[m];omega,by rw[m,I];exact a1,?_,?_,V⟩
          ·rw[rr];intro e he;obtain⟨i,k⟩:=aw he;have b:i<lB:=by have:=(aG.1 k).1;rwa [je]at this
           rw[nR _ _ _ _ _ b]at k;simp only[if_true,aa]at k;subst k;simp only[E.lt];rw[rr];exact fun e he=>H e (cG (cF he))
          ·intro d q;obtain⟨i,k⟩:=aw q;simp only[ab,cU]at k;obtain⟨x,g,rfl⟩:=k;have b:i<lB:=by have:=(aG.1 g).1;rwa [je]at this
           rw[nR _ _ _ _ _ b]at g;simp only[if_true,aa]at g;subst g;rw[elem i b];have M:(i+1)*f.size<=lB*f.size:=au _ b;rw[cb]at M;refine dQ.2 ⟨_,rfl,iQ (by simp[W];omega) fun j ty x hj g=> ?_⟩;have b3:j<f.size:=by rw[<-I];exact(aG.1 hj).1
           simp only[ab,cU,ay,if_pos b3,aE]at g;obtain⟨y,hy,rfl⟩:=g;exact O i j ty y b b3 hj hy
          ·intro i d j v c q r L;simp only[ab,cU]at q;obtain⟨x,g,rfl⟩:=q;have b:i<lB:=by have:=(aG.1 g).1;rwa [je]at this
           rw[nR _ _ _ _ _ b]at g;simp only[if_true,aa]at g;subst g;rw[elem i b]at r;simp only[D.cells,ab,cU,ay]at r;obtain⟨y,hy,rfl⟩:=r;split at hy
           ·rw[aE]at hy;rw[m,I]at L;exact m4 _ v y L hy
           ·cases hy
         ·rename_i u _ _ Z;split at h
          ·rename_i F;obtain⟨rfl,rfl,rfl,rfl⟩:=W0 h
           have a9:u.scalar=true:=by
            rcases a2.2 with h|h
            ·rw[Z]at h;cases h
            ·exact h
           have B:u.cells=[u] :=by cases u<;>first|rfl|cases a9
           have elem: ∀i x,i<lB->(qc false 1 K lB)[i]? =some x->K[i]? =some x:=by
            intro i x k g;rw[nR _ _ _ _ _ k]at g;simp only[ai,if_false,aa,bG]at g;have b:i<K.length:=by rw[W,F];omega
            rw[<-g,aQ b,cT b];rfl
           have a5: ∀d,Has u d->d.cells=[d] :=by intro d q;have:=(cd q);rw[B]at this;cases d<;>first|rfl|(rename_i l;exfalso;cases u<;>simp[Ty.scalar]at a9<;>simp[dr,dh,mg,bL,iF,kC,kH]at q)
           have Y: ∀i x,i<lB->K[i]? =some x->Has u (den C.ρ x):=by intro i x k g;exact O i 0 u x k (by omega) (by rw[B];rfl) (by rw[F,bG,dM];exact g)
           refine⟨xs,_,Q rfl,?_,fX _ _,by simp[je],⟨R,X⟩,by rw[B];simp,by rw[B];simpa [F]using a1,?_,?_,V⟩
           ·rw[rr];intro e he;obtain⟨i,k⟩:=aw he;have b:i<lB:=by have:=(aG.1 k).1;rwa [je]at this
            exact H e (bU (elem i e b k))
           ·intro d q;obtain⟨i,k⟩:=aw q;simp only[ab,cU]at k;obtain⟨x,g,rfl⟩:=k;have b:i<lB:=by have:=(aG.1 g).1;rwa [je]at this
            exact Y i x b (elem i x b g)
           ·intro i d j v c q r L;simp only[ab,cU]at q;obtain⟨x,g,rfl⟩:=q;have b:i<lB:=by have:=(aG.1 g).1;rwa [je]at this
            have b5:=elem i x b g;rw[a5 _ (Y i x b b5)]at r;cases j with
            |succ j=>simp at r
            |zero=>
             simp at r;subst r;rw[B]at L;simp only[bu,fO,ao,bG,dM]at L;exact m4 i v x L b5
          ·cases h
         ·cases h
        ·cases h
       ·cases h
      ·cases h
     ·cases h
    ·cases h
   ·cases h
  ·cases h
 ·cases h
def xx{ops:Tad}{e:E}{T:Tba}{t:Ty}{len:Nat}(q:gG n w0 S0 C G σ a w)(hp: ¬C.M p)(hg:guardOf ops σ o=some pc)(h:qJ P σ pc o=some (e,T,t,len))(own:Bool)(a4:own=true->pc=[])(a7:e.lt C.N=true)(L: ∀d,o.dst=some d->d<n)(b9:S0.fr->uP P cs σ pc o=true)(b8: ¬S0.wz):
  fx P n w0 S0 C ((⟨o.dst,(pc,if own then .one (.own (p,0) e t) else .one (.gz e (.list t))),[],if own then [((p,0),some (e,T,t))] else [],[],[]⟩:iH).app σ) p ops a w o:=by
 intro K Q hK;obtain⟨hw,hc⟩:=fL q.t hg;have a6:(if own then SV.one (.own (p,0) e t) else SV.one (.gz e (.list t))).lt C.N=true:=by cases own<;>simpa [SV.lt,SC.lt]using a7
 rw[hw];cases uG:aU C.ρ pc with
 |false=>
  simp only[ai,if_false]
  have ho:own=false:=by
   cases own with
   |false=>rfl
   |true=>have:=a4 rfl;subst this;simp[aU]at uG
  subst ho
  exact hK _ _ _ (q.step (o:=o) (e:=⟨o.dst,(pc,.one (.gz e (.list t))),[],[],[],[]⟩) (dL.nu C w G p) ((q.m.nu p).congr (dD _) (dD _)) rfl (by simpa [SV.lt,SC.lt]using a7) hc
   (by intro _;simp only[uG,ai,if_false]) L)
 |true=>
  simp only[if_true];obtain⟨F,l,a2,D,O,a8,J,I,H,b5,hr,a9⟩:=BV q.t uG h;unfold Oper.wp;rw[a2];let G':Gh:={S:=fun b o=>G.S b o∨(b=w.heap.size∧o<F.length),β:=G.β,τ:=fun g=>if g.1=p then .slice (some ⟨w.heap.size,0,none⟩) len len else G.τ g};have A: ∀b o,G.S b o->(w.alloc (.cells F.toArray T)).cell? ⟨b,o,none⟩=w.cell? ⟨b,o,none⟩:=fun b o b7=>World.cell?_alloc_lt w _ _ (q.m.dF b o b7);have B:Has (.list t) (den C.ρ e):=by rw[O];exact bL.2 ⟨l,rfl,by rw[a8];exact J,b5⟩
  have a5:jc (C.add p) (w.alloc (.cells F.toArray T)) w.heap.size G' (p,0) e T t:=by
   refine⟨.inr rfl,D,B,F,l,O,?_,?_,?_⟩
   ·show(w.alloc _).ownsRow _ _ _ (if p=p then _ else _) _ _;rw[if_pos rfl,a8];exact⟨H,.inr ⟨w.heap.size,len,F.toArray,rfl,bf _,heap_alloc_new w _,bf _,J.1,by simpa using H,by simp[<-H]⟩⟩
   ·intro b hb o;have c1:b=w.heap.size:=by simp[G',Value.ownBlock]at hb;exact hb.symm
    constructor
    ·rintro(h|⟨_,h⟩)
     ·have:=q.m.dF b o h;omega
     ·exact⟨rfl,h⟩
    ·intro ho;exact .inr ⟨c1,ho.2⟩
   ·intro i d j v c R h2 h3;exact(hr i d j v c R h2 h3).keep (fun _ _ h=>.inl h) A
  obtain⟨b1,hm⟩:=q.m.called hp (S':=G'.S) (τ':=fun _=>.slice (some ⟨w.heap.size,0,none⟩) len len) ((Below.refl _ _).alloc (bf _) _) (fun _ _ h=>.inl h)
   (by
    rintro b o (h|⟨rfl,_⟩)
    ·have:=q.m.dF b o h;simp;omega
    ·simp)
   (by
    rintro b o (h|⟨rfl,_⟩)
    ·exact .inl h
    ·exact .inr (bf _))
   (eT σ.live (if own then [((p,0),some (e,T,t))] else [])) G' rfl
   (by
    intro g x f;cases own with
    |false=>simp only[ai,if_false,dD]at f;exact .inl ⟨fy q.m hp f,f⟩
    |true=>
     simp only[if_true,eT,lk]at f;by_cases Y:g=(p,0)
     ·rw[if_pos Y]at f;simp only[aa]at f;subst f;subst Y;exact .inr ⟨rfl,a5⟩
     ·rw[if_neg Y]at f;exact .inl ⟨fy q.m hp f,f⟩)
   (by
    intro j k x y b f hy _ _
    have Z: ∀j x,eT σ.live (if own then [((p,0),some (e,T,t))] else []) (p,j)=some x->j=0:=by
     intro j x f;cases own with
     |false=>simp only[ai,if_false,dD]at f;exact absurd rfl (fy q.m hp f)
     |true=>
      simp only[if_true,eT,lk]at f;by_cases Y:(p,j)=(p,0)
      ·simpa using Y
      ·rw[if_neg Y]at f;exact absurd rfl (fy q.m hp f)
    rw[Z j x f,Z k y hy])
   (fun b3 _=>by
    have R:=b9 b3
    obtain⟨X,c0,b4⟩: ∃X,qa P σ pc o=some X∧(X.all Dh)=true:=by
     unfold qJ at h;split at h
     ·rename_i ho;unfold uP at R;simp only[ho]at R;cases hl:qa P σ pc o with
      |none=>rw[hl]at R;cases R
      |some X=>rw[hl]at R;exact⟨X,rfl,R⟩
     ·cases h
    have a3:=a9 X c0
    have V: ∀u∈F,mq (ym (ji w0 S0) w G.S) u:=by
     intro u W;obtain⟨i,hi⟩:=aw W;have b2:i<X.length:=by rw[<-a3.1];exact(aG.1 hi).1
     exact rU (C:=C) (bY.1 b4 _ (aF b2)) (q.m.fresh b3) (a3.2 i _ u (aQ b2) hi)
    intro a0 n0 c2 c4;by_cases b0:len=0
    ·exact .inl b0
    ·have U:0<F.length:=by rw[H];exact Nat.mul_pos (by omega) I
     refine .inr ⟨w.heap.size,0,rfl,fun b=>ym (ji w0 S0) w G.S b∨b=w.heap.size,?_,.inr rfl⟩;rintro b (hb|rfl)
     ·obtain⟨h3,⟨o1,h4⟩,⟨b6,T0,h7⟩,h5⟩:=ym.set _ _ _ b hb;refine⟨h3,⟨o1,.inl h4⟩,⟨b6,T0,(Below.heap_alloc w _ _ (q.m.dF _ _ h4)).trans h7⟩,fun o2 u r W=> ?_⟩;rcases r with r|⟨rfl,_⟩
      ·exact(h5 o2 u r (by rw[<-A b o2 r];exact W)).mono fun _ h=>.inl h
      ·have:=q.m.dF _ _ h4;omega
     ·refine⟨.inl q.m.sV,⟨0,.inr ⟨rfl,U⟩⟩,⟨_,_,heap_alloc_new w _⟩,fun o2 u r W=> ?_⟩;rcases r with r|⟨_,c5⟩
      ·have:=q.m.dF _ _ r;omega
      ·have h6:(w.alloc (.cells F.toArray T)).heap[w.heap.size]? =some (.cells F.toArray T (0,0)):=heap_alloc_new w _;rw[cell_of_row _ _ o2 _ T (0,0) h6]at W;simp only[dj]at W;exact(V u (bU W)).mono fun _ h=>.inl h) b8
  refine hK _ _ _ (q.step (o:=o) (e:=⟨o.dst,(pc,if own then .one (.own (p,0) e t) else .one (.gz e (.list t))),[],if own then [((p,0),some (e,T,t))] else [],[],[]⟩) b1 (hm.congr (dD _) rfl) rfl a6 hc ?_ L);intro _;simp only[uG,if_true];have z:=a5.rep I;have a1:G'.τ (p,0)= .slice (some ⟨w.heap.size,0,none⟩) len len:=if_pos rfl;rw[a1]at z;cases own with
  |true=>exact⟨.inr rfl,D,z,B,a1.symm⟩
  |false=>exact⟨D,z,B⟩
def H3{e:E}{T:Tba}{t:Ty}{len:Nat}(R:iO C w G σ.tm a)(h:wE P σ o=some (e,T,t,len)):
  ∃(xs:Tac) (l:Taf),(execOp a.eval o).run P w= .ok (.value (.slice (some ⟨w.heap.size,0,none⟩) len len)) (w.alloc (.cells xs.toArray T))∧e.lt C.N=true∧den C.ρ e= .list l∧l.length=len∧mK t len∧
   0<t.cells.length∧xs.length=len*t.cells.length∧(∀d∈l,Has t d)∧
   (∀(i:Nat) d (j:Nat) v c,l[i]? =some d->d.cells[j]? =some c->xs[i*t.cells.length+j]? =some v->ca w G.S v c):=by
 unfold wE at h;split at h
 ·rename_i e' T' t' n' V;obtain⟨rfl,rfl,rfl,rfl⟩:=W0 h;obtain⟨xs,l,r,b,I,h4,h5,h6,h7,Z,K,_⟩:=BV R (pc:=[]) rfl V;exact⟨xs,l,r,b,I,h4,h5,h6,h7,Z,K⟩
 ·unfold RG at h;split at h
  ·rename_i L u n x m U;split at h
   ·rename_i el O;split at h
    ·rename_i y k F Q;split at h
     ·rename_i X;obtain⟨rfl,J,B,A,z,Y⟩:=X;have z:=PH z;obtain⟨rfl,rfl,rfl,rfl⟩:=W0 h
      have f:=run_make (P:=P) (w:=w) L el y (.int k 0) O F z u x n n (by omega) (ba _) (by have:(y.bytes:Int)*n<=8*1000:=Int.mul_le_mul (by omega) B (by omega) (by omega);omega) (by omega)
      have g: ∀q:Nat,den C.ρ (.V (List.replicate q (E.aR k 0)))= .list (List.replicate q (D.int k 0)):=fun q=>by rw[fX];simp[den]
      have h0:jo k 0:=by cases k<;>exact⟨by decide,by decide⟩
      refine⟨List.replicate n.toNat (.int k 0),List.replicate n.toNat (.int k 0),?_,?_,g _,by simp,⟨?_,?_⟩,by simp[Ty.cells],by simp[Ty.cells],?_,?_⟩
      ·have e1:madeCells (Value.int k 0).cells (n.toNat*y.size)=(List.replicate n.toNat (Value.int k 0)).toArray:=by
        rw[A,bG];unfold madeCells;apply cW;rw[Array.toList_map];apply List.ext_getElem
        ·simp
        ·intro i r b;simp[Value.cells,Nat.mod_one]
       rw[<-e1];unfold execOp;simp only[U,bg];rw[show a.eval (.const (.int u n))= .int u n from rfl,show a.eval (.const (.int x n))= .int x n from rfl,f];rfl
      ·rw[rr];intro e W;rw[fA W];rfl
      ·have K:(16777216:Nat)<=maxLen:=by decide
       omega
      ·have:(Ty.int k).bytes<=8:=by cases k<;>decide
       have:n.toNat*(Ty.int k).bytes<=1000*8:=Nat.mul_le_mul (by omega) this;omega
      ·intro d H;rw[fA H];exact⟨0,rfl,h0⟩
      ·intro i d j v c r b I;have H:=fA (bU r);subst H;have M:=fA (bU I);subst M;cases j with
       |zero=>simp[D.cells]at b;subst b;exact .int _ _
       |succ j=>simp[D.cells]at b
     ·cases h
    ·cases h
   ·cases h
  ·cases h
def Ds{ops:Tad}{e:iH}(q:gG n w0 S0 C G σ a w)(X: ¬C.M p)(hg:guardOf ops σ o=some [])(h:Ps P σ p o=some e)(L: ∀d,o.dst=some d->d<n)(a0: ¬S0.fr)(Z: ¬S0.wz):
  fx P n w0 S0 C (e.app σ) p ops a w o:=by
 unfold Ps at h;split at h
 ·rename_i O T t len hl;injection h with h;subst h;intro K Q hK;obtain⟨hw,hc⟩:=fL q.t hg;rw[hw,if_pos (show aU C.ρ [] =true from rfl)];obtain⟨U,l,E,J,z,F,r,a2,A,N,hr⟩:=H3 q.t hl;unfold Oper.wp;rw[E];let R:Gh:={S:=G.S,β:=G.β,τ:=fun g=>if g.1=p then .slice (some ⟨w.heap.size,0,none⟩) len len else G.τ g};have B: ∀b o,G.S b o->(w.alloc (.cells U.toArray T)).cell? ⟨b,o,none⟩=w.cell? ⟨b,o,none⟩:=fun b o W=>World.cell?_alloc_lt w _ _ (q.m.dF b o W);have I:Has (.list t) (den C.ρ O):=by rw[z];exact bL.2 ⟨l,rfl,by rw[F];exact r,N⟩
  have Y:jc (C.add p) (w.alloc (.cells U.toArray T)) w.heap.size R (p,1000) O T t:=by
   refine⟨.inr rfl,J,I,U,l,z,?_,?_,?_⟩
   ·show(w.alloc _).ownsRow _ _ _ (if p=p then _ else _) _ _;rw[if_pos rfl,F];exact⟨A,.inr ⟨w.heap.size,len,U.toArray,rfl,bf _,heap_alloc_new w _,bf _,r.1,by simpa using A,by simp[<-A]⟩⟩
   ·intro b hb o;have a3:b=w.heap.size:=by simp[R,Value.ownBlock]at hb;exact hb.symm
    constructor
    ·intro h;have:=q.m.dF b o h;omega
    ·intro ho;exact Bool.noConfusion ho.1
   ·intro i d j v c h1 h2 h3;exact(hr i d j v c h1 h2 h3).keep (fun _ _ h=>h) B
  have u: ∀j x,eT σ.live [((p,1000),some (O,T,t))] (p,j)=some x->j=1000:=by
   intro j x f;simp only[eT,lk]at f;by_cases D:(p,j)=(p,1000)
   ·simpa using D
   ·rw[if_neg D]at f;exact absurd rfl (fy q.m X f)
  obtain⟨H,hm⟩:=q.m.called X (S':=R.S) (τ':=fun _=>.slice (some ⟨w.heap.size,0,none⟩) len len) ((Below.refl _ _).alloc (bf _) _) (fun _ _ h=>h)
   (by intro b o h;have:=q.m.dF b o h;simp;omega)
   (fun b o h=>.inl h)
   (eT σ.live [((p,1000),some (O,T,t))]) R rfl
   (by
    intro g x f;simp only[eT,lk]at f;by_cases D:g=(p,1000)
    ·rw[if_pos D]at f;simp only[aa]at f;subst f;subst D;exact .inr ⟨rfl,Y⟩
    ·rw[if_neg D]at f;exact .inl ⟨fy q.m X f,f⟩)
   (by intro j k x y b f hy _ _;rw[u j x f,u k y hy])
   (fun a1=>absurd a1 a0) Z
  refine hK _ _ _ (q.step (o:=o) (e:=⟨o.dst,([],.one (.xo (p,1000) t)),[],[((p,1000),some (O,T,t))],[],[]⟩) H (hm.congr (dD _) rfl) rfl rfl hc ?_ L);intro _;simp only[aU,bQ,if_true];have V:R.τ (p,1000)= .slice (some ⟨w.heap.size,0,none⟩) len len:=if_pos rfl;exact⟨.inr rfl,V.symm,_,_,_,rfl⟩
 ·cases h
def tk{ops:Tad}{e:iH}(y:gG n w0 S0 C G σ a w)(c:qd P cs ops σ p o=some e)(D: ¬C.M p)(I:p<C.N)(A: ∀k sig,lk cs.l k=some sig->bj P k sig (Pre k) (Φ k))(r:e.qW.2.lt C.N=true)(u: ∀it∈e.items,eG C Φ Pre it)(i: ∀d,o.dst=some d->d<n)(v:S0.fr-> ∀pc,guardOf ops σ o=some pc->uP P cs σ pc o=true)(F:S0.wz->GC o.op<3)(Z:Gl P cs S0 Φ Pre):fx P n w0 S0 C (e.app σ) p ops a w o:=by
 unfold qd at c;split at c
 ·cases c
 ·rename_i pc q;split at c
  ·split at c
   ·rename_i l E;split at c
    ·rename_i J;obtain⟨rfl,H⟩:=J;injection c with c;subst c;exact Fo y D q E H i
    ·cases c
   ·cases c
  ·split at c
   ·rename_i id l E;split at c
    ·rename_i J;obtain⟨rfl,H,hd⟩:=J;injection c with c;subst c;exact Bn y q E H hd
    ·cases c
   ·cases c
  ·split at c
   ·rename_i Y t fz V;injection c with c;subst c;exact HY y q V (by simpa [SV.lt,SC.lt]using r) i
   ·cases c
  ·rename_i R;have m: ¬S0.wz:=fun L=>by have:=F L;omega
   split at c
   ·rename_i k Y sig J;injection c with c;subst c;exact Du y D I q J A (u _ (by simp)) r i _ (fun j=>v j _ q) m
   ·split at c
    ·rename_i x B;split at c
     ·rename_i z;subst z;injection c with c;subst c;refine pa y D I q rfl B A (u _ (by simp[od.Cr])) r i (fun j=> ?_) m;have X:=v j _ q;unfold iP at B;split at B
      ·rename_i f a0 K ho;split at B
       ·rename_i fe k' V;split at B
        ·rename_i sig O;split at B
         ·rename_i ob Q;unfold uP at X
          have h2:By cs o.dst k'=some sig:=by unfold By;rw[O];simp[Q]
          simp only[ho,V,h2,Q,aS]at X;simp at X
         ·cases B
        ·cases B
       ·cases B
      ·cases B
     ·cases c
    ·split at c
     ·rename_i k Y sig rd E;split at c
      ·rename_i J;have a1:=J;injection c with c;subst c;exact Bp y D I q E A (u _ (by simp)) r i _ (fun j=>by have:=Z.1 j;omega) m
      ·cases c
     ·cases c
  ·rename_i R;have m: ¬S0.wz:=fun L=>by have:=F L;omega
   split at c
   ·rename_i e1 e2 T t b W;split at c
    ·rename_i z;subst z;injection c with c;subst c;exact yc y D q W (u _ (by simp)) (u _ (by simp)) i _ (fun j=>v j _ q) m
    ·cases c
   ·split at c
    ·rename_i g e1 e2 T t b W;split at c
     ·rename_i z;subst z;injection c with c;subst c;exact AQ y D q W (u _ (by simp)) i _ (fun j=>v j _ q) m
     ·cases c
    ·cases c
  ·rename_i R;have m: ¬S0.wz:=fun L=>by have:=F L;omega
   split at c
   ·rename_i Y T t len E;split at c
    ·rename_i U;injection c with c;subst c;have:=xx (p:=p) y D q E true (fun _=>by simpa using U) (by simpa [SV.lt,SC.lt]using r) i (fun j=>v j _ q) m;simpa using this
    ·injection c with c;subst c;have:=xx (p:=p) y D q E false (fun h=>by cases h) (by simpa [SV.lt,SC.lt]using r) i (fun j=>v j _ q) m;simpa using this
   ·cases c
  ·split at c
   ·rename_i s is rd S;injection c with c;subst c;exact Bo y q S r u i Z.prog
   ·cases c
def OV{ops:Tad}{e:iH}(u:gG n w0 S0 C G σ a w)(f:BI P cs ops σ p o=some e)(y: ¬C.M p)(v:p<C.N)(i: ∀k z,lk cs.l k=some z->bj P k z (Pre k) (Φ k))(h:e.qW.2.lt C.N=true)(q: ∀E∈e.items,eG C Φ Pre E)(c: ∀d,o.dst=some d->d<n)(m: ¬S0.fr)(j: ¬S0.wz)(D:Gl P cs S0 Φ Pre):fx P n w0 S0 C (e.app σ) p ops a w o:=by
 unfold BI at f;split at f
 ·rename_i k r H;have A:guardOf ops σ o=some [] :=by unfold guardOf;rw[r]
  unfold L3 at f;split at f
  ·exact Bl u r f h c
  ·exact AN u r f
  ·exact Dt u r f h c
  ·exact AO u r f q h c
  ·unfold C4 at f;split at f
   ·rename_i g J I T t b F;injection f with f;subst f;exact Dv u y A F (q _ (by simp)) c _ m j
   ·cases f
  ·exact Ds u y A f c m j
  ·exact Bm u y v A f i q h c m j
 ·split at f
  ·rename_i pc A;split at f
   ·exact AP u y v A f i q h c m j
   ·exact tk u f y v i h q c (fun x=>absurd x m) (fun B=>absurd B j) D
  ·cases f
 ·exact tk u f y v i h q c (fun x=>absurd x m) (fun B=>absurd B j) D
def yw(P:Tap)(cs:mG)(σ:St)(o:Tbc):Tao dH:=
 match o.op with
 |.call {callee:=.value f,.. }=>
  match fP P σ [] f 0 with
  |some (.one (.gz _ (.fn k .nil)))=>lk cs.l k
  |_=>none
 |_=>none
def LV(cs:mG)(o:Tbc):Tao (Nat×dH×Ty):=
 match o.op,o.guard with
 |.call {callee:=.value (.func k),.. },none=>match lk cs.et k with
  |some sg=>sg.nn.map fun y=>(k,y)
  |none=>none
 |_,_=>none
def W8(P:Tap)(σ:St)(o:Tbc)(y:Nat×dH×Ty):Tao od:=
 match iP P ⟨[(y.1,y.2.1)],[],0,[],[]⟩ σ [] o with
 |some x=>if x.k=y.1∧x.ob.new=true∧x.ob.cB=[] ∧x.ids=[] ∧x.own=[] then some x else none
 |none=>none
def JV(p:Nat):E:=.un .yR (.un (.cell 0) (.var p))
def xm(x:od)(t:Ty)(p:Nat)(dst:Tak):Bool->iH
 |true=>{x.Cr p dst with items:=[.IP [(JV p,false)] true,.call p x.k x.args []]}
 |false=>⟨dst,([],.one (.gz .gI t)),[],[],[],[.IP [(JV p,true)] true,.call p x.k x.args []]⟩
def kf(d:Tao Bool)(P:Tap)(cs:mG)(ops:Tad)(σ:St)(p:Nat)(o:Tbc):Tao iH:=
 match d,LV cs o with
 |none,_=>wI P cs ops σ p o
 |some b,some y=>if cs.fr !=0 then none else match y.2.2 with
  |.ptr fs=>(W8 P σ o y).map fun x=>xm x (.ptr fs) p o.dst b
  |_=>none
 |some true,none=>if cs.fr !=0 then none else match guardOf ops σ o with
  |some pc=>match iP P cs σ pc o with
   |some x=>some {x.Cr p o.dst with items:=[.IP pc true,.call p x.k x.args []]}
   |none=>none
  |none=>none
 |some false,none=>match guardOf ops σ o,yw P cs σ o with
  |some pc,some sig=>some ⟨o.dst,(pc,ud false p (.un (.cell 0) (.var p)) sig.res),[],[],[],[.IP pc false]⟩
  |_,_=>none
def NY{y:Nat×dH×Ty}{x:od}(h:W8 P σ o y=some x):iP P ⟨[(y.1,y.2.1)],[],0,[],[]⟩ σ [] o=some x∧x.k=y.1∧x.ob.new=true∧x.ob.cB=[] ∧x.ids=[] ∧x.own=[] :=by
 unfold W8 at h;split at h
 ·rename_i d b;split at h
  ·rename_i c;injection h with h;subst h;exact⟨b,c⟩
  ·cases h
 ·cases h
def Qq{y:Nat×dH×Ty}(h:LV cs o=some y):o.guard=none∧(∃args argTypes,o.op= .call {callee:=.value (.func y.1),args,argTypes})∧ ∃b,lk cs.et y.1=some b∧b.nn=some y.2:=by
 unfold LV at h;split at h
 ·rename_i k args argTypes e f;split at h
  ·rename_i b c;simp only[cU]at h;obtain⟨z,d,rfl⟩:=h;exact⟨f,⟨_,_,e⟩,b,c,d⟩
  ·cases h
 ·cases h
def N0{c β:Type}[DecidableEq c]{a k:c}{b v:β}(h:lk [(a,b)] k=some v):k=a∧v=b:=by
 simp only[lk]at h;split at h
 ·injection h with h;exact⟨by assumption,h.symm⟩
 ·cases h
def HX{ops:Tad}{y:Nat×dH×Ty}{x:od}{fs:Ty}{b:Bool}(I:gG n w0 S0 C G σ a w)(hp: ¬C.M p)(b8:p<C.N)(hy:LV cs o=some y)(hx:W8 P σ o y=some x)(a7:(xm x (.ptr fs) p o.dst b).qW.2.lt C.N=true)(R: ∀it∈(xm x (.ptr fs) p o.dst b).items,eG C Φ Pre it)(L: ∀d,o.dst=some d->d<n)(d2:Gl P cs S0 Φ Pre)(a5: ¬S0.fr)(a4: ¬S0.wz):
  fx P n w0 S0 C ((xm x (.ptr fs) p o.dst b).app σ) p ops a w o:=by
 obtain⟨c6,⟨q,Z,ho⟩,sg,b7,c0⟩:=Qq hy;obtain⟨f,hk,a6,c,H,a3⟩:=NY hx;have hN:=d2.nn _ _ _ _ b7 c0;have hg:guardOf ops σ o=some [] :=by unfold guardOf;rw[c6]
 have b5:aU C.ρ [(JV p,!b)] =true:=by
  cases b with
  |true=>exact R (.IP [(JV p,false)] true) (by simp[xm])
  |false=>exact R (.IP [(JV p,true)] true) (by simp[xm])
 have A:eG C Φ Pre (.call p x.k x.args []):=R _ (by cases b<;>simp[xm])
 have B:((Φ x.k (den C.ρ x.args).A).A.getD 0 .top).gk= !b:=by obtain⟨_,_,h3,_⟩:=A;have h4:C.ρ p=Φ x.k (den C.ρ x.args).A:=h3;rw[<-h4];simpa [aU,JV,den,U.den,D.Y]using b5
 cases b with
 |true=>
  refine pa (cs:=⟨[(y.1,y.2.1)],[],0,[],[]⟩) (Φ:=Φ) (Pre:=fun k ds=>Pre k ds∧((Φ k ds).A.getD 0 .top).gk=false) I hp b8 hg rfl f ?_ ?_ a7 L a5 a4
  ·intro k' d5 hl;obtain⟨rfl,rfl⟩:=N0 hl;exact hN.new
  ·obtain⟨c1,c2,c3,c4⟩:=A;exact⟨c1,c2,c3,fun hc=>⟨c4 hc,B⟩⟩
 |false=>
  intro K Q hK;obtain⟨hw,hc⟩:=fL I.t hg;rw[hw,if_pos (show aU C.ρ [] =true from rfl)];unfold iP at f;simp only[ho]at f;split at f
  ·rename_i fe k' hf;split at f
   ·rename_i d7 a0;obtain⟨rfl,rfl⟩:=N0 a0;split at f
    ·rename_i ob b9;split at f
     ·rename_i es J d1;split at f
      ·rename_i d3 l v;split at f
       ·rename_i b4;injection f with f;subst f;simp only at c H a3 B hk a6;obtain⟨b6,_,_,_,_,_,_,d6,_,_⟩:=b4;obtain⟨f1,f2,f3⟩:=cC I.t (pc:=[]) rfl hf;obtain⟨fl,c9,d0⟩:=kH.1 f3;have b0:fl=[] :=dg.1 d0;subst b0;obtain⟨d4,c7,X,_⟩:=(c9▸f2).ug;have b3:d4=[] :=an X;subst b3
        have T:J=[] :=by
         cases J with
         |nil=>rfl
         |cons i r=>
          have:=B6 (σ:=σ) (ob:=ob) (ids:=i::r) (i:=0) (id:=i) rfl;rw[H]at this;cases this
        subst T
        have b1:d3=[] :=by rw[H,c]at v;simp only[tF,aa,ae]at v;exact v.1.symm
        subst b1;obtain⟨Y,W⟩:=vG (k:=0) (β:=G.β) I.t (pc:=[]) rfl d1 (fun i id V=>by simp at V)
        have b2:(den C.ρ (.V (es.map (·.1)++([] :List (List E)).flatten))).A=(es.map fun x=>den C.ρ x.1)++([] :List (Taf)).flatten:=by rw[fX];simp only[D.A,ck,List.map_map,List.flatten_nil,List.map_nil,cN];rfl
        obtain⟨_,_,_,a2⟩:=A;have F:=a2 rfl;rw[b2]at F B
        have c5:BL w G.S ob G.β (fun _=>.nilIface) (q.toList.map a.eval) (es.map fun x=>den C.ρ x.1) [] :=by
         refine⟨I.m.dF,Y,by rw[c];rfl,?_,?_,?_,?_,?_⟩
         ·intro o rc cells V;rw[c]at V;simp at V
         ·intro i j V;rw[c]at V;simp at V
         ·intro j k b O;unfold Ob.jz at O;rw[c]at O;simp at O
         ·intro j o b O;unfold Ob.jz at O;rw[c]at O;simp at O
         ·intro hh;rw[c]at hh;simp at hh
        have a9:dn (.V y.2.1.params) ((es.map fun x=>den C.ρ x.1)++([] :List (Taf)).flatten):=by rw[<-b6,c];simpa using W
        have a1:(execOp a.eval o).run P w= .ok (.enter y.1 (q.toList.map a.eval).toArray) w:=by
         have e1:(q.toList.map a.eval).toArray=q.map a.eval:=by apply cW;simp
         unfold execOp;simp only[ho,resolve,c7,Deferred.ofValue,e1];have:=hN.new.enter (q.map a.eval) w;simpa [invoke]using this
        unfold Oper.wp;rw[a1];refine(hN.nil ob b9 w G.S G.β (fun _=>.nilIface) _ _ _ c5 a9 F B).mono ?_;rintro e' w' ⟨rfl,tW⟩;simp only
        obtain⟨a8,hm⟩:=I.m.called hp (S':=G.S) (τ':=fun _=>.nilIface) tW (fun _ _ h=>h) (fun b o hb=>av (I.m.dF b o hb) tW.size) (fun _ _ h=>.inl h) σ.live _ rfl
         (fun g z hz=>.inl ⟨fun e=>hp (by rw[<-e];exact(I.m.own g z.1 z.2.1 z.2.2 hz).m),hz⟩) (fun j k z u b hz=>absurd ((I.m.own (p,j) z.1 z.2.1 z.2.2 hz).m) hp) (fun h=>absurd h a5) a4
        refine hK _ _ _ (I.step (o:=o) (e:=xm _ (.ptr fs) p o.dst false) a8 (hm.congr (dD _) (dD _)) rfl a7 (by intro x hx;cases hx) ?_ L);intro _;refine(if_pos (show aU C.ρ ([] :dB)=true from rfl)).mpr ?_;exact⟨rfl,.gI,kC.2 (.inl rfl)⟩
       ·cases f
      ·cases f
     ·cases f
    ·cases f
   ·cases f
  ·cases f
def xc{d:Tao Bool}{ops:Tad}{e:iH}(v:gG n w0 S0 C G σ a w)(c:kf d P cs ops σ p o=some e)(B: ¬C.M p)(r:p<C.N)(j: ∀k z,lk cs.l k=some z->bj P k z (Pre k) (Φ k))(q:e.qW.2.lt C.N=true)(i: ∀O∈e.items,eG C Φ Pre O)(h: ∀d,o.dst=some d->d<n)(g:Gl P cs S0 Φ Pre):fx P n w0 S0 C (e.app σ) p ops a w o:=by
 unfold kf at c;split at c
 ·unfold wI at c;split at c
  ·rename_i E;exact OV v c B r j q i h (fun f=>by have:=g.1 f;omega) (fun f=>by have:=g.2 f;omega) g
  ·rename_i E;split at c
   ·rename_i pc D;split at c
    ·rename_i H;exact tk v c B r j q i h (fun _ L u=>by rw[D]at u;injection u with u;subst u;exact H) (fun f=>by have:=g.2 f;omega) g
    ·cases c
   ·cases c
  ·rename_i V I;split at c
   ·rename_i T;exact tk v c B r j q i h (fun f=>absurd (g.1 f) I) (fun _=>T) g
   ·cases c
 ·rename_i b y R;split at c
  ·cases c
  ·rename_i E;have J:cs.fr=0:=by simpa using E
   split at c
   ·rename_i Y U;simp only[cU]at c;obtain⟨x,F,rfl⟩:=c;exact HX v B r R F q i h g (fun f=>by have:=g.1 f;omega) (fun f=>by have:=g.2 f;omega)
   ·cases c
 ·split at c
  ·cases c
  ·rename_i E;have J:cs.fr=0:=by simpa using E
   split at c
   ·rename_i pc D;split at c
    ·rename_i x F;injection c with c;subst c;exact pa v B r D (i (.IP pc true) (by simp)) F j (i _ (by simp)) q h (fun f=>by have:=g.1 f;omega) (fun f=>by have:=g.2 f;omega)
    ·cases c
   ·cases c
 ·split at c
  ·rename_i pc z D F;injection c with c;subst c;intro K Q X;obtain⟨S,W⟩:=fL v.t D;have A:aU C.ρ pc=false:=i (.IP pc false) (by simp);rw[S,A];simp only[ai,if_false];refine X _ _ _ (v.step (o:=o) (dL.nu C w G p) ((v.m.nu p).congr (dD _) (dD _)) rfl q W (by intro _;simp only[A,ai,if_false]) h)
  ·cases c
end
section
variable{P:Tap}{σ σ':St}{o:Tbc}{pc:dB}
def gL(P:Tap)(σ σ':St)(xs:List Tbb):Prop:= ∀x∈xs,∀(q:dB) (a:Tba),fP P σ' q x a=fP P σ q x a
def Qz{t:Nat}(h:σ'.tm t=σ.tm t)(q:dB)(hint:Tba):fP P σ' q (.tmp t) hint=fP P σ q (.tmp t) hint:=by simp only[fP,Be,h]
def sZ{xs:List Tbb}(h: ∀t,Operand.tmp t∈xs->σ'.tm t=σ.tm t):gL P σ σ' xs:=by
 intro x b q a;cases x with
 |tmp t=>exact Qz (h t b) q a
 |const v=>cases v<;>simp only[fP,Be]
 |global g=>simp only[fP,Be]
 |func f=>simp only[fP,Be]
def gL.d{xs:List Tbb}(h:gL P σ σ' xs){x:Tbb}(a:x∈xs)(q:dB)(hint:Tba):fp P σ' q x hint=fp P σ q x hint:=by unfold fp;rw[h x a]
def xT: ∀{xs:List Tbb} {ts:List Tba},gL P σ σ' xs->xq P σ' pc xs ts=xq P σ pc xs ts
 | [],[],_=>rfl
 | [],_::_,_=>rfl
 |_::_,[],_=>rfl
 |x::xs,t::ts,h=>by simp only[xq];rw[h.d (bw ..),xT (fun y a=>h y (aH _ a))]
def ky(a:Nat->Tba): ∀{xs:List (Nat×Tbb)},gL P σ σ' (xs.map (·.2))->mf P σ' pc a xs=mf P σ pc a xs
 | [],_=>rfl
 |(i,x)::xs,h=>by simp only[mf];rw[h x (by simp),ky a (fun y b=>h y (by simp only[cE];exact aH _ b))]
def rX: ∀{xs:List Tbb} {es:List (E×Ty)} {b:List (Nat×List SC)},gL P σ σ' xs->rm P σ pc xs=some (es,b)->(∀x∈b,σ'.hp x.1=σ.hp x.1)->rm P σ' pc xs=some (es,b)
 | [],es,b,_,h,_=>h
 |x::xs,es,b,hs,h,hhp=>by
  simp only[rm]at h⊢;rw[hs x (bw ..)];have a:gL P σ σ' xs:=fun y c=>hs y (aH _ c);split at h
  ·rename_i id k j g d;split at h
   ·rename_i n l f;split at h
    ·rename_i q m i;obtain⟨rfl,rfl⟩:=iD h;rw[rX a d (fun y c=>hhp y (aH _ c))];simp only[g];rw[hhp (id,l) (by simp)];simp only[f,i]
    ·cases h
   ·cases h
  ·rename_i e p k j g d;obtain⟨rfl,rfl⟩:=iD h;rw[rX a d hhp];simp only[g]
  ·cases h
def Bt{pl:Pl}{u:Tah}(b:gL P σ σ' o.op.operands.toList)(h:qi P σ pc o=some (pl,u))(E: ∀id∈u,σ'.hp id=σ.hp id):qi P σ' pc o=some (pl,u):=by
 have e: ∀{x:Tao Pl} {y:Tao Pl},y=x->x.map (·,([] :Tah))=some (pl,u)->y.map (·,([] :Tah))=some (pl,u):=fun g p=>g▸p;unfold qi at h⊢;split at h
 ·rename_i t x a;rw[a]at b
  try simp only[a]
  unfold CF at h⊢;simp only[a]at h⊢;rw[b x (by simp[Op.operands])];split at h
  ·cases h
  ·rename_i O;rw[if_neg O];split at h
   ·rename_i id M n
    try simp only[n]
    split at h
    ·rename_i J V B
     have w:u=[id] :=by
      split at h
      ·cases h
      split at h
      ·split at h
       ·split at h
        ·injection h with h;simp only[ae]at h;exact h.2.symm
        ·cases h
       ·cases h
      ·split at h
       ·injection h with h;simp only[ae]at h;exact h.2.symm
       ·cases h
     rw[E id (by rw[w];simp),B];exact h
    ·cases h
   ·rename_i n;try simp only[n]
    exact h
   ·rename_i n;try simp only[n]
    exact h
   ·rename_i n;try simp only[n]
    exact h
   ·cases h
 ·rename_i x a;rw[a]at b;try simp only[a]
  refine e ?_ h;unfold yY;simp only[a];rw[b x (by simp[Op.operands])]
 ·rename_i x a;rw[a]at b;try simp only[a]
  refine e ?_ h;unfold yY;simp only[a];rw[b x (by simp[Op.operands])]
 ·rename_i c x y a;rw[a]at b;try simp only[a]
  refine e ?_ h;unfold CD;simp only[a];rw[b.d (x:=c) (by simp[Op.operands])];have g:=fun q hint=>b.d (x:=x) (by simp[Op.operands]) q hint;have p:=fun q hint=>b.d (x:=y) (by simp[Op.operands]) q hint;simp only[g,p]
 ·rename_i op I x y W a;rw[a]at b;try simp only[a]
  refine e ?_ h;unfold CG vF I5;simp only[a];rw[b.d (x:=x) (by simp[Op.operands]),b.d (x:=y) (by simp[Op.operands]),b x (by simp[Op.operands])]
 ·rename_i op I x a;rw[a]at b;try simp only[a]
  refine e ?_ h;have g:=fun q hint=>b.d (x:=x) (by simp[Op.operands]) q hint;unfold LQ;simp only[a];cases op<;>simp only[g]
 ·rename_i s d x a;rw[a]at b;try simp only[a]
  refine e ?_ h;unfold LQ;simp only[a];rw[b.d (x:=x) (by simp[Op.operands])]
 ·rename_i x j a;rw[a]at b;try simp only[a]
  refine e ?_ h;unfold te;simp only[a];rw[b x (by simp[Op.operands])]
 ·rename_i t x f a;rw[a]at b;try simp only[a]
  refine e ?_ h;unfold oK;simp only[a];rw[b x (by simp[Op.operands])]
 ·rename_i t x f a;rw[a]at b;try simp only[a]
  refine e ?_ h;unfold yx;simp only[a];rw[b x (by simp[Op.operands])]
 ·rename_i t x i a;rw[a]at b;try simp only[a]
  refine e ?_ h;have g:=fun q hint=>b x (by simp[Op.operands]) q hint;have p:=fun q hint=>b.d (x:=x) (by simp[Op.operands]) q hint;have C:=fun q hint=>b.d (x:=i) (by simp[Op.operands]) q hint
  have U:nf P σ' pc o=nf P σ pc o:=by unfold nf;simp only[a];rw[p,C]
  have R:kP P σ' pc o=kP P σ pc o:=by unfold kP;simp only[a];rw[g,C]
  have S:lV P σ' pc o=lV P σ pc o:=by
   unfold lV;simp only[a];split
   ·rename_i G;injection G with L K X;subst L;subst K;rw[g]
   ·rfl
  unfold oJ;rw[U,S,R]
 ·rename_i x a;rw[a]at b;try simp only[a]
  refine e ?_ h;unfold I4;simp only[a];rw[b x (by simp[Op.operands])]
 ·rename_i t x F D a;rw[a]at b;try simp only[a]
  refine e ?_ h;unfold yv;simp only[a];have g:=fun q hint=>b.d (x:=x) (by simp[Op.operands]) q hint;have p:=fun y (r:y∈F.toArray) q hint=>b.d (x:=y) (by simp[Op.operands]at r⊢;simp[r]) q hint;have C:=fun y (r:y∈D.toArray) q hint=>b.d (x:=y) (by simp[Op.operands]at r⊢;simp[r]) q hint;cases F with
  |none=>cases D with
   |none=>simp only[g]
   |some y=>simp only[g,C y (by simp)]
  |some z=>cases D with
   |none=>simp only[g,p z (by simp)]
   |some y=>simp only[g,C y (by simp),p z (by simp)]
 ·rename_i t x F D N H a;rw[a]at b;try simp only[a]
  cases N with
  |none=>exact absurd rfl H
  |some m=>
   refine e ?_ h;unfold vE;simp only[a];have g:=fun q hint=>b.d (x:=x) (by simp[Op.operands]) q hint;have C:=fun y (r:y∈D.toArray) q hint=>b.d (x:=y) (by simp[Op.operands]at r⊢;simp[r]) q hint;have Q:=fun q hint=>b.d (x:=m) (by simp[Op.operands]) q hint;cases F with
   |some z=>rfl
   |none=>cases D with
    |none=>rfl
    |some y=>simp only[g,C y (by simp),Q]
 ·rename_i t v a;rw[a]at b;try simp only[a]
  refine e ?_ h;unfold yz;simp only[a];have g:=fun hint=>ky (P:=P) (σ:=σ) (σ':=σ') (pc:=pc) hint (xs:=v.toList) (by simpa [Op.operands]using b);simp only[g]
 ·rename_i T m x ok a;rw[a]at b;try simp only[a]
  unfold CE at h⊢;simp only[a]at h⊢;cases ok with
  |true=>cases h
  |false=>
   simp only at h⊢;rw[b m (by simp[Op.operands]),b.d (x:=x) (by simp[Op.operands])];split at h
   ·rename_i id Z Y g p
    try simp only[g,p]
    split at h
    ·rename_i J V B
     have w:u=[id] :=by
      split at h
      ·split at h
       ·injection h with h;simp only[ae]at h;exact h.2.symm
       ·cases h
      ·cases h
     rw[E id (by rw[w];simp),B];exact h
    ·cases h
   ·cases h
 ·rename_i l k a;rw[a]at b;have g: ∀x∈l.toList,∀q hint,fp P σ' q x hint=fp P σ q x hint:=fun x n q hint=>b.d (by simp[Op.operands,Call.operands];simpa using n) q hint;refine e ?_ h;unfold BA;simp only[a];split
  ·rename_i x t A _;rw[g x (by rw[A];simp)]
  ·rfl
 ·rename_i l k a;rw[a]at b;have g: ∀x∈l.toList,∀q hint,fp P σ' q x hint=fp P σ q x hint:=fun x n q hint=>b.d (by simp[Op.operands,Call.operands];simpa using n) q hint;refine e ?_ h;unfold BA;simp only[a];split
  ·rename_i x y A;rw[g x (by rw[A];simp),g y (by rw[A];simp)]
  ·rfl
 ·rename_i l k a;rw[a]at b;have g: ∀x∈l.toList,∀q hint,fp P σ' q x hint=fp P σ q x hint:=fun x n q hint=>b.d (by simp[Op.operands,Call.operands];simpa using n) q hint;refine e ?_ h;unfold BA;simp only[a];split
  ·rename_i x y A;rw[g x (by rw[A];simp),g y (by rw[A];simp)]
  ·rfl
 ·cases h
def kz{ops:Tad}(h: ∀t,t∈o.looksAt ops->σ'.tm t=σ.tm t):guardOf ops σ' o=guardOf ops σ o:=by
 unfold guardOf;split
 ·rfl
 ·rename_i j a c;split
  ·rename_i t b;rw[h t (by unfold Oper.looksAt;rw[c];simp only[b];simp)]
  ·rfl
def Bq{r:bB}{c:SC}{e:E}{l:kS}(h:jt σ r c=some (e,l))(i: ∀j g,(j,some g)∈l->σ'.live g=σ.live g):jt σ' r c=some (e,l):=by
 obtain⟨t,_|⟨f,T⟩⟩:=r
 ·exact h
 ·simp only[jt]at h⊢;split at h
  ·exact h
  ·rename_i g p k;split at h
   ·rename_i m n b a;split at h
    ·rename_i d;obtain⟨rfl,rfl⟩:=iD h;rw[i f g (by simp),a];simp only[d,and_self,if_true]
    ·cases h
   ·cases h
  ·rename_i g k;split at h
   ·rename_i m n b a;split at h
    ·rename_i d;obtain⟨rfl,rfl⟩:=iD h;rw[i f g (by simp),a];simp only[d,and_self,if_true]
    ·cases h
   ·cases h
  ·cases h
def rZ: ∀{a:List bB} {cs:List SC} {es:List E} {l:kS},gv σ a cs=some (es,l)->(∀j g,(j,some g)∈l->σ'.live g=σ.live g)->gv σ' a cs=some (es,l)
 | [],[],es,l,h,_=>h
 | [],_::_,_,_,h,_=>by cases h
 |_::_,[],_,_,h,_=>by cases h
 |r::a,c::cs,es,l,h,hl=>by
  simp only[gv]at h⊢;split at h
  ·rename_i e d;obtain⟨rfl,rfl⟩:=iD h;rw[Bq e (fun j g b=>hl j g (aA _ b)),rZ d (fun j g b=>hl j g (bq _ b))]
  ·cases h
def xB: ∀{rcs:List (List bB)} {ids:Tah} {a:List (List E)} {l:kS},tF σ rcs ids=some (a,l)->(∀id∈ids,σ'.hp id=σ.hp id)->(∀j g,(j,some g)∈l->σ'.live g=σ.live g)->tF σ' rcs ids=some (a,l)
 | [],[],_,_,h,_,_=>h
 | [],_::_,_,_,h,_,_=>by cases h
 |_::_,[],_,_,h,_,_=>by cases h
 |rc::r,id::ids,a,l,h,hh,hl=>by
  simp only[tF]at h⊢;rw[hh id (by simp)];split at h
  ·split at h
   ·rename_i e d;obtain⟨rfl,rfl⟩:=iD h;rw[rZ e (fun j g b=>hl j g (aA _ b)),xB d (fun id c=>hh id (by simp[c])) (fun j g b=>hl j g (bq _ b))]
   ·cases h
  ·cases h
def rQ: ∀{a:List Bool} {xs:List Tbb} {ts:List Tba},gL P σ σ' xs->kU P σ' pc a xs ts=kU P σ pc a xs ts
 | [],[],[],_=>rfl
 |false::a,x::l,t::ts,hs=>by simp only[kU];rw[hs.d (by simp),rQ (fun y c=>hs y (by simp[c]))]
 |true::a,x::l,t::ts,hs=>by simp only[kU];rw[hs x (by simp),rQ (fun y c=>hs y (by simp[c]))]
 | [],[],_::_,_=>by simp[kU]
 | [],_::_,ts,_=>by cases ts<;>simp[kU]
 |b::_,[],ts,_=>by cases b<;>cases ts<;>simp[kU]
 |b::_,_::_,[],_=>by cases b<;>simp[kU]
def rR: ∀{cs:List SC} {es:List E} {ts:Tal} {ids:Tah},tG σ cs=some (es,ts,ids)->(∀id∈ids,σ'.hp id=σ.hp id)->tG σ' cs=some (es,ts,ids)
 | [],es,ts,ids,h,_=>h
 |c::r,es,ts,ids,h,hh=>by
  simp only[tG]at h⊢;split at h
  ·rename_i j g d f;split at h
   ·rename_i e t p;obtain⟨rfl,rfl,rfl⟩:=LA h;rw[rR f hh]
   ·split at h
    ·rename_i id n;split at h
     ·rename_i m k a;split at h
      ·rename_i q l b;obtain⟨rfl,rfl,rfl⟩:=LA h;rw[rR f (fun id i=>hh id (by simp[i]))];simp only[hh id (by simp),a,b]
      ·cases h
     ·cases h
    ·cases h
  ·cases h
def IJ{x:Tbb}{t:Tba}{e:E}{ty:Ty}{ids:Tah}(c:gL P σ σ' [x])(h:Kd P σ pc x t=some (e,ty,ids))(f: ∀id∈ids,σ'.hp id=σ.hp id):Kd P σ' pc x t=some (e,ty,ids):=by
 unfold Kd at h⊢;rw[c.d (by simp),c x (by simp)];split at h
 ·exact h
 ·split at h
  ·rename_i id n;split at h
   ·rename_i m k a;split at h
    ·rename_i p l b g;obtain⟨rfl,rfl,rfl⟩:=LA h;rw[f id (by simp),a];simp only;rw[rR g (fun i j=>f i (by simp[j]))]
    ·cases h
   ·cases h
  ·cases h
def xS: ∀{xs:List Tbb} {ts:List Tba} {es:List (E×Ty)} {ids:Tah},gL P σ σ' xs->xp P σ pc xs ts=some (es,ids)->(∀id∈ids,σ'.hp id=σ.hp id)->xp P σ' pc xs ts=some (es,ids)
 | [],[],es,ids,_,h,_=>h
 |x::l,t::ts,es,ids,hs,h,hh=>by
  simp only[xp]at h⊢;split at h
  ·rename_i e j k g c f d;obtain⟨rfl,rfl⟩:=iD h;rw[IJ (fun y a=>hs y (by simp at a;simp[a])) f (fun i b=>hh i (aA _ b)),xS (fun y a=>hs y (by simp[a])) d (fun i b=>hh i (bq _ b))]
  ·cases h
 | [],_::_,_,_,_,h,_=>by cases h
 |_::_,[],_,_,_,h,_=>by cases h
def Bu{cs:mG}{k:Nat}{e:E}{b:dH}{g:Tah}(m:gL P σ σ' o.op.operands.toList)(h:om P cs σ pc o=some (k,e,b,g))(q: ∀id∈g,σ'.hp id=σ.hp id):om P cs σ' pc o=some (k,e,b,g):=by
 unfold om at h⊢;split at h
 ·rename_i f n a i
  try simp only[i]
  rw[m f (by rw[i];simp[Op.operands,Call.operands])];split at h
  ·rename_i u t v ids r j;split at h
   ·rename_i l c;split at h
    ·rename_i d;obtain⟨rfl,s,rfl,rfl⟩:=W0 h;simp only[r];rw[xS (fun x p=>m x (by rw[i];simp[Op.operands,Call.operands];right;simpa using p)) j q];simp only[c];rw[if_pos d,s]
    ·cases h
   ·cases h
  ·cases h
 ·cases h
def DE{cs:mG}{k:Nat}{e:E}{i:dH}{m:Tah}(n:gL P σ σ' o.op.operands.toList)(h:om P cs σ pc o=some (k,e,i,m)):iP P cs σ' [] o=none:=by
 unfold om at h;split at h
 ·rename_i f l a j;split at h
  ·rename_i s r t ids p q;split at h
   ·rename_i b c;split at h
    ·rename_i g;unfold iP;simp only[j];rw[n f (by rw[j];simp[Op.operands,Call.operands])];simp only[p,c];have d:=g.1;cases hq:b.ob with
     |none=>rfl
     |some ob=>rw[hq]at d;cases d
    ·cases h
   ·cases h
  ·cases h
 ·cases h
def FD{ob:Ob}{ids:Tah}(b: ∀id∈nw σ ob ids,σ'.hp id=σ.hp id):nw σ' ob ids=nw σ ob ids:=by
 have d: ∀id r,ids=id::r->σ'.hp id=σ.hp id:=by
  intro id r c;refine b id ?_;subst c;unfold nw;split
  ·split
   ·rename_i e a;simp only[ev]at a;obtain⟨rfl,rfl⟩:=a;split<;>simp
   ·simp
  ·simp
 unfold nw;split
 ·split
  ·rw[d _ _ rfl]
  ·rfl
 ·rfl
def Aw: ∀{rcs:List (List bB)} {ids:Tah} {lk:Tak},(∀id∈ids,σ'.hp id=σ.hp id)->xY σ' rcs ids lk=xY σ rcs ids lk
 | [],_,_,_=>by simp[xY]
 |_::_,[],_,_=>by simp[xY]
 |rc::r,id::ids,none,_=>by simp[xY]
 |rc::r,id::ids,some l,h=>by simp only[xY];rw[h id (by simp),Aw (rcs:=r) (ids:=ids) (fun i a=>h i (by simp[a]))]
def pg{cs:mG}{x:od}(n:gL P σ σ' o.op.operands.toList)(h:iP P cs σ pc o=some x)(k: ∀id∈x.ids,σ'.hp id=σ.hp id)(s: ∀j g,(j,some g)∈x.own->σ'.live g=σ.live g):
  iP P cs σ' pc o=some x:=by
 unfold iP at h⊢;split at h
 ·rename_i f p b i
  try simp only[i]
  rw[n f (by rw[i];simp[Op.operands,Call.operands])];split at h
  ·rename_i y w t
   try simp only[t]
   split at h
   ·rename_i q c
    try simp only[c]
    split at h
    ·rename_i v e
     try simp only[e]
     rw[rQ (fun x r=>n x (by rw[i];simp[Op.operands,Call.operands];right;simpa using r))];split at h
     ·rename_i z ids m
      try simp only[m]
      split at h
      ·rename_i u l a;split at h
       ·rename_i d;injection h with h;subst h;rw[FD k,xB a k s];simp only;rw[Aw k];exact if_pos d
       ·cases h
      ·cases h
     ·cases h
    ·cases h
   ·cases h
  ·cases h
 ·cases h
def yf(e:gL P σ σ' o.op.operands.toList):ng P σ' o=ng P σ o:=by
 unfold ng;split
 ·rename_i b c f;split
  ·rename_i s x k h a g
   have j:s∈o.op.operands.toList:=by rw[f];simp[Op.operands,Call.operands];have:s∈b.toList:=by rw[a];simp
                                     simpa using this
   have i:x∈o.op.operands.toList:=by rw[f];simp[Op.operands,Call.operands];have:x∈b.toList:=by rw[a];simp
                                     simpa using this
   rw[e s j,e.d i]
  ·rfl
 ·rfl
def mY{cs:mG}{ops:Tad}{p:Nat}{e:iH}(a:qd P cs ops σ p o=some e)(G: ∀t,t∈o.looksAt ops->σ'.tm t=σ.tm t)(z: ∀id∈e.rd,σ'.hp id=σ.hp id)(r: ∀x∈e.live,x.2=none->σ'.live x.1=σ.live x.1):qd P cs ops σ' p o=some e:=by
 have i:gL P σ σ' o.op.operands.toList:=sZ fun t ht=>G t (by unfold Oper.looksAt;exact aA _ (bE.2 ⟨.tmp t,ht,rfl⟩))
 unfold qd at a⊢;rw[kz G];split at a
 ·cases a
 ·rename_i pc hg
  try simp only[hg]
  split at a
  ·rename_i w
   have:yO P σ' pc o=yO P σ pc o:=by
    unfold yO;split
    ·rfl
    ·rename_i t x h;rw[i x (by rw[h];simp[Op.operands])]
    ·rfl
   try simp only[w]
   rw[this];exact a
  ·rename_i w
   try simp only[w]
   split at a
   ·rename_i id l m
    have N:id∈e.rd:=by
     split at a
     ·injection a with a;subst a;simp
     ·cases a
    have:vj P σ' pc o=some (id,l):=by
     unfold vj at m⊢;split at m
     ·rename_i t x y h
      try simp only[h]
      rw[i x (by rw[h];simp[Op.operands]),i y (by rw[h];simp[Op.operands])];split at m
      ·rename_i a4 a3 a7 sz K Y X
       try simp only[K,Y,X]
       split at m
       ·rename_i a2 S;split at m
        ·rename_i W;obtain⟨rfl,rfl⟩:=iD m;rw[z _ N,S];exact if_pos W
        ·cases m
       ·cases m
      ·cases m
     ·cases m
    rw[this];exact a
   ·cases a
  ·rename_i w
   try simp only[w]
   split at a
   ·rename_i e' t fz C;injection a with a;subst a
    have:LR P σ' pc o=some (e',t,fz):=by
     unfold LR at C⊢;split at C
     ·rename_i f first F h
      try simp only[h]
      split at C
      ·rename_i U;rw[if_pos U];split at C
       ·rename_i es a5 E;obtain⟨K,Y,X⟩:=LA C;subst X;rw[rX (fun x B=>i x (by rw[h];simp[Op.operands];right;simpa using B)) E (fun x B=>z x.1 (by simp only[bn];exact⟨x,B,rfl⟩))];simp only[K,Y]
       ·cases C
      ·cases C
     ·cases C
    rw[this]
   ·cases a
  ·rename_i w
   try simp only[w]
   have:wF P cs σ' pc o=wF P cs σ pc o:=by
    unfold wF;split
    ·rename_i f A q h;rw[i f (by rw[h];simp[Op.operands,Call.operands]),xT (fun x B=>i x (by rw[h];simp[Op.operands,Call.operands];right;simpa using B))]
    ·rfl
   rw[this];split at a
   ·exact a
   ·split at a
    ·rename_i x B
     have:iP P cs σ' [] o=some x:=by
      split at a
      ·injection a with a;subst a;refine pg i B z (fun j g hm=>r (g,none) ?_ rfl);exact aA _ (aA _ (bE.2 ⟨(j,some g),hm,rfl⟩))
      ·cases a
     rw[this];exact a
    ·split at a
     ·rename_i k e' a1 Z m
      have I: ∀id∈Z,σ'.hp id=σ.hp id:=by
       split at a
       ·injection a with a;subst a;exact fun id hi=>z id hi
       ·cases a
      rw[DE i m,Bu i m I];exact a
     ·cases a
  ·rename_i w
   try simp only[w]
   rw[yf i];split at a
   ·exact a
   split at a
   ·rename_i g e1 e2 T t b c
    have Q: ∀g',g=some g'->σ'.live g'=σ.live g':=by
     rintro g' rfl;split at a
     ·injection a with a;subst a;exact r (g',none) (by simp) rfl
     ·cases a
    have:rI P σ' pc o=some (g,e1,e2,T,t,b):=by
     unfold rI at c⊢;split at c
     ·rename_i A q h
      try simp only[h]
      split at c
      ·rename_i s x tt a0 n J
       try simp only[n,J]
       have m1:s∈o.op.operands.toList:=by rw[h];simp[Op.operands,Call.operands];have:s∈A.toList:=by rw[n];simp
                                          simpa using this
       have m2:x∈o.op.operands.toList:=by rw[h];simp[Op.operands,Call.operands];have:x∈A.toList:=by rw[n];simp
                                          simpa using this
       rw[i s m1,i.d m2];split at c
       ·rename_i el sv ex u hu M B
        try simp only[hu,M,B]
        split at c
        ·rename_i ie u' R L
         try simp only[R,L]
         split at c
         ·rename_i W;rw[if_pos W];split at c
          ·rename_i v;exact c
          ·rename_i g0 e0 v;split at c
           ·rename_i a6 T' v' m;split at c
            ·rename_i V;obtain⟨rfl,rfl,rfl,rfl,rfl,rfl⟩:=WZ c
             try simp only[]
             rw[Q g0 rfl,m];simp only[V,and_self,if_true]
            ·cases c
           ·cases c
          ·cases c
         ·cases c
        ·cases c
       ·cases c
      ·cases c
     ·cases c
    rw[this];exact a
   ·cases a
  ·rename_i w
   try simp only[w]
   have:qJ P σ' pc o=qJ P σ pc o:=by
    unfold qJ;split
    ·rename_i t len D h;have K:=fun H=>ky (P:=P) (σ:=σ) (σ':=σ') (pc:=pc) H (xs:=D.toList) (by rw[h]at i;simpa [Op.operands]using i);simp only[K]
    ·rfl
   rw[this];exact a
  ·split at a
   ·rename_i s is Z O;injection a with a;subst a;rw[Bt i O z]
   ·cases a
def kQ{g:Tag}{t:Ty}(h:σ'.live g=σ.live g):qL σ' g t=qL σ g t:=by unfold qL;rw[h]
def Fm{cs:mG}(j:gL P σ σ' o.op.operands.toList):IS P cs σ' o=IS P cs σ o:=by
 unfold IS;split
 ·rename_i t x e;rw[j x (by rw[e];simp[Op.operands])]
 ·rename_i t x y e;rw[j x (by rw[e];simp[Op.operands])]
 ·rename_i t x i e;rw[j x (by rw[e];simp[Op.operands])]
 ·rename_i d c e;split
  ·rename_i x t m n
   have l:x∈o.op.operands.toList:=by rw[e];simp[Op.operands,Call.operands];have:x∈d.toList:=by rw[m];simp
                                     simpa using this
   rw[j x l]
  ·rfl
 ·rename_i d c e;split
  ·rename_i x _ t _ m n
   have l:x∈o.op.operands.toList:=by rw[e];simp[Op.operands,Call.operands];have:x∈d.toList:=by rw[m];simp
                                     simpa using this
   rw[j x l]
  ·rfl
 ·rfl
 ·rfl
 ·rename_i f d c e
  have:(d.toList.zip c.toList).any (BJ P σ')=(d.toList.zip c.toList).any (BJ P σ):=by
   have k: ∀x∈d.toList.zip c.toList,BJ P σ' x=BJ P σ x:=by intro x g;have p:x.1∈d.toList:=(List.of_mem_zip (a:=x.1) (b:=x.2) g).1;unfold BJ;rw[j x.1 (by rw[e];simp[Op.operands,Call.operands];right;simpa using p)]
   rw[du,fY,fY];exact⟨fun⟨x,g,h⟩=>⟨x,g,k x g▸h⟩,fun⟨x,g,h⟩=>⟨x,g,(k x g).symm▸h⟩⟩
  rw[this]
 ·rfl
def tQ{c:SC}{y:(E×Ty)×List (Tag×Tao (E×Tba×Ty))}(h:mT σ c=some y)(b: ∀z∈y.2,σ'.live z.1=σ.live z.1):mT σ' c=some y:=by
 cases c with
 |xo g t=>
  simp only[mT]at h⊢;split at h
  ·rename_i e T a;injection h with h;subst h;rw[kQ (b _ (aB.2 rfl)),a]
  ·cases h
 |_=>exact h
def r6: ∀{b:List SC} {y:(List E×Tal)×List (Tag×Tao (E×Tba×Ty))},jJ σ b=some y->(∀z∈y.2,σ'.live z.1=σ.live z.1)->jJ σ' b=some y
 | [],y,h,_=>h
 |c::b,y,h,hl=>by
  simp only[jJ]at h⊢;split at h
  ·rename_i e t l j g i f d;injection h with h;subst h;rw[tQ f (fun z a=>hl z (aA _ a)),r6 d (fun z a=>hl z (bq _ a))]
  ·cases h
def AY{s:SV}{y:(E×Ty)×List (Tag×Tao (E×Tba×Ty))}(h:mE σ s=some y)(a: ∀z∈y.2,σ'.live z.1=σ.live z.1):mE σ' s=some y:=by
 cases s with
 |one c=>exact tQ h a
 |agg cl=>
  simp only[mE]at h⊢;split at h
  ·rename_i f d e b;injection h with h;subst h;rw[r6 b a]
  ·cases h
 |eS l=>cases h
def rY: ∀{xs:List Tbb} {ts:List Tba} {y:List (E×Ty)×List (Tag×Tao (E×Tba×Ty))},gL P σ σ' xs->qM P σ pc xs ts=some y->(∀z∈y.2,σ'.live z.1=σ.live z.1)->qM P σ' pc xs ts=some y
 | [],[],y,_,h,_=>h
 |x::xs,t::ts,y,hs,h,hl=>by
  simp only[qM]at h⊢;split at h
  ·rename_i e l j i b f;injection h with h;subst h;rw[hs x (by simp)];rw[dJ]at b;obtain⟨g,d,c⟩:=b;rw[d,ch,AY c (fun z a=>hl z (aA _ a)),rY (fun z a=>hs z (by simp[a])) f (fun z a=>hl z (bq _ a))]
  ·cases h
 | [],_::_,_,_,h,_=>by cases h
 |_::_,[],_,_,h,_=>by cases h
def Dq(i:gL P σ σ' o.op.operands.toList):Cw P σ' pc o=Cw P σ pc o:=by
 unfold Cw;split
 ·rename_i f d c j
  have g: ∀x∈d.toList.zip c.toList,C2 P σ' pc x=C2 P σ pc x:=by intro x e;have k:x.1∈d.toList:=(List.of_mem_zip (a:=x.1) (b:=x.2) e).1;unfold C2;rw[i x.1 (by rw[j];simp[Op.operands,Call.operands];right;simpa using k)]
  rw[du,fY,fY];exact⟨fun⟨x,e,h⟩=>⟨x,e,g x e▸h⟩,fun⟨x,e,h⟩=>⟨x,e,(g x e).symm▸h⟩⟩
 ·rfl
def Dr{cs:mG}{p:Nat}{e:iH}(i:gL P σ σ' o.op.operands.toList)(a:wD P cs σ pc p o=some e)(b: ∀x∈e.live,σ'.live x.1=σ.live x.1):wD P cs σ' pc p o=some e:=by
 unfold wD at a⊢;split at a
 ·rename_i f j c g
  try simp only[g]
  rw[i f (by rw[g];simp[Op.operands,Call.operands])];split at a
  ·rename_i s r t l n h;split at a
   ·rename_i k d;split at a
    ·rename_i q;injection a with a;subst a;rw[rY (fun x m=>i x (by rw[g];simp[Op.operands,Call.operands];right;simpa using m)) h b];simp only[n,d];exact if_pos q
    ·cases a
   ·cases a
  ·cases a
 ·cases a
def IF{cs:mG}{p k:Nat}{e:iH}(A:gL P σ σ' o.op.operands.toList)(a:L3 P cs σ p o k=some e)(a0: ∀id∈e.rd,σ'.hp id=σ.hp id)(c: ∀x∈e.live,σ'.live x.1=σ.live x.1):L3 P cs σ' p o k=some e:=by
 unfold L3 at a⊢;split at a
 ·unfold IQ at a⊢;split at a
  ·rename_i t x h
   try simp only[h]
   rw[A x (by rw[h];simp[Op.operands])];split at a
   ·cases a
   ·rename_i C;rw[if_neg C];split at a
    ·rename_i g i u K B
     try simp only[B]
     split at a
     ·rename_i J T m;simp only[cU]at a;obtain⟨s,I,rfl⟩:=a;rw[kQ (c _ (aB.2 rfl)),m];simp only[I,aP]
     ·cases a
    ·cases a
  ·cases a
 ·unfold Cv at a⊢;split at a
  ·rename_i t x y h
   try simp only[h]
   rw[A x (by rw[h];simp[Op.operands]),A y (by rw[h];simp[Op.operands])];split at a
   ·rename_i g i u K es ts n I h2 h3
    try simp only[I,h2,h3]
    split at a
    ·rename_i J T m;split at a
     ·rename_i C;simp only[cU]at a;obtain⟨s,h4,rfl⟩:=a;rw[kQ (c _ (aB.2 rfl)),m];simp only[if_pos C,h4,aP]
     ·cases a
    ·cases a
   ·cases a
  ·cases a
 ·unfold Pt at a⊢;split at a
  ·rename_i r j h
   try simp only[h]
   split at a
   ·rename_i x t U ht
    try simp only[U,ht]
    have L:x∈o.op.operands.toList:=by rw[h];simp[Op.operands,Call.operands];have:x∈r.toList:=by rw[U];simp
                                      simpa using this
    rw[A x L];split at a
    ·rename_i g u E B
     try simp only[E,B]
     split at a
     ·rename_i J T m;injection a with a;subst a;rw[kQ (c _ (aB.2 rfl)),m]
     ·cases a
    ·cases a
   ·cases a
  ·cases a
 ·unfold Cy at a⊢;split at a
  ·rename_i t x i h
   try simp only[h]
   rw[A x (by rw[h];simp[Op.operands]),A.d (x:=i) (by rw[h];simp[Op.operands])];split at a
   ·rename_i g u Y k E B hi
    try simp only[E,B,hi]
    split at a
    ·rename_i J T m;split at a
     ·rename_i C;injection a with a;subst a;rw[kQ (c _ (aB.2 rfl)),m];exact if_pos C
     ·cases a
    ·cases a
   ·cases a
  ·cases a
 ·unfold C4 at a⊢;split at a
  ·rename_i g J e2 T t b q;injection a with a;subst a
   have O: ∀g',g=some g'->σ'.live g'=σ.live g':=by rintro g' rfl;exact c (g',none) (by simp)
   have:yZ P σ' o=some (g,J,e2,T,t,b):=by
    unfold yZ at q⊢;split at q
    ·rename_i r j h
     try simp only[h]
     split at q
     ·rename_i s x tt V w H
      try simp only[w,H]
      have L:s∈o.op.operands.toList:=by rw[h];simp[Op.operands,Call.operands];have:s∈r.toList:=by rw[w];simp
                                        simpa using this
      have X:x∈o.op.operands.toList:=by rw[h];simp[Op.operands,Call.operands];have:x∈r.toList:=by rw[w];simp
                                        simpa using this
      rw[A s L,A.d X];split at q
      ·rename_i el sv ex u E N B
       try simp only[E,N,B]
       split at q
       ·rename_i Y u' Q M
        try simp only[Q,M]
        split at q
        ·rename_i C;rw[if_pos C];split at q
         ·exact q
         ·rename_i g0 v;split at q
          ·rename_i a1 T' m;split at q
           ·rename_i S;obtain⟨rfl,rfl,rfl,rfl,rfl,rfl⟩:=WZ q
            try simp only[]
            rw[kQ (O g0 rfl),m];simp only[S,and_self,if_true]
           ·cases q
          ·cases q
         ·cases q
        ·cases q
       ·cases q
      ·cases q
     ·cases q
    ·cases q
   rw[this]
  ·cases a
 ·unfold Ps at a⊢
  have h0:qJ P σ' [] o=qJ P σ [] o:=by
   unfold qJ;split
   ·rename_i t len D h;have I:=fun G=>ky (P:=P) (σ:=σ) (σ':=σ') (pc:=[]) G (xs:=D.toList) (by rw[h]at A;simpa [Op.operands]using A);simp only[I]
   ·rfl
  have:wE P σ' o=wE P σ o:=by unfold wE;rw[h0]
  rw[this];exact a
 ·unfold IT at a⊢;split at a
  ·rename_i f r j h
   try simp only[h]
   rw[A f (by rw[h];simp[Op.operands,Call.operands])];split at a
   ·rename_i fe k' es l hf R;split at a
    ·rename_i W F;split at a
     ·rename_i C;injection a with a;subst a;rw[rY (fun x B=>A x (by rw[h];simp[Op.operands,Call.operands];right;simpa using B)) R (fun z Z=>c z (aA _ Z))];simp only[hf,F];exact if_pos C
     ·cases a
    ·cases a
   ·cases a
  ·cases a
def FO{cs:mG}{ops:Tad}{p:Nat}{e:iH}(c:BI P cs ops σ p o=some e)(b: ∀t,t∈o.looksAt ops->σ'.tm t=σ.tm t)(d: ∀id∈e.rd,σ'.hp id=σ.hp id)(a: ∀x∈e.live,σ'.live x.1=σ.live x.1):BI P cs ops σ' p o=some e:=by
 have f:gL P σ σ' o.op.operands.toList:=sZ fun t i=>b t (by unfold Oper.looksAt;exact aA _ (bE.2 ⟨.tmp t,i,rfl⟩))
 unfold BI at c⊢;rw[Fm f];split at c
 ·exact IF f c d a
 ·rw[kz b];split at c
  ·rename_i pc j
   try simp only[j]
   rw[Dq f];split at c
   ·rename_i h;rw[if_pos h];exact Dr f c a
   ·rename_i h;rw[if_neg h];exact mY c b d (fun x g _=>a x g)
  ·cases c
 ·exact mY c b d (fun x g _=>a x g)
def DJ(c:gL P σ σ' o.op.operands.toList):qa P σ' pc o=qa P σ pc o:=by
 unfold qa;split
 ·rename_i t len a d;have e:=fun b=>ky (P:=P) (σ:=σ) (σ':=σ') (pc:=pc) b (xs:=a.toList) (by rw[d]at c;simpa [Op.operands]using c);simp only[e]
 ·rfl
def Iy{cs:mG}(c:gL P σ σ' o.op.operands.toList):uP P cs σ' pc o=uP P cs σ pc o:=by
 unfold uP;split
 ·rename_i f b a d;rw[c f (by rw[d];simp[Op.operands,Call.operands])]
 ·rename_i b a d;split
  ·rename_i x y _ t e i
   have h:x∈o.op.operands.toList:=by rw[d];simp[Op.operands,Call.operands];have:x∈b.toList:=by rw[e];simp
                                     simpa using this
   have g:y∈o.op.operands.toList:=by rw[d];simp[Op.operands,Call.operands];have:y∈b.toList:=by rw[e];simp
                                     simpa using this
   rw[c x h,c y g]
  ·rfl
 ·rw[DJ c]
 ·rfl
def DQ{cs:mG}{ops:Tad}{p:Nat}{e:iH}(c:wI P cs ops σ p o=some e)(b: ∀t,t∈o.looksAt ops->σ'.tm t=σ.tm t)(d: ∀id∈e.rd,σ'.hp id=σ.hp id)(a: ∀x∈e.live,σ'.live x.1=σ.live x.1):wI P cs ops σ' p o=some e:=by
 have i:gL P σ σ' o.op.operands.toList:=sZ fun t h=>b t (by unfold Oper.looksAt;exact aA _ (bE.2 ⟨.tmp t,h,rfl⟩))
 unfold wI at c⊢;split at c
 ·rename_i k;exact FO c b d a
 ·rename_i k;rw[kz b];split at c
  ·rename_i pc j
   try simp only[j]
   rw[Iy i];split at c
   ·rename_i g;rw[if_pos g];exact mY c b d (fun x f _=>a x f)
   ·cases c
  ·cases c
 ·split at c
  ·rename_i g;rw[if_pos g];exact mY c b d (fun x f _=>a x f)
  ·cases c
def Br{cs:mG}(c:gL P σ σ' o.op.operands.toList):yw P cs σ' o=yw P cs σ o:=by
 unfold yw;split
 ·rename_i f b a d;rw[c f (by rw[d];simp[Op.operands,Call.operands])]
 ·rfl
def vZ{d:Tao Bool}{cs:mG}{ops:Tad}{p:Nat}{e:iH}(a:kf d P cs ops σ p o=some e)(f: ∀t,t∈o.looksAt ops->σ'.tm t=σ.tm t)(i: ∀id∈e.rd,σ'.hp id=σ.hp id)(c: ∀x∈e.live,σ'.live x.1=σ.live x.1):kf d P cs ops σ' p o=some e:=by
 have m:gL P σ σ' o.op.operands.toList:=sZ fun t r=>f t (by unfold Oper.looksAt;exact aA _ (bE.2 ⟨.tmp t,r,rfl⟩))
 unfold kf at a⊢;split at a
 ·exact DQ a f i c
 ·rename_i b y u;split at a
  ·cases a
  ·rename_i n;rw[if_neg n];split at a
   ·simp only[cU]at a⊢;obtain⟨x,l,rfl⟩:=a;refine⟨x,?_,rfl⟩;obtain⟨s,q⟩:=NY l;unfold W8;rw[pg m s (fun id h=>by rw[q.2.2.2.1]at h;simp at h) (fun j g k=>by rw[q.2.2.2.2]at k;simp at k)];simp only;rw[if_pos q]
   ·cases a
 ·split at a
  ·cases a
  ·rename_i n;rw[if_neg n,kz f];split at a
   ·rename_i pc v;split at a
    ·rename_i x l;injection a with a;subst a
     have:iP P cs σ' pc o=some x:=by refine pg m l i (fun j g k=>c (g,none) ?_);exact aA _ (aA _ (bE.2 ⟨(j,some g),k,rfl⟩))
     simp only[this]
    ·cases a
   ·cases a
 ·rw[kz f,Br m];exact a
end
inductive rf (P:Tap) (cs:mG) (ops:Tad) (p0 N:Nat):List (Nat×iH)->St->St->Prop
 |nil (σ:St):rf P cs ops p0 N [] σ σ
 |cons {i:Nat} {o:Tbc} {e:iH} {r:List (Nat×iH)} {σ σ':St} (ho:ops[i]? =some o) (he: ∃d,kf d P cs ops σ (p0+i) o=some e) (Pe:e.qW.2.lt N=true) (hr:rf P cs ops p0 N r (e.app σ) σ'):
  rf P cs ops p0 N ((i,e)::r) σ σ'
section
variable{P:Tap}{cs:mG}{ops:Tad}{p0 N:Nat}
def indep(ops:Tad)(x y:Nat×iH):Bool:=
 (match ops[x.1]?,ops[y.1]? with
  |some ox,some oy=>ox.apart ops oy
  |_,_=>false)&&
 (x.2.dst==((ops[x.1]?).bind (·.dst)))&&(y.2.dst==((ops[y.1]?).bind (·.dst)))&&
 (x.2.hp.all fun a=>(y.2.hp.all fun b=>a.1 !=b.1)&&y.2.rd.all fun b=>a.1 !=b)&&(y.2.hp.all fun b=>x.2.rd.all fun a=>b.1 !=a)&&
 (x.2.live.all fun a=>y.2.live.all fun b=>a.1 !=b.1)
def Aj{c β:Type}[DecidableEq c](h:c->β)(l m:List (c×β))(d: ∀a∈l,∀b∈m,a.1≠b.1):eT (eT h l) m=eT (eT h m) l:=by
 funext x;unfold eT;cases h1:lk m x with
 |none=>cases h2:lk l x<;>rfl
 |some v=>
  cases h2:lk l x with
  |none=>rfl
  |some u=>exact absurd rfl (d (x,u) (iK h2) (x,v) (iK h1))
def qm{b β:Type}[DecidableEq b](h:b->β)(l:List (b×β))(x:b)(c: ∀a∈l,a.1≠x):eT h l x=h x:=by
 unfold eT;cases h1:lk l x with
 |none=>rfl
 |some v=>exact absurd rfl (c _ (iK h1))
def rf.swap{x y:Nat×iH}{r:List (Nat×iH)}{σ σ':St}(hi:indep ops x y=true)(h:rf P cs ops p0 N (x::y::r) σ σ'):rf P cs ops p0 N (y::x::r) σ σ':=by
 obtain⟨i,ex⟩:=x;obtain⟨j,ey⟩:=y;cases h with
 |cons hox p aeS hr=>
  cases hr with
  |cons hoy o aeR hr=>
   rename_i D B;unfold indep at hi;simp only[hox,hoy,ch,aS,beq_iff_eq]at hi;obtain⟨⟨⟨⟨⟨L,A⟩,v⟩,K⟩,u⟩,J⟩:=hi;obtain⟨V,U,T⟩:=Oper.apart_spec L
   have k: ∀a∈ex.hp,(∀b∈ey.hp,a.1≠b.1)∧ ∀b∈ey.rd,a.1≠b:=by intro a c;have:=bY.1 K a c;simp only[aS,bY,bne_iff_ne]at this;exact this
   have m: ∀b∈ey.hp,∀a∈ex.rd,b.1≠a:=by intro b g a c;have:=bY.1 (bY.1 u b g) a c;simpa using this
   have f: ∀a∈ex.live,∀b∈ey.live,a.1≠b.1:=by intro a c b g;have:=bY.1 (bY.1 J a c) b g;simpa using this
   have F: ∀t,t∈B.looksAt ops->(ex.app σ).tm t=σ.tm t:=by
    intro t s;unfold iH.app;rw[A];cases hd:D.dst with
    |none=>rfl
    |some d=>exact fo _ _ (fun e=>V d hd (e▸s))
   have E: ∀t,t∈D.looksAt ops->(ey.app σ).tm t=σ.tm t:=by
    intro t s;unfold iH.app;rw[v];cases hd:B.dst with
    |none=>rfl
    |some d=>exact fo _ _ (fun e=>T d hd (e▸s))
   obtain⟨O,o⟩:=o;obtain⟨Q,p⟩:=p
   have R:kf O P cs ops σ (p0+j) B=some ey:=vZ o (fun t s=>(F t s).symm)
    (fun id l=>(qm _ _ _ (fun a c=>(k a c).2 id l)).symm) (fun z H=>(qm _ _ _ (fun a c=>f a c z H)).symm)
   have S:kf Q P cs ops (ey.app σ) (p0+i) D=some ex:=vZ p E
    (fun id l=>qm _ _ _ (fun b g=>m b g id l)) (fun z H=>qm _ _ _ (fun b g=>(f z H b g).symm))
   have q:ex.app (ey.app σ)=ey.app (ex.app σ):=by
    unfold iH.app;rw[A,v];simp only[St.mk.injEq];refine⟨?_,Aj _ _ _ (fun b g a c=>((k a c).1 b g).symm),Aj _ _ _ (fun b g a c=>(f a c b g).symm)⟩;cases hd:D.dst with
    |none=>rfl
    |some d=>
     cases hd':B.dst with
     |none=>rfl
     |some d'=>
      have I:d≠d':=fun e=>U d hd (e▸hd');funext t;simp only[fD];by_cases M:t=d
      ·subst M;simp[I]
      ·simp[M]
   exact .cons hoy ⟨O,R⟩ aeR (.cons hox ⟨Q,S⟩ aeS (q▸hr))
def rf.pull{x:Nat×iH}: ∀{l r:List (Nat×iH)} {σ σ':St},(∀y∈l,indep ops y x=true)->rf P cs ops p0 N (l++x::r) σ σ'->rf P cs ops p0 N (x::(l++r)) σ σ'
 | [],_,_,_,_,h=>h
 |y::l,r,σ,σ',hi,h=>by
  cases h with
  |cons ho he Pe hr=>
   have b:=rf.pull (l:=l) (fun z c=>hi z (aH _ c)) hr;exact rf.swap (hi _ (bw ..)) (.cons ho he Pe b)
variable{C:Cx}{G:Gh}{w w0:Tam}{S0:gJ}{σ:St}{a:Act}{n:Nat}{Φ:Taa}{Pre:eN}
def dL.Jc(C:Cx)(w:Tam)(G:Gh){M':Tai}(h: ∀i,C.M i->M' i):dL C w G {C with M:=M'} w G:=
 ⟨fun _ h=>⟨rfl,h⟩,h,fun _ _ h=>h,fun _ _ _=>rfl,fun _ _=>rfl,fun _ _=>rfl⟩
def eW.ir{d:Cx}(h:eW w0 S0 C G σ w)(c:dL C w G d w G):eW w0 S0 d G σ w where
 below:=h.below
 jA:=h.jA
 keep:=h.keep
 pK i b hi:=⟨c.M _ (h.pK i b hi).1,(h.pK i b hi).2⟩
 kT:=h.kT
 dF:=h.dF
 gX:=h.gX
 mH id x hx:=c.M _ (h.mH id x hx)
 box id ro cs hx:=by obtain⟨l,k,j,f⟩:=h.box id ro cs hx;exact⟨l,k,j.later c rfl,f⟩
 inj:=h.inj
 own g e T t hx:=(h.own g e T t hx).later c (fun _ _=>rfl) (fun _ _ _ h=>h)
 gh:=h.gh
 js:=h.js
 eK:=h.eK
 fresh:=h.fresh
 wz:=h.wz
def gG.ir{c:Cx}(h:gG n w0 S0 C G σ a w)(b:dL C w G c w G):gG n w0 S0 c G σ a w:=
 ⟨h.m.ir b,h.t.later b,h.sz,h.defers⟩
structure oc(P:Tap)(cs:mG)(ops:Tad)(p0 n:Nat)(S0:gJ)(C:Cx)(Φ:Taa)(Pre:eN)(r:List (Nat×iH)):Prop where
 Xi: ∀k sig,lk cs.l k=some sig->bj P k sig (Pre k) (Φ k)
 items: ∀x∈r,∀it∈x.2.items,eG C Φ Pre it
 pos: ∀x∈r,p0+x.1<C.N
 dst: ∀(i:Nat) o d,ops[i]? =some o->o.dst=some d->d<n
 fr:Gl P cs S0 Φ Pre
def oc.tail{x:Nat×iH}{r:List (Nat×iH)}(h:oc P cs ops p0 n S0 C Φ Pre (x::r)):oc P cs ops p0 n S0 C Φ Pre r:=
 ⟨h.Xi,fun y b=>h.items y (aH _ b),fun y b=>h.pos y (aH _ b),h.dst,h.fr⟩
def eG.add{p:Nat}{it:Item}(h:eG C Φ Pre it):eG (C.add p) Φ Pre it:=by cases it<;>exact h
def oc.add{p:Nat}{r:List (Nat×iH)}(h:oc P cs ops p0 n S0 C Φ Pre r):oc P cs ops p0 n S0 (C.add p) Φ Pre r:=
 ⟨h.Xi,fun x d c b=>(h.items x d c b).add,h.pos,h.dst,h.fr⟩
def Af{Q:HP}: ∀{r:List (Nat×iH)} {σ σ':St} {C:Cx} {G:Gh} {a:Act} {w:Tam},rf P cs ops p0 C.N r σ σ'->oc P cs ops p0 n S0 C Φ Pre r->gG n w0 S0 C G σ a w->
  (r.map (·.1)).Nodup->(∀x∈r,¬C.M (p0+x.1))->
  (∀g w' p m,(∀i,m i->C.M i∨ ∃x∈r,i=p0+x.1)->gG n w0 S0 {C with M:=m} p σ' g w'->Q .normal g w')->wpOps P ops Q (r.map (·.1)) a w
 | [],σ,σ',C,G,a,w,h,_,hs,_,_,hQ=>by cases h;exact hQ a w G C.M (fun i B=>.inl B) hs
 |(i,e)::r,σ,σ',C,G,a,w,h,D3,hs,T8,hM,hQ=>by
  cases h with
  |cons ho he Pe hr=>
   rename_i o;simp only[cE,List.nodup_cons]at T8;have z: ¬C.M (p0+i):=hM (i,e) (bw ..);have c:=xc hs he.choose_spec z (D3.pos (i,e) (bw ..)) D3.Xi Pe (D3.items (i,e) (bw ..)) (fun d D=>D3.dst i o d ho D) D3.fr
   have f: ∀g w' p,gG n w0 S0 (C.add (p0+i)) p (e.app σ) g w'->wpOps P ops Q (r.map (·.1)) g w':=by
    intro g w' p t;refine Af (C:=C.add (p0+i)) hr D3.tail.add t T8.2 ?_ ?_
    ·rintro x l (hm|hm)
     ·exact hM x (aH _ l) hm
     ·have:x.1=i:=by omega
      exact T8.1 (bn.2 ⟨x,l,this⟩)
    ·intro v q y m u k;refine hQ v q y m (fun j A=> ?_) k;rcases u j A with(h1|h1)|⟨x,l,h1⟩
     ·exact .inl h1
     ·exact .inr ⟨(i,e),bw ..,h1⟩
     ·exact .inr ⟨x,aH _ l,h1⟩
   have b:=c (wpOps P ops Q (r.map (·.1))) Q f;simp only[cE,wpOps,ho];split
   ·rename_i s;rw[if_pos s]at b;exact .inl b
   ·rename_i s;rw[if_neg s]at b;exact b
def kD{Q:HP}(c:Tah): ∀{r:List (Nat×iH)} {σ σ':St} {C:Cx} {G:Gh} {a:Act} {w:Tam},rf P cs ops p0 C.N r σ σ'->oc P cs ops p0 n S0 C Φ Pre r->gG n w0 S0 C G σ a w->
  (r.map (·.1)).Nodup->(∀x∈r,¬C.M (p0+x.1))->
  (∀k w' q p,(∀i,p i->C.M i∨ ∃x∈r,i=p0+x.1)->gG n w0 S0 {C with M:=p} q σ' k w'->wpOps P ops Q c k w')->wpOps P ops Q (r.map (·.1)++c) a w
 | [],σ,σ',C,G,a,w,h,_,hs,_,_,hQ=>by cases h;exact hQ a w G C.M (fun i D=>.inl D) hs
 |(i,e)::r,σ,σ',C,G,a,w,h,D3,hs,T8,hM,hQ=>by
  cases h with
  |cons ho he Pe hr=>
   rename_i o;simp only[cE,List.nodup_cons]at T8;have A: ¬C.M (p0+i):=hM (i,e) (bw ..);have f:=xc hs he.choose_spec A (D3.pos (i,e) (bw ..)) D3.Xi Pe (D3.items (i,e) (bw ..)) (fun d E=>D3.dst i o d ho E) D3.fr
   have g: ∀k w' q,gG n w0 S0 (C.add (p0+i)) q (e.app σ) k w'->wpOps P ops Q (r.map (·.1)++c) k w':=by
    intro k w' q u;refine kD c (C:=C.add (p0+i)) hr D3.tail.add u T8.2 ?_ ?_
    ·rintro x m (hm|hm)
     ·exact hM x (aH _ m) hm
     ·have:x.1=i:=by omega
      exact T8.1 (bn.2 ⟨x,m,this⟩)
    ·intro y s z p v l;refine hQ y s z p (fun j B=> ?_) l;rcases v j B with(h1|h1)|⟨x,m,h1⟩
     ·exact .inl h1
     ·exact .inr ⟨(i,e),bw ..,h1⟩
     ·exact .inr ⟨x,aH _ m,h1⟩
   have b:=f (wpOps P ops Q (r.map (·.1)++c)) Q g;simp only[cE,dU,wpOps,ho];split
   ·rename_i t;rw[if_pos t]at b;exact .inl b
   ·rename_i t;rw[if_neg t]at b;exact b
def fwd(ops:Tad)(i:Nat):Nat->Nat->Tah->Tah
 |0,_,acc=>acc
 |n+1,j,acc=>match ops[j]? with
  |some o=>if o.after.any fun e=>Region.binds .any e&&(e.on==i||acc.contains e.on) then fwd ops i n (j+1) (j::acc) else fwd ops i n (j+1) acc
  |none=>acc
def Py(ops:Tad)(_:Nat)(i j:Nat):Bool:=(fwd ops i (ops.size-i) i []).contains j
def qe(ops:Tad):List (Nat×iH)->Bool
 | [] =>true
 |x::r=>(r.all fun y=>indep ops x y||Py ops ops.size x.1 y.1)&&qe ops r
def wL(ops:Tad)(b:Tbd Bool):Prop:=
 ∀(j:Nat) o,ops[j]? =some o->b.getD j false=true-> ∀e∈o.after,Region.binds .any e=true->b.getD e.on false=true
def uv{i:Nat}: ∀(n j:Nat) (c:Tah),(∀k∈c,∀b:Tbd Bool,wL ops b->(∀o,ops[k]? =some o-> ∀e∈o.after,Region.binds .any e=true->b.getD e.on false=true)->b.getD i false=true)->
  ∀k∈fwd ops i n j c,∀b:Tbd Bool,wL ops b->(∀o,ops[k]? =some o-> ∀e∈o.after,Region.binds .any e=true->b.getD e.on false=true)->b.getD i false=true
 |0,_,_,h=>h
 |n+1,j,c,h=>by
  unfold fwd;split
  ·rename_i o v;split
   ·rename_i y;refine uv n (j+1) (j::c) ?_;intro k m;rcases aD.1 m with rfl|m
    ·intro b g f;obtain⟨e,x,t⟩:=Array.any_eq_true'.1 y;simp only[aS,dt,beq_iff_eq]at t;obtain⟨q,d⟩:=t;have s:=f o v e x q;rcases d with rfl|d
     ·exact s
     ·exact h e.on (by simpa using d) b g (fun u l z p r=>g e.on u l s z p r)
    ·exact h k m
   ·exact uv n (j+1) c h
  ·exact h
def Ia{b:Tbd Bool}(d:wL ops b)(f i j:Nat)(h:Py ops f i j=true)(c: ∀o,ops[j]? =some o-> ∀e∈o.after,Region.binds .any e=true->b.getD e.on false=true):b.getD i false=true:=
 uv _ _ [] (by simp) j (by simpa [Py]using h) b d c
def xJ: ∀{l r:List (Nat×iH)} {x:Nat×iH},qe ops (l++x::r)=true-> ∀y∈l,indep ops y x=true∨Py ops ops.size y.1 x.1=true
 | [],_,_,_,y,b=>by simp at b
 |z::l,r,x,h,y,b=>by
  simp only[dU,qe,aS]at h;rcases aD.1 b with rfl|b
  ·have:=bY.1 h.1 x (by simp);simpa using this
  ·exact xJ h.2 y b
def xK: ∀{l r:List (Nat×iH)} {x:Nat×iH},qe ops (l++x::r)=true->qe ops (l++r)=true
 | [],r,x,h=>by simp only[cX,qe,aS]at h;exact h.2
 |z::l,r,x,h=>by simp only[dU,qe,aS]at h⊢;refine⟨?_,xK h.2⟩;rw[bY]at h⊢;intro y b;exact h.1 y (by rcases aI.1 b with h|h<;>simp[h])
def HT{Q:HP}: ∀(k:Nat) {r:List (Nat×iH)} {σ σ':St} {C:Cx} {G:Gh} {a:Act} {w:Tam} {b:Tbd Bool},rf P cs ops p0 C.N r σ σ'->oc P cs ops p0 n S0 C Φ Pre r->gG n w0 S0 C G σ a w->
  (r.map (·.1)).Nodup->(∀x∈r,¬C.M (p0+x.1))->qe ops r=true->b.size=ops.size->wL ops b->r.length<=k->(∀i,i<ops.size->(b.getD i false=false↔i∈r.map (·.1)))->
  (∀x∈r,x.1<ops.size)->(r≠ [] ->Region.ready .any ops b≠ [])->
  (∀(c:Tbd Bool) (r':List (Nat×iH)),c.size=ops.size->wL ops c->(∀i,i<ops.size->(c.getD i false=false↔i∈r'.map (·.1)))->r'≠ [] ->(∀x∈r',x.1<ops.size)->Region.ready .any ops c≠ [])->
  (∀a' w' G' M',(∀i,M' i->C.M i∨ ∃x∈r,i=p0+x.1)->gG n w0 S0 {C with M:=M'} G' σ' a' w'->Q .normal a' w')->wpAny P .any ops Q k b a w:=by
 intro k
 induction k with
 |zero=>
  intro r σ σ' C G a w b h f hs a3 hM v a0 Z F g W z u hQ;have hr:r=[] :=an (by omega);subst hr;cases h;refine⟨?_,hQ a w G C.M (fun i hi=>.inl hi) hs⟩;rw[fg];intro j E;obtain⟨h0,o,K,_⟩:=mem_ready.1 E;have X:j<ops.size:=(aL.1 K).1
  have H:b.getD j false=false:=by
   have Y:j<b.size:=by omega
   simp[Y]at h0⊢;exact h0
  have:=(g j X).1 H;simp at this
 |succ k ih=>
  intro r σ σ' C G a w b h f hs a3 hM v a0 Z F g W z u hQ;refine⟨fun h0=> ?_,fun i hi=> ?_⟩
  ·by_cases hr:r=[]
   ·subst hr;cases h;exact hQ a w G C.M (fun i hi=>.inl hi) hs
   ·exact absurd h0 (z hr)
  ·obtain⟨h0,o,K,J⟩:=mem_ready.1 hi;have b3:i<ops.size:=(aL.1 K).1
   have H:b.getD i false=false:=by
    have Y:i<b.size:=by omega
    simp[Y]at h0⊢;exact h0
   have a4:=(g i b3).1 H;obtain⟨x,hx,S⟩:=bn.1 a4;obtain⟨l,r2,hr⟩:=List.append_of_mem hx;subst hr
   have a5: ∀y∈l,indep ops y x=true:=by
    intro y t;rcases xJ v y t with h|h
    ·exact h
    ·exfalso;rw[S]at h;have a9:=Ia Z _ _ _ h (fun o' q=>by rw[K]at q;injection q with q;subst q;exact J);have b0:=W y (by simp[t]);have:=(g y.1 b0).2 (bn.2 ⟨y,by simp[t],rfl⟩);rw[a9]at this;cases this
   have U:=rf.pull a5 h;obtain⟨xi,e⟩:=x;simp only at S;subst S
   have s: ∀y∈l++r2,y∈l++(xi,e)::r2:=by intro y t;rcases aI.1 t with h|h<;>simp[h]
   have D:xi∉(l++r2).map (·.1)∧((l++r2).map (·.1)).Nodup:=by
    have:(((xi,e)::(l++r2)).map (·.1)).Nodup:=by refine(List.Perm.nodup_iff ?_).1 a3;exact(List.perm_middle).map _
    simpa using this
   cases U with
   |cons q he aeT hr'=>
    rename_i o';rw[K]at q;injection q with q;subst q;have hp: ¬C.M (p0+xi):=hM (xi,e) (by simp);have a2:oc P cs ops p0 n S0 C Φ Pre (l++r2):=⟨f.Xi,fun y t=>f.items y (s y t),fun y t=>f.pos y (s y t),f.dst,f.fr⟩;have T:=xc hs he.choose_spec hp (f.pos (xi,e) (by simp)) f.Xi aeT (f.items (xi,e) (by simp)) (fun d hd=>f.dst xi o d K hd) f.fr;have I:(b.setIfInBounds xi true).size=ops.size:=by simp[a0]
    have O: ∀j,j<ops.size->(b.setIfInBounds xi true).getD j false=(if j=xi then true else b.getD j false):=by
     intro j E;by_cases m:j=xi
     ·subst m;have:j<b.size:=by omega
      simp[this]
     ·rw[if_neg m];exact getD_set_ne false (Ne.symm m)
    have R:wL ops (b.setIfInBounds xi true):=by
     intro j o' B E e' a6 a7;have X:j<ops.size:=(aL.1 B).1;rw[O j X]at E;by_cases m:j=xi
     ·subst m;rw[K]at B;injection B with B;subst B;exact getD_set_true (J e' a6 a7)
     ·rw[if_neg m]at E;exact getD_set_true (Z j o' B E e' a6 a7)
    have A: ∀j,j<ops.size->((b.setIfInBounds xi true).getD j false=false↔j∈(l++r2).map (·.1)):=by
     intro j E;rw[O j E];by_cases m:j=xi
     ·subst m;simp only[if_true];exact⟨fun h=>(by cases h),fun h=>absurd h D.1⟩
     ·rw[if_neg m,g j E];simp[m]
    have L: ∀y∈l++r2,y.1<ops.size:=fun y t=>W y (s y t)
    have V: ∀a' w' G',gG n w0 S0 (C.add (p0+xi)) G' (e.app σ) a' w'->wpAny P .any ops Q k (b.setIfInBounds xi true) a' w':=by
     intro a' w' G' b1;refine ih (C:=C.add (p0+xi)) hr' a2.add b1 D.2 ?_ (xK v) I R (by simp at F⊢;omega) A L (fun b2=>u _ _ I R A b2 L) u ?_
     ·rintro y t (hm|hm)
      ·exact hM y (s y t) hm
      ·have:y.1=xi:=by omega
       exact D.1 (bn.2 ⟨y,t,this⟩)
     ·intro b5 a8 b6 M' b4 a1;refine hQ b5 a8 b6 M' (fun j E=> ?_) a1;rcases b4 j E with(H|H)|⟨y,t,H⟩
      ·exact .inl H
      ·exact .inr ⟨(xi,e),by simp,H⟩
      ·exact .inr ⟨y,s y t,H⟩
    have p:=T (wpAny P .any ops Q k (b.setIfInBounds xi true)) Q V;unfold wpOp;simp only[K];split
    ·rename_i hw;rw[if_pos hw]at p;exact .inl p
    ·rename_i hw;rw[if_neg hw]at p;exact p
def TP(ops:Tad):Bool:=(List.range ops.size).all fun i=>match ops[i]? with
 |some o=>o.after.all fun e=> !Region.binds .any e||decide (e.on<i)
 |none=>true
def AH(A:TP ops=true){lJ:Tbd Bool}(t:lJ.size=ops.size){r:Tah}(b: ∀i,i<ops.size->(lJ.getD i false=false↔i∈r))(u:r≠ [])(o: ∀x∈r,x<ops.size):Region.ready .any ops lJ≠ [] :=by
 obtain⟨m,d,g⟩: ∃m,m∈r∧ ∀j,j<m->j∉r:=by
  cases r with
  |nil=>exact absurd rfl u
  |cons x r=>
   have: ∃m,m∈(x::r):=⟨x,by simp⟩
   have l: ∀k,(∃m∈(x::r),m<=k)-> ∃m,m∈(x::r)∧ ∀j,j<m->j∉(x::r):=by
    intro k
    induction k with
    |zero=>rintro⟨m,d,v⟩;exact⟨m,d,fun j y=>by omega⟩
    |succ k ih=>
     rintro⟨m,d,v⟩;by_cases h: ∃m∈(x::r),m<=k
     ·exact ih h
     ·refine⟨m,d,fun j y p=>h ⟨j,p,by omega⟩⟩
   exact l x ⟨x,by simp,bf _⟩
 have c:=o m d
 have:m∈Region.ready .any ops lJ:=by
  rw[mem_ready];have s:=(b m c).2 d;have f:m<lJ.size:=by omega
  refine⟨by simp[f]at s⊢;exact s,ops[m],by simp[c],fun e z q=> ?_⟩;have:=bY.1 A m (db.2 c);simp only[dw c]at this;have:=(Array.all_eq_true_iff_forall_mem.1 this) e z;simp only[q,Bool.not_true,Bool.false_or,bk]at this;have B:lJ.getD e.on false≠false:=fun h=>g e.on this ((b e.on (by omega)).1 h);simpa using B
 intro h;rw[h]at this;cases this
end
end Go.dI
