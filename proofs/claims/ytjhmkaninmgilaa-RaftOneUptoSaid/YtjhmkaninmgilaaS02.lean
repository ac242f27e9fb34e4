/- Part 2 of the proof of RaftOne; no condition. -/
import Derived.Test.YtjhmkaninmgilaaS01
import Derived.Laws.MakeOwn
set_option linter.unusedVariables false
set_option linter.unusedSimpArgs false
set_option maxHeartbeats 4000000
open Go.IntKind (i64)
namespace Go.dV
open Go Go.RowKit
section
variable{P:Program}{C:Cx}{w w0:World}{S0:iu}{G:Gh}{σ:St}{a:Act}{o:Oper}{pc:dI}{s:SV}{is:List Item}{Φ:Nat→List D→D}{Pre:Nat→List D→Prop}{n p:Nat}{cs:o3}
theorem rS{g:Tag}{t:Ty}{e:E}{T:TypeId}(h:tN σ g t=some (e,T)):σ.live g=some (e,T,t)∧g.ex=true∧0<t.cells.length:=by
 unfold tN at h
 split at h
 ·rename_i e' T' t' hl
  split at h
  ·rename_i hc
   obtain⟨rfl,h1,h2⟩:=hc
   obtain⟨rfl,rfl⟩:=jC h
   exact⟨hl,h1,h2⟩
  ·cases h
 ·cases h
theorem Ax{g:Tag}{x:E×TypeId×Ty}(h:σ.live g=some x):fg σ.live [(g,some x)] =σ.live:=by
 rw[vY,dM]
 funext y
 split
 ·rename_i hy;rw[hy,h]
 ·rfl
theorem fp.aau(hm:fp w0 S0 C G σ w){g:Tag}{e:E}{T:TypeId}{t:Ty}(hl:σ.live g=some (e,T,t)){b k cap:Nat}(iI:G.τ g= .slice (some ⟨b,0,none⟩) k cap):
  ∃(cur:Array Value) (l:List D),w.heap[b]? =some (.cells cur T (0,0))∧den C.ρ e= .list l∧l.length=k∧(∀d∈l,Has t d)∧k*t.cells.length≤cur.size∧oG t k∧
   ∀(i:Nat) d (j:Nat) c,l[i]? =some d→d.cells[j]? =some c→ ∃v,cur[i*t.cells.length+j]? =some v∧cH w G.S v c:=by
 have cI:=hm.own g e T t hl
 obtain⟨xs,l,hd,⟨nq,hh⟩,hS,hr⟩:=cI.own
 obtain⟨l',lD,FV,iG⟩:=bK.1 cI.has
 rw[hd]at lD;injection lD with lD;subst lD
 rcases hh with⟨hv,_⟩|⟨b',HB,cur,hv,_,kR,zZ,Jg,kP,xf⟩
 ·rw[iI]at hv;cases hv
 ·rw[iI]at hv
  injection hv with FR Jo hv3
  injection FR with FR
  injection FR with FR
  subst FR;subst Jo;subst hv3
  refine⟨cur,l,kR,hd,rfl,iG,by rw[kP];exact az _ zZ,FV,fun i d j c hi hj=> ?_⟩
  have iJ:i<l.length:=(aH.1 hi).1
  have PF:=(cN (iG d (ca hi))).1
  have lZ:j<t.cells.length:=by rw[←PF];exact(aH.1 hj).1
  have bP:i*t.cells.length+j<l.length*t.cells.length:=by
   have:(i+1)*t.cells.length≤l.length*t.cells.length:=az _ iJ
   rw[cw]at this;omega
  obtain⟨v,tF⟩: ∃v,xs[i*t.cells.length+j]? =some v:=⟨_,aW (by omega)⟩
  refine⟨v,?_,hr i d j _ c hi hj tF⟩
  rw[←xf,aG,if_pos bP]at tF
  simpa using tF
theorem fp.UM(hm:fp w0 S0 C G σ w){g:Tag}{e i:E}{T:TypeId}{t:Ty}(hl:σ.live g=some (e,T,t)){b k cap:Nat}(iI:G.τ g= .slice (some ⟨b,0,none⟩) k cap)(hi:(den C.ρ i).aq.toNat<k):
  ∃(d:D) (uu:Nat→Value),(den C.ρ e).aV[(den C.ρ i).aq.toNat]? =some d∧den C.ρ (.bin .idx e i)=d∧Has t d∧ ∀(j:Nat) c,d.cells[j]? =some c→w.cell? ⟨b,(den C.ρ i).aq.toNat*t.cells.length+j,none⟩=some (uu j)∧cH w G.S (uu j) c:=by
 obtain⟨cur,l,kR,hd,LD,iG,_,_,hr⟩:=hm.aau hl iI
 have hli:l[(den C.ρ i).aq.toNat]? =some (l[(den C.ρ i).aq.toNat]'(by omega)):=aW _
 refine⟨_,fun j=>cur.toList.getD ((den C.ρ i).aq.toNat*t.cells.length+j) undef,by rw[hd];exact hli,?_,iG _ (ca hli),fun j c hj=> ?_⟩
 ·simp only[den,B.den,hd,D.aV];exact hZ hli
 ·obtain⟨v,hv,hvr⟩:=hr _ _ j c hli hj
  have pn:cur.toList[(den C.ρ i).aq.toNat*t.cells.length+j]? =some v:=by simpa using hv
  have e1:cur.toList.getD ((den C.ρ i).aq.toNat*t.cells.length+j) undef=v:=by simp[List.getD,pn]
  simp only[e1]
  exact⟨by rw[cell_of_row w b _ cur T (0,0) kR];exact hv,hvr⟩
theorem Mj{ops:Array Oper}{e:jI}(hs:iq n w0 S0 C G σ a w)(hg:o.guard=none){v:Value}(fh:(execOp a.eval o).run P w= .ok (.value v) w)(ug:e.hp=[])(Ch:fg σ.live e.live=σ.live)
  (hd:e.dst=o.dst) (eu:e.yh.1=[]) (bP:e.yh.2.lt C.N=true) (hv:Ab C w G e.yh.2 v) (eT: ∀d,o.dst=some d→d<n):fQ P n w0 S0 C (e.app σ) p ops a w o:=by
 intro K Q hK
 have hw:Region.wanted o (yielded ops a.tmps)=true:=by unfold Region.wanted;rw[hg]
 rw[hw,if_pos rfl]
 unfold Oper.wp
 rw[fh]
 have cp:=dT.pV C w G p
 refine hK _ _ _ (hs.step (o:=o) cp ((hs.m.pV p).congr (by show fg σ.hp e.hp=_;rw[ug,dM]) Ch) hd bP (by rw[eu];simp) (fun _=> ?_) eT)
 rw[eu]
 simp only[aU,bW,if_true]
 exact hv.later cp
theorem FA{ops:Array Oper}{e:jI}(hs:iq n w0 S0 C G σ a w)(hg:o.guard=none)(h:Oc P σ o=some e)(bP:e.yh.2.lt C.N=true)(eT: ∀d,o.dst=some d→d<n):
  fQ P n w0 S0 C (e.app σ) p ops a w o:=by
 unfold Oc at h
 split at h
 ·rename_i t x ho
  split at h
  ·cases h
  ·rename_i kV
   have kV:(P.underlying t).isSome=true:=by cases hq:P.underlying t<;>simp[hq]at kV⊢
   split at h
   ·rename_i g i u off hx
    split at h
    ·rename_i el T E9
     simp only[da]at h
     obtain⟨⟨s',is'⟩,h1,rfl⟩:=h
     obtain⟨hl,hex,ir⟩:=rS E9
     obtain⟨hM,Yq,b,cap,k,iI,Sh,PM,hv⟩:=cK hs.t (pc:=[]) rfl hx
     obtain⟨d,uu,_,hd,iR,hc⟩:=hs.m.UM (i:=i) hl iI PM
     obtain⟨v,k1,k2⟩:=qW (P:=P) (C:=C) (w:=w) (G:=G) (b:=b) (o':=(den C.ρ i).aq.toNat*u.cells.length) (uu:=uu) h1 kV (by simp[E.lt,Yq,(hs.m.own _ _ _ _ hl).lt]) (by rw[hd];exact iR) (by rw[hd];exact hc)
     refine Mj (e:=⟨o.dst,([],s'),[],[(g,some (el,T,u))],[],[]⟩) (v:=v) hs hg ?_ rfl (Ax hl) rfl rfl bP k2 eT
     unfold execOp;simp only[ho,hv]
     rw[bA,k1];rfl
    ·cases h
   ·cases h
 ·cases h
theorem IA{ops:Array Oper}{e:jI}(hs:iq n w0 S0 C G σ a w)(hg:o.guard=none)(h:XV P σ o=some e)(bP:e.yh.2.lt C.N=true)(eT: ∀d,o.dst=some d→d<n):
  fQ P n w0 S0 C (e.app σ) p ops a w o:=by
 unfold XV at h
 split at h
 ·rename_i args argTypes ho
  split at h
  ·rename_i x t fP FY
   split at h
   ·rename_i el g u hu hx
    split at h
    ·rename_i ee T E9
     injection h with h;subst h
     obtain⟨hl,hex,ir⟩:=rS E9
     obtain⟨hM,hv,A,k,cap,Hc⟩:=cK hs.t (pc:=[]) rfl hx
     have cI:=hs.m.own _ _ _ _ hl
     obtain⟨l,hd,FV,_⟩:=bK.1 cI.has
     have hk:k=l.length:=by
      obtain⟨xs,l',kO,⟨_,hh⟩,_⟩:=cI.own
      rw[hd]at kO;injection kO with kO;subst kO
      rw[←hv,Hc]at hh
      rcases hh with⟨pn,hn⟩|⟨b',HB,cur,pn,_⟩
      ·injection pn with q1 q2 q3;omega
      ·injection pn with q1 q2 q3
     have sy:args= #[x] :=by apply dg;simpa using fP
     refine Mj (v:=.int .i64 l.length) hs hg ?_ rfl (Ax hl) rfl rfl bP ?_ eT
     ·unfold execOp;simp only[ho,resolve,invoke,builtin,sy]
      simp[Builtin.len_,FY,Hc,run_underlying hu,goInt,hk]
     ·refine⟨by simpa [E.lt]using cI.lt,?_,?_⟩
      ·simp only[den,U.den,hd,D.aV];exact .int _ _
      ·simp only[den,U.den,hd,D.aV]
       have FV:=FV.1
       refine dA.2 ⟨_,rfl,?_,?_⟩
       ·show i64.min≤_;simp[IntKind.min,IntKind.signed,IntKind.bits];try omega
       ·show _≤i64.max;simp[IntKind.max,IntKind.signed,IntKind.bits];simp only[maxLen]at FV;omega
    ·cases h
   ·cases h
  ·cases h
 ·cases h
theorem EL{ops:Array Oper}{e:jI}(hs:iq n w0 S0 C G σ a w)(hg:o.guard=none)(h:HF P σ o=some e)(iw: ∀it∈e.items,eU C Φ Pre it)(bP:e.yh.2.lt C.N=true)(eT: ∀d,o.dst=some d→d<n):
  fQ P n w0 S0 C (e.app σ) p ops a w o:=by
 unfold HF at h
 split at h
 ·rename_i t x i ho
  split at h
  ·rename_i el g u ie k hu hx hi
   split at h
   ·rename_i ee T E9
    split at h
    ·rename_i iY
     injection h with h;subst h
     obtain⟨hl,hex,ir⟩:=rS E9
     obtain⟨hM,hv,A,kk,cap,Hc⟩:=cK hs.t (pc:=[]) rfl hx
     obtain⟨y1,y2,y3⟩:=dX hs.t (pc:=[]) rfl hi
     obtain⟨m,hm,_⟩:=dA.1 y3
     have cI:=hs.m.own _ _ _ _ hl
     obtain⟨l,hd,FV,_⟩:=bK.1 cI.has
     have fX:eU C Φ Pre (.lM [] (.bin .and (.bin .le (.aT k 0) ie) (.bin .lt ie (.un .len ee)))):=iw _ (by simp)
     have hb:=fX.2 rfl
     simp only[den,B.den,U.den,hd,hm,D.aq,D.gV,D.aV,bc,bQ]at hb
     obtain⟨hb0,xA⟩:=hb
     obtain⟨xs,l',kO,⟨_,hh⟩,_⟩:=cI.own
     rw[hd]at kO;injection kO with kO;subst kO
     rcases hh with⟨_,hn⟩|⟨b,HB,cur,pn,_⟩
     ·omega
     ·have Jn:a.eval i= .int k m:=(hm▸y2).cX
      have E7:a.eval x= .slice (some ⟨b,0,none⟩) l.length HB:=by rw[hv,pn]
      refine Mj (v:=.pointer (some ⟨b,m.toNat*u.cells.length,none⟩)) hs hg ?_ rfl (Ax hl) rfl rfl bP ?_ eT
      ·have h1:=jd (P:=P) (w:=w) iY
       unfold execOp;simp only[ho,E7,Jn,Instr.indexAt,asIntOf]
       simp[run_underlying hu,hb0,xA,h1,gF]
      ·refine⟨hM,y1,b,HB,l.length,pn,?_,?_,?_⟩
       ·rw[hm];exact hb0
       ·rw[hm];simp only[D.aq];omega
       ·rw[hm];simp only[D.aq];rw[ep]
    ·cases h
   ·cases h
  ·cases h
 ·cases h
theorem uQ{N:Nat}: ∀(l:List E),(E.dJ l).lt N=true↔ ∀e∈l,e.lt N=true
 | [] =>by simp[E.dJ,E.lt]
 |e::l=>by simp[E.dJ,E.lt,uQ l]
theorem GH: ∀{fs:Ty} {l0 l:List D},dK fs l0→dK (.dJ fs.aV) l→dK fs l
 |.nil,_,l,_,h=>h
 |.cons a b,l0,l,h0,h=>by
  obtain⟨_,r0,_,_,Xd⟩:=aj.1 h0
  obtain⟨x,r,rfl,hx,hr⟩:=aj.1 h
  exact aj.2 ⟨x,r,rfl,hx,GH Xd hr⟩
 |.int _,_,_,h,_| .bool,_,_,h,_| .str,_,_,h,_| .list _,_,_,h,_| .agg _,_,_,h,_| .fx _,_,_,h,_| .box _,_,_,h,_| .ptr _,_,_,h,_| .fn _ _,_,_,h,_=>h.elim
theorem I4{u:Ty}{d:D}(hs:u.scalar=true)(h:Has u d):u.cells=[u] ∧d.cells=[d] :=by
 have hu:u.cells=[u] :=by cases u<;>first|rfl|cases hs
 refine⟨hu,?_⟩
 cases d<;>first|rfl|(rename_i l;exfalso;cases u<;>simp[Ty.scalar]at hs<;>simp[dA,dz,oa,bK,jH,m9,mo]at h)
theorem QB{u:Ty}{el x:E}{off:Nat}{es:List E}{ts:List Ty}(h:Mq u el off es=some x)(Fb:el.lt C.N=true)(rI:(E.dJ es).lt C.N=true)(hu:Has u (den C.ρ el))
  (hle:off+es.length≤u.cells.length) (rH:ts=(u.cells.drop off).take es.length) (hh:dK (.dJ ts) (es.map (den C.ρ))):
  x.lt C.N=true∧Has u (den C.ρ x)∧ ∀(j:Nat) c,(den C.ρ x).cells[j]? =some c→if off≤j∧j<off+es.length then(es[j-off]?).map (den C.ρ)=some c else(den C.ρ el).cells[j]? =some c:=by
 have Fu:=(uQ es).1 rI
 unfold Mq at h
 split at h
 ·rename_i fs
  injection h with h;subst h
  obtain⟨l0,Xg,hh0⟩:=eN.1 hu
  have hlen:=il hh0
  have BZ:((kK el 0 fs.aV).map (·.1)).map (den C.ρ)=l0:=by
   apply gi
   intro i
   simp only[ah,n3,Option.map_map]
   cases hi:(fs.aV)[i]? with
   |none=>
    have:l0.length≤i:=by rw[hlen];exact eO.1 hi
    simp[fM this]
   |some t=>
    obtain⟨y,hy,_⟩:=dY hh0 i t hi
    simp only[aP,Function.comp,den,U.den,Xg,D.aV,ay,hZ hy,hy]
  have aBG:off+es.length≤l0.length:=by rw[hlen];exact hle
  have gA:den C.ρ (.un .agg (.dJ (((kK el 0 fs.aV).map (·.1)).take off++es++((kK el 0 fs.aV).map (·.1)).drop (off+es.length))))= .agg (l0.take off++es.map (den C.ρ)++l0.drop (off+es.length)):=by
   simp only[den,gG,U.den,D.aV,cz,List.map_take,List.map_drop,BZ]
  have C4: ∀(j:Nat) c,(l0.take off++es.map (den C.ρ)++l0.drop (off+es.length))[j]? =some c→if off≤j∧j<off+es.length then(es[j-off]?).map (den C.ρ)=some c else l0[j]? =some c:=by
   intro j c hj
   have h1:(l0.take off).length=off:=by rw[bj];omega
   split
   ·rename_i hc
    rw[aB (by simp[h1];omega),aF (by omega),h1]at hj
    simpa using hj
   ·rename_i hc
    by_cases hjo:j<off
    ·rw[aB (by simp[h1];omega),aB (by omega),aG,if_pos hjo]at hj;exact hj
    ·rw[aF (by simp[h1];omega)]at hj
     simp only[an,h1,aw,aO]at hj
     rw[show off+es.length+(j-(off+es.length))=j by omega]at hj;exact hj
  refine⟨?_,?_,?_⟩
  ·simp only[E.lt]
   rw[uQ]
   have jY: ∀e∈(kK el 0 fs.aV).map (·.1),e.lt C.N=true:=by
    intro e he
    obtain⟨i,hi⟩:=aE he
    simp only[ah,n3,Option.map_map,da]at hi
    obtain⟨_,_,rfl⟩:=hi
    simpa [E.lt]using Fb
   intro e he
   simp only[aS]at he
   rcases he with(he|he)|he
   ·exact jY e (eK he)
   ·exact Fu e he
   ·exact jY e (eL he)
  ·rw[gA]
   refine eN.2 ⟨_,rfl,GH hh0 (jQ ?_ fun j t y hj hy=> ?_)⟩
   ·simp only[an,bj,aw,bF];omega
   ·have:=C4 j y hy
    split at this
    ·rename_i hc
     have ht:ts[j-off]? =some t:=by
      rw[rH,aG,if_pos (by omega),aO,show off+(j-off)=j by omega];exact hj
     obtain⟨z,hz,hzt⟩:=dY hh (j-off) t (by rw[Ty.fa];exact ht)
     simp only[ah]at hz
     rw[this]at hz;injection hz with hz;subst hz;exact hzt
    ·obtain⟨z,hz,hzt⟩:=dY hh0 j t hj
     rw[this]at hz;injection hz with hz;subst hz;exact hzt
  ·rw[gA]
   intro j c hj
   have:=C4 j c hj
   rw[Xg];exact this
 ·rename_i x' _
  split at h
  ·rename_i hc
   obtain⟨rfl,mf⟩:=hc
   injection h with h;subst h
   have hxx:Has u (den C.ρ x'):=by
    have qZ:u.cells=[u] :=by cases u<;>first|rfl|cases mf
    rw[qZ]at rH
    simp at rH
    subst rH
    obtain⟨z,hz,hzt⟩:=dY hh 0 u (by simp[Ty.dJ,Ty.aV])
    simp at hz;subst hz;exact hzt
   refine⟨Fu x' (by simp),hxx,fun j c hj=> ?_⟩
   rw[(I4 mf hxx).2]at hj
   cases j with
   |zero=>simp at hj⊢;exact hj
   |succ j=>simp at hj
  ·cases h
 ·cases h
theorem EK{ops:Array Oper}{e:jI}(hs:iq n w0 S0 C G σ a w)(hg:o.guard=none)(h:HD P σ o=some e):fQ P n w0 S0 C (e.app σ) p ops a w o:=by
 unfold HD at h
 split at h
 ·rename_i t x y ho
  split at h
  ·rename_i g i u off es ts sz hx hy iY
   split at h
   ·rename_i el T E9
    split at h
    ·rename_i lQ
     obtain⟨hn,hle,rH,mf,hd⟩:=lQ
     simp only[da]at h
     obtain⟨xe,Lp,rfl⟩:=h
     obtain⟨hl,hex,ir⟩:=rS E9
     obtain⟨hM,Yq,b,cap,k,iI,Sh,PM,hv⟩:=cK hs.t (pc:=[]) rfl hx
     obtain⟨cur,l,kR,gA,LD,iG,aBN,Lr,hr⟩:=hs.m.aau hl iI
     obtain⟨d,_,hld,z8,hdh,_⟩:=hs.m.UM (i:=i) hl iI PM
     rw[gA]at hld
     simp only[D.aV]at hld
     generalize hI:(den C.ρ i).aq.toNat=I at*
     have PF:=(cN hdh).1
     obtain⟨us,PI,XD⟩: ∃us:List Value,(a.eval y).cells=us.toArray∧(E.dJ es).lt C.N=true∧es.length=us.length∧ts.length=us.length∧(∀(i:Nat) v e,us[i]? =some v→es[i]? =some e→cH w G.S v (den C.ρ e))∧dK (.dJ ts) (es.map (den C.ρ))∧ ∀u∈us,u.oneCell'=true:=by
      cases hgy:gu P σ [] y t with
      |none=>simp[hgy]at hy
      |some sv=>
       simp only[hgy,cu]at hy
       cases hac:oc sv with
       |none=>simp[hac]at hy
       |some csl=>
        simp only[hac,cu]at hy
        have ald:csl.all SC.scalar=true:=by
         rw[cn]
         intro c hc
         obtain⟨j,hj⟩:=aE hc
         have: ∀{l:List SC} {es:List E} {ts:List Ty} {j:Nat} {c:SC},iO l=some (es,ts)→ts.all Ty.scalar=true→l[j]? =some c→c.scalar=true:=by
          intro l
          induction l with
          |nil=>intro es ts j c _ _ hj;simp at hj
          |cons c0 l ih=>
           intro es ts j c h hs hj
           simp only[iO]at h
           split at h
           ·rename_i e0 t0 wY Xr h1 h2
            obtain⟨rfl,rfl⟩:=jC h
            simp only[List.all_cons,bc]at hs
            cases j with
            |zero=>
             simp at hj;subst hj
             cases c0<;>simp only[asData]at h1<;>first
              |rfl
              |(obtain⟨_,rfl⟩:=jC h1;exact hs.1)
            |succ j=>exact ih h2 hs.2 (by simpa using hj)
           ·cases h
         exact this hy mf hj
        obtain⟨us,h1,h2⟩:=tk hac (cK hs.t (pc:=[]) rfl hgy) ald
        obtain⟨m1,m2,m3,m4,m5⟩:=n4 hy h2
        refine⟨us,h1,m1,m2,m3,m4,m5,fun v hv=> ?_⟩
        obtain⟨j,hj⟩:=aE hv
        have lZ:j<us.length:=(aH.1 hj).1
        have hcj:csl[j]? =some (csl[j]'(by rw[←h2.1];exact lZ)):=aW _
        exact(h2.2 j _ v hcj hj).ko (cn.1 ald _ (ca hcj))
     obtain⟨aoz,Fu,aBB,jf,hhl,kv⟩:=XD
     have avI:(E.bin .idx el i).lt C.N=true:=by simp[E.lt,(hs.m.own _ _ _ _ hl).lt,Yq]
     obtain⟨au6,hxh,W8⟩:=QB (C:=C) Lp avI aoz (by rw[z8];exact hdh) (by rw[hn];exact hle) (by rw[hn];exact rH) hhl
     rw[z8]at W8
     generalize kO:den C.ρ xe=d' at*
     have hIl:I<l.length:=by omega
     have aBA:=(cN hxh).1
     let l':=l.take I++d'::(l.drop I).drop 1
     have VE:l'.length=l.length:=by simp only[l',an,bj,bM,bF];omega
     have alM:den C.ρ (yC el i xe)= .list l':=by
      have:den C.ρ (yC el i xe)= .list (l.take (den C.ρ i).aq.toNat++d'::(l.drop (den C.ρ i).aq.toNat).drop 1):=by simp only[yC,den,B.den,gA,D.aV,kO];rfl
      rw[this,hI]
     have VF: ∀(q:Nat) dd,l'[q]? =some dd→(q=I∧dd=d')∨(q≠I∧l[q]? =some dd):=by
      intro q dd hq
      have h1:(l.take I).length=I:=by rw[bj];omega
      by_cases hqi:q<I
      ·simp only[l']at hq
       rw[aB (by omega),aG,if_pos hqi]at hq
       exact .inr ⟨by omega,hq⟩
      ·simp only[l']at hq
       rw[aF (by omega),h1]at hq
       by_cases hqe:q=I
       ·rw[hqe,Nat.sub_self]at hq;simp at hq;exact .inl ⟨hqe,hq.symm⟩
       ·rw[show q-I=(q-I-1)+1 by omega,du,aO,aO]at hq
        rw[show I+(1+(q-I-1))=q by omega]at hq
        exact .inr ⟨hqe,hq⟩
     have hbound:(I+1)*u.cells.length≤k*u.cells.length:=az _ (by omega)
     have xz:(I+1)*u.cells.length=I*u.cells.length+u.cells.length:=by rw[cw,Nat.one_mul]
     have lz:I*u.cells.length+off+us.length≤cur.size:=by omega
     have oZ:=run_storeCells_at P b (I*u.cells.length+off) T us 0 cur w kR (by simpa using lz) kv
     simp only[ep]at oZ
     have fh:(execOp a.eval o).run P w= .ok .skip (w.setRow b (cur.toList.take (I*u.cells.length+off)++us++cur.toList.drop (I*u.cells.length+off+us.length)).toArray):=by
      have h1:=jd (P:=P) (w:=w) iY
      unfold execOp;simp only[ho,hv,Instr.storeAt,Instr.sureAddr]
      simp[storeVar,h1,PI,oZ,←Fu,hn]
     intro K Q hK
     have hw:Region.wanted o (yielded ops a.tmps)=true:=by unfold Region.wanted;rw[hg]
     rw[hw,if_pos rfl]
     unfold Oper.wp
     rw[fh]
     obtain⟨cp,hm⟩:=hs.m.atM hl hex (e':=yC el i xe) (live':=fg σ.live [(g,some (yC el i xe,T,u))]) (l':=l') (row:=(cur.toList.take (I*u.cells.length+off)++us++cur.toList.drop (I*u.cells.length+off+us.length)).toArray)
      (by
       intro g' x' lv
       rw[vY,dM]at lv
       have lv:(if g'=g then some (yC el i xe,T,u) else σ.live g')=some x':=lv
       by_cases he:g'=g
       ·rw[if_pos he]at lv;injection lv with lv;exact .inr ⟨he,lv.symm⟩
       ·rw[if_neg he]at lv;exact .inl ⟨he,lv⟩) iI kR (by simp;omega)
      (by simp[yC,E.lt,(hs.m.own _ _ _ _ hl).lt,Yq,au6]) alM (by rw[VE,LD])
      (by
       rw[alM]
       refine bK.2 ⟨l',rfl,by rw[VE,LD];exact Lr,fun z hz=> ?_⟩
       obtain⟨q,hq⟩:=aE hz
       rcases VF q z hq with⟨_,rfl⟩|⟨_,Hd⟩
       ·exact hxh
       ·exact iG z (ca Hd))
      (by
       intro q dd j v c hq hj zN
       have AU:(cur.toList.take (I*u.cells.length+off)).length=I*u.cells.length+off:=by
        have jY:cur.toList.length=cur.size:=by simp
        rw[bj,jY];omega
       have afH: ∀z,(z<I*u.cells.length+off∨I*u.cells.length+off+us.length≤z)→(cur.toList.take (I*u.cells.length+off)++us++cur.toList.drop (I*u.cells.length+off+us.length)).toArray[z]? =cur[z]? :=by
        intro z hz
        rw[dq]
        rcases hz with hz|hz
        ·rw[aB (by rw[an,AU];omega),aB (by omega),aG,if_pos hz];simp
        ·rw[aF (by rw[an,AU];omega),aO,an,AU]
         rw[show I*u.cells.length+off+us.length+(z-(I*u.cells.length+off+us.length))=z by omega];simp
       have BQ: ∀(q:Nat) dd,l[q]? =some dd→dd.cells[j]? =some c→(q*u.cells.length+j<I*u.cells.length+off∨I*u.cells.length+off+us.length≤q*u.cells.length+j)→(cur.toList.take (I*u.cells.length+off)++us++cur.toList.drop (I*u.cells.length+off+us.length)).toArray[q*u.cells.length+j]? =some v→cH w G.S v c:=by
        intro q dd hq hj hz zN
        rw[afH _ hz]at zN
        obtain⟨v0,ym,FR⟩:=hr q dd j c hq hj
        rw[zN]at ym;injection ym with ym;subst ym;exact FR
       rcases VF q dd hq with⟨rfl,rfl⟩|⟨fY,Hd⟩
       ·have hc:=W8 j c hj
        split at hc
        ·rename_i hjo
         rw[dq,aB (by rw[an,AU];omega),aF (by omega),AU]at zN
         rw[show q*u.cells.length+j-(q*u.cells.length+off)=j-off by omega]at zN
         cases PS:es[j-off]? with
         |none=>rw[PS]at hc;cases hc
         |some ee=>
          rw[PS]at hc
          simp only[aP,ae]at hc
          rw[←hc]
          exact jf _ v ee zN PS
        ·rename_i hjo
         exact BQ q d hld hc (by omega) zN
       ·have lZ:j<u.cells.length:=by rw[←(cN (iG dd (ca Hd))).1];exact(aH.1 hj).1
        refine BQ q dd Hd hj ?_ zN
        rcases Nat.lt_or_gt_of_ne fY with h1|h1
        ·have:(q+1)*u.cells.length≤I*u.cells.length:=az _ h1
         rw[cw]at this;omega
        ·have:(I+1)*u.cells.length≤q*u.cells.length:=az _ h1
         omega)
     have J3:=cp.trans (dT.pV C _ G p)
     exact hK _ _ _ (hs.step (o:=o) (e:=⟨none,([],.agg []),[],[(g,some (yC el i xe,T,u))],[],[]⟩) J3 ((hm.pV p).congr (dM _) rfl) hd.symm rfl (by simp)
      (v:=undef) (by rintro⟨d,kO⟩;rw[hd]at kO;cases kO) (by intro d kO;rw[hd]at kO;cases kO))
    ·cases h
   ·cases h
  ·cases h
 ·cases h
end
section
variable{P:Program}{C:Cx}{w w0:World}{S0:iu}{G:Gh}{σ:St}{a:Act}{o:Oper}{pc:dI}{s:SV}{is:List Item}{Φ:Nat→List D→D}{Pre:Nat→List D→Prop}{n p:Nat}{cs:o3}
theorem IC{ops:Array Oper}{g:Option Tag}{e1 e2:E}{T:TypeId}{t:Ty}{b:Nat}(hs:iq n w0 S0 C G σ a w)(hp: ¬C.M p)(hg:guardOf ops σ o=some [])
  (h:Dw P σ o=some (g,e1,e2,T,t,b)) (iw:eU C Φ Pre (.room [] (.bin .cat e1 e2) b)) (eT: ∀d,o.dst=some d→d<n) (items:List Item) (qp: ¬S0.fr) (mg: ¬S0.wz):
  fQ P n w0 S0 C ((⟨o.dst,([],.one (.xo (p,1000) t)),[],(match g with|some g=> [(g,none)] |none=> [])++[((p,1000),some (.bin .cat e1 e2,T,t))],[],items⟩:jI).app σ) p ops a w o:=by
 intro K Q hK
 obtain⟨hw,hc⟩:=gg hs.t hg
 rw[hw]
 simp only[aU,bW,if_true]
 unfold Dw at h
 split at h
 ·rename_i args argTypes ho
  split at h
  ·rename_i sx x tt tt' fP B0
   split at h
   ·rename_i el sv ex u hu E8 hx
    split at h
    ·rename_i ie u' vL R4
     split at h
     ·rename_i lQ
      obtain⟨rfl,rfl,Fq,ir,Dh,hzero,Fw⟩:=lQ
      obtain⟨y1,y2,y3⟩:=dX hs.t (pc:=[]) rfl hx
      obtain⟨l2,qq,alC,rO⟩:=bK.1 y3
      have Fa: ∀d∈l2,d.cells.length=u.cells.length:=fun d hd=>(cN (rO d hd)).1
      obtain⟨A,c,news,E7,hA,yo,zZ,BS⟩:=(qq▸y2).source Fa
      obtain⟨z,hz,yl⟩: ∃z,ie.zero=some z∧z.cells.size=ie.size:=by
       cases hq:ie.zero with
       |none=>simp[hq]at hzero
       |some z=>exact⟨z,rfl,by simpa [hq]using hzero⟩
      have main: ∀(v:Value) (tH:E) (g':Option Tag),a.eval sx=v→tH.lt C.N=true→(∃l1 xs,den C.ρ tH= .list l1∧(∀d∈l1,Has u d)∧w.ownsRow 0 el u.cells.length v l1.length xs∧
        (∀(i:Nat) d (j:Nat) u' c,l1[i]? =some d→d.cells[j]? =some c→xs[i*u.cells.length+j]? =some u'→cH w G.S u' c)∧
        (v= .slice none 0 0∧g'=none∨ ∃g x,g'=some g∧σ.live g=some x∧G.τ g=v∧ ∀b,v.ownBlock=some b→(∀o,G.S b o↔Tag.ex (p,1000)=false∧o<xs.length)))→
        eU C Φ Pre (.room [] (.bin .cat tH ex) ie.bytes)→
        (∀a' w' G',iq n w0 S0 (C.add p) G' ((⟨o.dst,([],.one (.xo (p,1000) u)),[],(match g' with|some g=> [(g,none)] |none=> [])++[((p,1000),some (.bin .cat tH ex,el,u))],[],items⟩:jI).app σ) a' w'→K a' w')→
        o.wp P a w K Q:=by
       rintro v tH g' hv Ci ⟨l1,xs,xy,rP,dm,Z5,hold⟩ xg hK
       have gA:den C.ρ (.bin .cat tH ex)= .list (l1++l2):=by simp only[den,B.den,xy,qq,D.aV]
       obtain⟨Xd,EZ⟩:=xg
       have nK:=EZ rfl
       rw[gA]at nK
       simp only[D.aV,an]at nK
       have kv: ∀w∈news,w.oneCell'=true:=by
        intro uu huu
        obtain⟨q,hq⟩:=aE huu
        have FU:q<news.length:=(aH.1 hq).1
        have Z8:0<u.cells.length:=by omega
        have hi:q/u.cells.length<l2.length:=by rw[fL Z8,←yo];exact FU
        have hj:q % u.cells.length<u.cells.length:=Nat.mod_lt _ Z8
        have hd:l2[q/u.cells.length]? =some (l2[q/u.cells.length]'hi):=aW hi
        have jA:u.cells[q % u.cells.length]? =some (u.cells[q % u.cells.length]'hj):=aW hj
        obtain⟨cc,qt,Hw⟩:=(cN (rO _ (ca hd))).2 _ _ jA
        have XF:q/u.cells.length*u.cells.length+q % u.cells.length=q:=by rw[Nat.mul_comm];exact Nat.div_add_mod _ _
        exact(BS _ _ _ uu cc hd qt (by rw[XF];exact hq)).ko Hw (cn.1 Dh _ (aX hj))
       obtain⟨v',w',fh,yJ,gY⟩:=jW (P:=P) w 0 tt o.type el ie z u.cells.length hu vL hz Fq.symm (by rw[yl,Fq]) v l1.length xs dm A l2.length c news hA yo zZ kv nK.1 nK.2 (bf _)
       have rN:(execOp a.eval o).run P w= .ok (.value v') w':=by
        have ha1:args= #[sx,x] :=by apply dg;simpa using fP
        have ha2:argTypes= #[tt,tt] :=by apply dg;simpa using B0
        unfold execOp;simp only[ho,resolve,invoke,builtin,ha1,ha2]
        simp[hv,E7,fh]
       unfold Oper.wp
       rw[rN]
       have XN: ∀g,g'=some g→g≠(p,1000):=by
        intro g PO he
        rcases hold with⟨_,h2⟩|⟨g0,x0,h2,h3,_⟩
        ·rw[h2]at PO;cases PO
        ·rw[h2]at PO;injection PO with PO;subst PO;subst he
         exact fR hs.m hp h3 rfl
       obtain⟨G',cp,hm,iI⟩:=hs.m.appended hp 1000 (v:=v) (v':=v') (T:=el) (t:=u) (n:=l1.length) (m:=l2.length) (xs:=xs) (news:=news) (l:=l1) (l2:=l2) (e2:=.bin .cat tH ex)
        (by omega) rfl rfl Z5 BS (fun d hd=>(cN (rP d hd)).1) dm.1 yJ gY (fg σ.live ((match g' with|some g=> [(g,none)] |none=> [])++[((p,1000),some (.bin .cat tH ex,el,u))]))
        (by
         rcases hold with⟨h1,_⟩|⟨g0,x0,h2,h3,h4,h5⟩
         ·exact .inl h1
         ·refine .inr ⟨g0,x0,h3,h4,?_,fun b hb=>⟨h5 b hb,fun o' u' zY=> ?_⟩⟩
          ·rw[h2];simp[fg,lk]
          ·have:=dm.cells (g:=b) hb o' u' zY
           rw[gF,ay]at this;exact this)
        (by simp[E.lt,Ci,y1]) gA (by rw[gA];exact bK.2 ⟨_,rfl,⟨by simpa using nK.1,by rw[←Fw];simpa using nK.2⟩,fun d hd=>by rcases aS.1 hd with h|h;exact rP d h;exact rO d h⟩)
        (by
         intro g0 x0 jL
         unfold fg at jL
         cases g' with
         |none=>
          simp only[eI,lk]at jL
          by_cases he:g0=(p,1000)
          ·rw[if_pos he]at jL;simp only[ae]at jL;exact .inr ⟨he,jL.symm⟩
          ·rw[if_neg he]at jL;exact .inl ⟨he,jL⟩
         |some g1=>
          simp only[er,eI,lk]at jL
          by_cases Ci:g0=g1
          ·rw[if_pos Ci]at jL;cases jL
          ·rw[if_neg Ci]at jL
           by_cases he:g0=(p,1000)
           ·rw[if_pos he]at jL;simp only[ae]at jL;exact .inr ⟨he,jL.symm⟩
           ·rw[if_neg he]at jL;exact .inl ⟨he,jL⟩)
        (fun lE=>absurd lE qp) mg
       have F9:=hm.own (p,1000) (.bin .cat tH ex) el u (by
        show fg σ.live _ (p,1000)=_
        unfold fg
        cases g' with
        |none=>simp[lk]
        |some g1=>simp[lk,Ne.symm (XN g1 rfl)])
       exact hK _ _ _ (hs.step (o:=o) (e:=⟨o.dst,([],.one (.xo (p,1000) u)),[],(match g' with|some g=> [(g,none)] |none=> [])++[((p,1000),some (.bin .cat tH ex,el,u))],[],items⟩) cp (hm.congr (dM _) rfl) rfl
        (rfl) (by simp)
        (by
         intro _
         simp only[aU,bW,if_true]
         refine⟨.inr rfl,iI.symm,?_⟩
         rcases yJ.2 with⟨hv,_⟩|⟨b,cap,cur,hv,_⟩
         ·exact⟨_,_,_,hv⟩
         ·exact⟨_,_,_,hv⟩) eT)
      split at h
      ·rename_i v
       split at h
       ·rename_i hvu
        obtain⟨rfl,rfl,rfl,rfl,rfl,rfl⟩:=zP6 h
        have hv:=cK hs.t (pc:=[]) rfl E8
        refine main (.slice none 0 0) .nil none hv rfl ⟨[],[],rfl,by simp,eR w _ _ _,by simp,.inl ⟨rfl,rfl⟩⟩ iw hK
       ·cases h
      ·rename_i g0 v
       split at h
       ·rename_i tH T' E9
        split at h
        ·rename_i UA
         obtain⟨rfl,rfl⟩:=UA
         obtain⟨cJ,ou,_⟩:=rS E9
         obtain⟨rfl,rfl,rfl,rfl,rfl,rfl⟩:=zP6 h
         have hv:=cK hs.t (pc:=[]) rfl E8
         have cI:=hs.m.own _ _ _ _ cJ
         obtain⟨xs,l1,xy,dm,mU,hr⟩:=cI.own
         have hh:=cI.has
         rw[xy]at hh
         obtain⟨l1',Ma,_,rP⟩:=bK.1 hh
         injection Ma with Ma;subst Ma
         exact main (G.τ g0) tH (some g0) hv.2.1 cI.lt ⟨l1,xs,xy,rP,dm,hr,.inr ⟨g0,_,rfl,cJ,rfl,fun b hb o=>(mU b hb o).trans (by rw[ou];rfl)⟩⟩ iw hK
        ·cases h
       ·cases h
      ·cases h
     ·cases h
    ·cases h
   ·cases h
  ·cases h
 ·cases h
theorem j7.at4{base:Nat}{g:Tag}{e:E}{T:TypeId}{t:Ty}(h:j7 C w base G g e T t)(iY:0<t.cells.length){S':bU}(XQ: ∀b o,G.S b o→S' b o)(XR: ∀b o,(G.τ g).ownBlock=some b→S' b o):cH w S' (G.τ g) (den C.ρ e):=by
 obtain⟨xs,l,hd,dm,hS,hr⟩:=h.own
 rw[hd]
 obtain⟨hl,hh⟩:=dm
 rcases hh with⟨hv,hn⟩|⟨b,cap,cur,hv,hb,hg,zZ,Jg,kP,xf⟩
 ·have:l=[] :=au hn
  subst this
  rw[hv];exact .nil none 0
 ·have iR:=h.has
  rw[hd]at iR
  obtain⟨l',lD,_,hx⟩:=bK.1 iR
  injection lD with lD;subst lD
  by_cases fY:l=[]
  ·subst fY;rw[hv];exact .nil _ cap
  ·rw[hv]
   refine .list b 0 cap t.cells.length xs l iY fY zZ hl (fun i hi=> ?_) (fun i v hi=> ?_) (fun i d kO=> ?_) (fun i d j v c h1 h2 h3=>(hr i d j v c h1 h2 h3).keep XQ (fun _ _ _=>rfl))
   ·exact XR b _ (by rw[hv];rfl)
   ·rw[ay,cell_of_row w b i cur T (0,0) hg]
    rw[←xf,aG]at hi
    split at hi
    ·simpa using hi
    ·cases hi
   ·exact(cN (hx d (ca kO))).1
def uK(G:Gh)(σ:St):bU:=fun b o=>G.S b o∨ ∃g x,σ.live g=some x∧(G.τ g).ownBlock=some b
theorem EH(hm:fp w0 S0 C G σ w){c:SC}{e:E}{t:Ty}{l:List (Tag×Option (E×TypeId×Ty))}{v:Value}(h:pz σ c=some ((e,t),l))(hr:tJ C w G c v):
  (e.lt C.N=true∧cH w (uK G σ) v (den C.ρ e)∧Has t (den C.ρ e))∧ ∀y∈l,σ.live y.1=y.2∧y.2.isSome=true:=by
 have plain:(asData c).map (fun x=>(x,([] :List (Tag×Option (E×TypeId×Ty)))))=some ((e,t),l)→(e.lt C.N=true∧cH w (uK G σ) v (den C.ρ e)∧Has t (den C.ρ e))∧ ∀y∈l,σ.live y.1=y.2∧y.2.isSome=true:=by
  intro h
  simp only[da,ai]at h
  obtain⟨x,hx,rfl,rfl⟩:=h
  obtain⟨h1,h2,h3⟩:=mE hx hr
  exact⟨⟨h1,h2.keep (fun _ _ h=>.inl h) (fun _ _ _=>rfl),h3⟩,by simp⟩
 cases c with
 |xo g t'=>
  simp only[pz]at h
  split at h
  ·rename_i e' T E9
   injection h with h;simp only[ai]at h;obtain⟨⟨rfl,rfl⟩,rfl⟩:=h
   obtain⟨hl,_,ir⟩:=rS E9
   have cI:=hm.own _ _ _ _ hl
   refine⟨⟨cI.lt,?_,cI.has⟩,?_⟩
   ·rw[hr.2.1]
    exact cI.at4 ir (fun _ _ h=>.inl h) (fun b o hb=>.inr ⟨g,_,hl,hb⟩)
   ·intro y hy
    simp only[aA]at hy;subst hy
    exact⟨hl,rfl⟩
  ·cases h
 |_=>exact plain h
theorem BA(hm:fp w0 S0 C G σ w): ∀{cl:List SC} {es:List E} {ts:List Ty} {l:List (Tag×Option (E×TypeId×Ty))} {vs:List Value},lf σ cl=some ((es,ts),l)→lA C w G cl vs→
  ((E.dJ es).lt C.N=true∧es.length=vs.length∧(∀(i:Nat) v e,vs[i]? =some v→es[i]? =some e→cH w (uK G σ) v (den C.ρ e))∧dK (.dJ ts) (es.map (den C.ρ)))∧ ∀y∈l,σ.live y.1=y.2∧y.2.isSome=true
 | [],es,ts,l,vs,h,hr=>by
  simp only[lf,ae,ai]at h
  obtain⟨⟨rfl,rfl⟩,rfl⟩:=h
  have hv:vs=[] :=au hr.1
  subst hv
  exact⟨⟨rfl,rfl,by intro i v e hi;simp at hi,dr.2 rfl⟩,by simp⟩
 |c::cl,es,ts,l,vs,h,hr=>by
  simp only[lf]at h
  split at h
  ·rename_i e t l1 wY Xr ls h1 h2
   injection h with h;simp only[ai]at h;obtain⟨⟨rfl,rfl⟩,rfl⟩:=h
   cases vs with
   |nil=>have:=hr.1;simp at this
   |cons v vs=>
    have E0:lA C w G cl vs:=⟨by simpa using hr.1,fun i c v hi hv=>hr.2 (i+1) c v (by simpa using hi) (by simpa using hv)⟩
    obtain⟨⟨k1,k2,k4,k5⟩,k6⟩:=BA hm h2 E0
    obtain⟨⟨m1,m2,m3⟩,m6⟩:=EH hm h1 (hr.2 0 c v rfl rfl)
    refine⟨⟨by simp[E.dJ,E.lt,m1,k1],by simp[k2],?_,aj.2 ⟨_,_,rfl,m3,k5⟩⟩,fun y hy=> ?_⟩
    ·intro i u e' hi he
     cases i with
     |zero=>simp at hi he;subst hi;subst he;exact m2
     |succ i=>exact k4 i u e' (by simpa using hi) (by simpa using he)
    ·rcases aS.1 hy with hy|hy
     ·exact m6 y hy
     ·exact k6 y hy
  ·cases h
theorem Lj(hm:fp w0 S0 C G σ w){s:SV}{e:E}{t:Ty}{l:List (Tag×Option (E×TypeId×Ty))}{v:Value}(h:oU σ s=some ((e,t),l))(hr:Ab C w G s v):
  (e.lt C.N=true∧cH w (uK G σ) v (den C.ρ e)∧Has t (den C.ρ e))∧ ∀y∈l,σ.live y.1=y.2∧y.2.isSome=true:=by
 cases s with
 |one c=>exact EH hm h hr
 |agg cl=>
  simp only[oU]at h
  split at h
  ·rename_i es ts ls h1
   injection h with h;simp only[ai]at h;obtain⟨⟨rfl,rfl⟩,rfl⟩:=h
   obtain⟨vs,rfl,hs⟩:=hr
   obtain⟨⟨k1,k2,k4,k5⟩,k6⟩:=BA hm h1 hs
   refine⟨⟨by simpa [E.lt]using k1,?_,?_⟩,k6⟩
   ·simp only[den,gG,U.den,D.aV]
    refine .agg vs _ (by simp[k2]) fun i v d hi hd=> ?_
    simp only[ah,da]at hd
    obtain⟨e,he,rfl⟩:=hd
    exact k4 i v e hi he
   ·simp only[den,gG,U.den,D.aV]
    exact eN.2 ⟨_,rfl,k5⟩
  ·cases h
 |fx l=>cases h
theorem Ee(hm:fp w0 S0 C G σ w)(ht:jO C w G σ.tm a){pc:dI}(eu:aU C.ρ pc=true): ∀{xs:List Operand} {rE:List TypeId} {es:List (E×Ty)} {l:List (Tag×Option (E×TypeId×Ty))},tP P σ pc xs rE=some (es,l)→
  (es.length=xs.length∧ ∀(i:Nat) x e,xs[i]? =some x→es[i]? =some e→e.1.lt C.N=true∧cH w (uK G σ) (a.eval x) (den C.ρ e.1)∧Has e.2 (den C.ρ e.1))∧ ∀y∈l,σ.live y.1=y.2∧y.2.isSome=true
 | [],[],es,l,h=>by
  simp only[tP,ae,ai]at h
  obtain⟨rfl,rfl⟩:=h
  exact⟨⟨rfl,by intro i x e hi;simp at hi⟩,by simp⟩
 |x::xs,t::ts,es,l,h=>by
  simp only[tP]at h
  split at h
  ·rename_i e l1 wY ls h1 h2
   obtain⟨rfl,rfl⟩:=jC h
   obtain⟨⟨k1,k2⟩,k3⟩:=Ee hm ht eu h2
   rw[dP]at h1
   obtain⟨sv,E8,h1⟩:=h1
   obtain⟨m1,m2⟩:=Lj hm (e:=e.1) (t:=e.2) h1 (cK ht eu E8)
   refine⟨⟨by simp[k1],fun i x' e' hi he=> ?_⟩,fun y hy=> ?_⟩
   ·cases i with
    |zero=>simp at hi he;subst hi;subst he;exact m1
    |succ i=>exact k2 i x' e' (by simpa using hi) (by simpa using he)
   ·rcases aS.1 hy with hy|hy
    ·exact m2 y hy
    ·exact k3 y hy
  ·cases h
 | [],_::_,_,_,h=>by cases h
 |_::_,[],_,_,h=>by cases h
theorem cH.bare{S S':bU}{v:Value}{d:D}{t:Ty}(h:cH w S v d)(ht:Has t d)(hb:t.bare=true):cH w S' v d:=by
 cases t<;>first|(cases hb;done)|skip
 ·obtain⟨n,rfl,_⟩:=dA.1 ht;rw[h.cX];exact .int _ _
 ·obtain⟨n,rfl⟩:=dz.1 ht;rw[h.iE];exact .bool _
 ·obtain⟨n,rfl⟩:=oa.1 ht;rw[h.Io];exact .str _
theorem k7.bare{w':World}{S S':bU}{τ:Nat→Value}{c:bD}{v:Value}{d:D}(h:k7 w' 0 S τ c v d)(hb:c.bare=true)(hS: ∀j T,c.2=some (j,T)→ ∀b,(τ j).ownBlock=some b→ ∀o,S' b o↔S b o):k7 w' 0 S' τ c v d:=by
 obtain⟨t,_|⟨j,T⟩⟩:=c
 ·exact⟨h.1.bare h.2 hb,h.2⟩
 ·obtain⟨rfl,⟨h1,h2,xs,l,h3,h4,h5,h6⟩⟩:=h
  refine⟨rfl,h1,h2,xs,l,h3,h4,fun b Sp o=>(hS j T rfl b Sp o).trans (h5 b Sp o),fun i d j' v c hi hj hv=> ?_⟩
  rw[h3]at h1
  obtain⟨l',lD,_,iG⟩:=bK.1 h1
  injection lD with lD;subst lD
  obtain⟨q1,q2⟩:=cN (iG d (ca hi))
  have lZ:j'<t.cells.length:=by rw[←q1];exact(aH.1 hj).1
  obtain⟨c',Hi,qt⟩:=q2 j' _ (aW lZ)
  rw[hj]at Hi;injection Hi with Hi;subst Hi
  exact(h6 i d j' v c hi hj hv).bare qt (cn.1 hb _ (aX lZ))
theorem iL.bare{w':World}{S S':bU}{τ:Nat→Value}{res:List (Bool×List bD)}{v:Value}{d:D}(h:iL w' 0 S τ res v d)(hb:(res.all fun c=>c.2.all bD.bare)=true)
  (hS: ∀j b,j∈cO res→(τ j).ownBlock=some b→ ∀o,S' b o↔S b o):iL w' 0 S' τ res v d:=by
 have uD: ∀c∈res,∀y∈c.2,∀j T,y.2=some (j,T)→j∈cO res:=by
  intro c hc y hy j T hj
  unfold cO
  exact dh.2 ⟨c,hc,bH.2 ⟨y,hy,by rw[hj];rfl⟩⟩
 have comp: ∀c∈res,∀v d,hH w' 0 S τ c v d→hH w' 0 S' τ c v d:=by
  intro c hc v d h
  have hbc:=cn.1 hb c hc
  unfold hH at h⊢
  split
  ·rename_i qZ
   rw[if_pos qZ]at h
   obtain⟨vs,ds,h1,h2,h3,h4,h5⟩:=h
   refine⟨vs,ds,h1,h2,h3,h4,fun i x u y hx hu hy=> ?_⟩
   have Jd:=ca hx
   exact(h5 i x u y hx hu hy).bare (cn.1 hbc x Jd) (fun j T hj b ju o=>hS j b (uD c hc x Jd j T hj) ju o)
  ·rename_i qZ
   rw[if_neg qZ]at h
   obtain⟨x,hx,h5⟩:=h
   have Jd:x∈c.2:=by rw[hx];simp
   exact⟨x,hx,h5.bare (cn.1 hbc x Jd) (fun j T hj b ju o=>hS j b (uD c hc x Jd j T hj) ju o)⟩
 rcases h with⟨c,rfl,h⟩|⟨fY,vs,ds,h1,h2,h3,h4,h5⟩
 ·exact .inl ⟨c,rfl,comp c (by simp) v d h⟩
 ·exact .inr ⟨fY,vs,ds,h1,h2,h3,h4,fun i x u y hx hu hy=>comp x (ca hx) u y (h5 i x u y hx hu hy)⟩
theorem Gx{α β:Type}[DecidableEq α] : ∀(l r:List (α×β)) (x:α),lk (l++r) x=match lk l x with|some v=>some v|none=>lk r x
 | [],r,x=>rfl
 |(k,v)::l,r,x=>by
  simp only[er,lk]
  split
  ·rfl
  ·exact Gx l r x
theorem Ej{l r:List (Tag×Option (E×TypeId×Ty))}(hl: ∀y∈l,σ.live y.1=y.2)(hp: ∀y∈l,∀z∈r,y.1≠z.1):fg σ.live (l++r)=fg σ.live r:=by
 funext g
 unfold fg
 rw[Gx]
 cases h:lk l g with
 |none=>rfl
 |some v=>
  have hm:=jK h
  have hn:lk r g=none:=by
   cases hr:lk r g with
   |none=>rfl
   |some u=>exact absurd (show((g,v):Tag×Option (E×TypeId×Ty)).1=((g,u):Tag×Option (E×TypeId×Ty)).1 from rfl) (hp (g,v) hm (g,u) (jK hr))
  rw[hn]
  exact(hl _ hm).symm
theorem FB{ops:Array Oper}{e:jI}(hs:iq n w0 S0 C G σ a w)(hp: ¬C.M p)(yn:p<C.N)(hg:guardOf ops σ o=some [])(h:Oe P cs σ p o=some e)
  (iF: ∀k sig,lk cs.l k=some sig→bh P k sig (Pre k) (Φ k)) (iw: ∀it∈e.items,eU C Φ Pre it) (bP:e.yh.2.lt C.N=true) (eT: ∀d,o.dst=some d→d<n) (qp: ¬S0.fr) (mg: ¬S0.wz):
  fQ P n w0 S0 C (e.app σ) p ops a w o:=by
 unfold Oe at h
 split at h
 ·rename_i f args argTypes ho
  split at h
  ·rename_i fe k es l hf rI
   split at h
   ·rename_i sig pq
    split at h
    ·rename_i lQ
     obtain⟨fX,jA,uj,H0,J6⟩:=lQ
     injection h with h;subst h
     intro K Q hK
     obtain⟨hw,hc⟩:=gg hs.t hg
     rw[hw,if_pos (show aU C.ρ [] =true from rfl)]
     obtain⟨f1,f2,f3⟩:=cK hs.t (pc:=[]) rfl hf
     obtain⟨fl,wM,N8⟩:=mo.1 f3
     have Hu:=dr.1 N8
     subst Hu
     obtain⟨Lt,PR,uI,hcr⟩:=(wM▸f2).xN
     have Hv:Lt=[] :=au (by simpa using uI)
     subst Hv
     obtain⟨⟨k1,k2⟩,hmarks⟩:=Ee hs.m hs.t (pc:=[]) rfl rI
     have iP:=iF _ _ pq
     have gA:(den C.ρ (.dJ (es.map (·.1)))).aV=es.map fun x=>den C.ρ x.1:=by rw[gG];simp[D.aV]
     have fh:(execOp a.eval o).run P w= .ok (.enter k (args.toList.map a.eval).toArray) w:=by
      have e1:(args.toList.map a.eval).toArray=args.map a.eval:=by apply dg;simp
      unfold execOp;simp only[ho,resolve,PR,Deferred.ofValue,e1]
      have:=iP.enter (args.map a.eval) w
      simpa [invoke]using this
     unfold Oper.wp
     rw[fh]
     have mU: ∀b o,uK G σ b o→b<w.heap.size:=by
      rintro b o (h|⟨g,x,hl,hb⟩)
      ·exact hs.m.dO b o h
      ·exact((hs.m.own g x.1 x.2.1 x.2.2 hl).hY b hb).2
     have qf: ∀(i:Nat) v d,(args.toList.map a.eval)[i]? =some v→(es.map fun x=>den C.ρ x.1)[i]? =some d→cH w (uK G σ) v d:=by
      intro i v d hv hd
      simp only[ah,da]at hv hd
      obtain⟨x,hx,rfl⟩:=hv
      obtain⟨y,hy,rfl⟩:=hd
      exact(k2 i x y hx hy).2.1
     have iR:dK (.dJ sig.params) (es.map fun x=>den C.ρ x.1):=by
      rw[←jA]
      refine jQ (by simp) fun j u x hj hx=> ?_
      simp only[ah,da]at hj hx
      obtain⟨y,hy,rfl⟩:=hj
      obtain⟨y',om,rfl⟩:=hx
      rw[hy]at om;injection om with om;subst om
      have lZ:j<args.toList.length:=by rw[←k1];exact(aH.1 hy).1
      exact(k2 j _ y (aW lZ) hy).2.2
     obtain⟨_,_,wL,ks⟩:=iw _ (aA.2 rfl)
     have lS:=ks rfl
     rw[gA]at wL lS
     refine(iP.calls (by simpa using fX) w (uK G σ) _ _ mU (by simp[k1]) qf iR lS).mono ?_
     rintro e' w' ⟨v,S',τ',rfl,lG,hS,B2,J7,fi,Dl,Fv,_⟩
     simp only
     rw[←wL]at fi
     let S1:bU:=fun b o=>G.S b o∨(S' b o∧w.heap.size≤b)
     let G':Gh:={S:=S1,β:=G.β,τ:=fun g=>if g.1=p then τ' g.2 else G.τ g}
     have iI: ∀j,G'.τ (p,j)=τ' j:=fun j=>if_pos rfl
     have hM:(C.add p).M p:=.inr rfl
     have qG:iL w' 0 G'.S τ' sig.res v ((C.add p).ρ p):=iL.bare fi J6 fun j b hj hb o=>by
      have ou:=Dl j b hj hb
      constructor
      ·rintro(h|h)
       ·have:=hs.m.dO b o h;omega
       ·exact h.1
      ·intro h;exact .inr ⟨h,ou⟩
     have cJ:=xS (C:=C.add p) (G:=G') qG hM yn iI
     have avi:fg σ.live (l++iy p sig.res)=fg σ.live (iy p sig.res):=Ej (fun y hy=>(hmarks y hy).1) (fun y hy z hz he=>by
      obtain⟨h1,h2⟩:=hmarks y hy
      cases zW:y.2 with
      |none=>rw[zW]at h2;cases h2
      |some x=>rw[zW]at h1;exact fR hs.m hp h1 (by rw[he];exact(cJ z hz).1))
     obtain⟨cp,hm⟩:=hs.m.called hp (τ':=τ') lG (fun b o h=>.inl h) (S':=S1)
      (by
       rintro b o (h|h)
       ·have:=hs.m.dO b o h
        have:=lG.size
        omega
       ·exact B2 b o h.1)
      (by
       rintro b o (h|h)
       ·exact .inl h
       ·exact .inr h.2) (fg σ.live (iy p sig.res)) G' rfl
      (by
       intro g x hx
       unfold fg at hx
       split at hx
       ·rename_i y hy
        obtain⟨q1,q2,e1,T1,t1,q3,q4⟩:=cJ _ (jK hy)
        simp only at q1 q3 q4
        rw[q3]at hx;injection hx with hx;subst hx
        refine .inr ⟨q1,q4.Ms (fun b hb=>Dl g.2 b q2 ?_)⟩
        have e:G'.τ g=τ' g.2:=if_pos q1
        rw[←e];exact hb
       ·exact .inl ⟨fR hs.m hp hx,hx⟩)
      (by
       intro j1 j2 x y b hx hy xA xz
       have key: ∀j x,fg σ.live (iy p sig.res) (p,j)=some x→j∈cO sig.res:=by
        intro j x hx
        unfold fg at hx
        split at hx
        ·rename_i y hy
         exact(cJ _ (jK hy)).2.1
        ·exact absurd rfl (fR hs.m hp hx)
       exact Fv j1 j2 b (key j1 x hx) (key j2 y hy) xA xz) (fun lE=>absurd lE qp) mg
     exact hK _ _ _ (hs.step (o:=o) (e:=⟨o.dst,([],ny true p sig.res),[],l++iy p sig.res,[],[.call p k (.dJ (es.map (·.1))) []]⟩) cp (hm.congr (dM _) avi) rfl bP hc
      (by intro _;simp only[aU,bW,if_true];exact zb (C:=C.add p) (G:=G') qG hM yn iI _) eT)
    ·cases h
   ·cases h
  ·cases h
 ·cases h
theorem xk{c:SC}{x:E×Ty}{l:List (Tag×Option (E×TypeId×Ty))}(h:pz σ c=some (x,l)): ∀y∈l,σ.live y.1=y.2:=by
 unfold pz at h
 split at h
 ·split at h
  ·rename_i e T hl
   obtain⟨_,rfl⟩:=jC h
   unfold tN at hl
   split at hl
   ·rename_i e' T' t' lD
    split at hl
    ·rename_i hc
     obtain⟨rfl,rfl⟩:=jC hl
     intro y hy
     rw[aA]at hy;subst hy
     rw[lD,hc.1]
    ·cases hl
   ·cases hl
  ·cases h
 ·rw[da]at h
  obtain⟨_,_,h⟩:=h
  simp only[ai]at h;obtain⟨_,rfl⟩:=h
  simp
theorem vG: ∀{cs:List SC} {x:List E×List Ty} {l:List (Tag×Option (E×TypeId×Ty))},lf σ cs=some (x,l)→ ∀y∈l,σ.live y.1=y.2
 | [],x,l,h=>by simp only[lf,ae,ai]at h;obtain⟨_,rfl⟩:=h;simp
 |c::r,x,l,h=>by
  simp only[lf]at h
  split at h
  ·rename_i e t l1 es ts ls h1 h2
   obtain⟨_,rfl⟩:=jC h
   intro y hy
   rcases aS.1 hy with hy|hy
   ·exact xk h1 y hy
   ·exact vG h2 y hy
  ·cases h
theorem EU{s:SV}{x:E×Ty}{l:List (Tag×Option (E×TypeId×Ty))}(h:oU σ s=some (x,l)): ∀y∈l,σ.live y.1=y.2:=by
 cases s with
 |one c=>exact xk h
 |agg cl=>
  simp only[oU]at h
  split at h
  ·rename_i es ts ls h1
   obtain⟨_,rfl⟩:=jC h
   exact vG h1
  ·cases h
 |fx l=>cases h
theorem BB{pc:dI}: ∀{xs:List Operand} {rE:List TypeId} {es:List (E×Ty)} {l:List (Tag×Option (E×TypeId×Ty))},tP P σ pc xs rE=some (es,l)→ ∀y∈l,σ.live y.1=y.2
 | [],[],es,l,h=>by simp only[tP,ae,ai]at h;obtain⟨_,rfl⟩:=h;simp
 |x::xs,t::ts,es,l,h=>by
  simp only[tP]at h
  split at h
  ·rename_i e l1 wY ls h1 h2
   obtain⟨_,rfl⟩:=jC h
   rw[dP]at h1
   obtain⟨sv,_,h1⟩:=h1
   intro y hy
   rcases aS.1 hy with hy|hy
   ·exact EU h1 y hy
   ·exact BB h2 y hy
  ·cases h
 | [],_::_,_,_,h=>by cases h
 |_::_,[],_,_,h=>by cases h
theorem EM{ops:Array Oper}{pc:dI}{e:jI}(hs:iq n w0 S0 C G σ a w)(hp: ¬C.M p)(yn:p<C.N)(hg:guardOf ops σ o=some pc)(h:Aj P cs σ pc p o=some e)
  (iF: ∀k sig,lk cs.l k=some sig→bh P k sig (Pre k) (Φ k)) (iw: ∀it∈e.items,eU C Φ Pre it) (bP:e.yh.2.lt C.N=true) (eT: ∀d,o.dst=some d→d<n) (qp: ¬S0.fr) (mg: ¬S0.wz):
  fQ P n w0 S0 C (e.app σ) p ops a w o:=by
 unfold Aj at h
 split at h
 ·rename_i f args argTypes ho
  split at h
  ·rename_i fe k es l hf rI
   split at h
   ·rename_i sig pq
    split at h
    ·rename_i lQ
     obtain⟨fX,jA,uj,hnx,H0,J6⟩:=lQ
     injection h with h;subst h
     have hmk:fg σ.live l=σ.live:=by
      have:=Ej (σ:=σ) (l:=l) (r:=[]) (BB rI) (fun _ _ _ hz=>by simp at hz)
      rw[cQ]at this
      rw[this];exact dM _
     intro K Q hK
     obtain⟨hw,hc⟩:=gg hs.t hg
     rw[hw]
     cases eu:aU C.ρ pc with
     |false=>
      simp only[ak,if_false]
      exact hK _ _ _ (hs.step (o:=o) (e:=⟨o.dst,(pc,ny false p sig.res),[],l,[],[.call p k (.dJ (es.map (·.1))) pc]⟩) (dT.pV C w G p) ((hs.m.pV p).congr (dM _) hmk) rfl bP hc
       (by intro _;simp only[eu,ak,if_false]) eT)
     |true=>
      simp only[if_true]
      obtain⟨f1,f2,f3⟩:=cK hs.t (pc:=[]) rfl hf
      obtain⟨fl,wM,N8⟩:=mo.1 f3
      have Hu:=dr.1 N8
      subst Hu
      obtain⟨Lt,PR,uI,hcr⟩:=(wM▸f2).xN
      have Hv:Lt=[] :=au (by simpa using uI)
      subst Hv
      obtain⟨⟨k1,k2⟩,_⟩:=Ee hs.m hs.t eu rI
      have iP:=iF _ _ pq
      have gA:(den C.ρ (.dJ (es.map (·.1)))).aV=es.map fun x=>den C.ρ x.1:=by rw[gG];simp[D.aV]
      have fh:(execOp a.eval o).run P w= .ok (.enter k (args.toList.map a.eval).toArray) w:=by
       have e1:(args.toList.map a.eval).toArray=args.map a.eval:=by apply dg;simp
       unfold execOp;simp only[ho,resolve,PR,Deferred.ofValue,e1]
       have:=iP.enter (args.map a.eval) w
       simpa [invoke]using this
      unfold Oper.wp
      rw[fh]
      have mU: ∀b o,uK G σ b o→b<w.heap.size:=by
       rintro b o (h|⟨g,x,hl,hb⟩)
       ·exact hs.m.dO b o h
       ·exact((hs.m.own g x.1 x.2.1 x.2.2 hl).hY b hb).2
      have qf: ∀(i:Nat) v d,(args.toList.map a.eval)[i]? =some v→(es.map fun x=>den C.ρ x.1)[i]? =some d→cH w (uK G σ) v d:=by
       intro i v d hv hd
       simp only[ah,da]at hv hd
       obtain⟨x,hx,rfl⟩:=hv
       obtain⟨y,hy,rfl⟩:=hd
       exact(k2 i x y hx hy).2.1
      have iR:dK (.dJ sig.params) (es.map fun x=>den C.ρ x.1):=by
       rw[←jA]
       refine jQ (by simp) fun j u x hj hx=> ?_
       simp only[ah,da]at hj hx
       obtain⟨y,hy,rfl⟩:=hj
       obtain⟨y',om,rfl⟩:=hx
       rw[hy]at om;injection om with om;subst om
       have lZ:j<args.toList.length:=by rw[←k1];exact(aH.1 hy).1
       exact(k2 j _ y (aW lZ) hy).2.2
      obtain⟨_,_,wL,ks⟩:=iw _ (aA.2 rfl)
      have lS:=ks eu
      rw[gA]at wL lS
      refine(iP.calls (by simpa using fX) w (uK G σ) _ _ mU (by simp[k1]) qf iR lS).mono ?_
      rintro e' w' ⟨v,S',τ',rfl,lG,hS,B2,J7,fi,Dl,Fv,_⟩
      simp only
      rw[←wL]at fi
      let G':Gh:={S:=G.S,β:=G.β,τ:=fun g=>if g.1=p then τ' g.2 else G.τ g}
      have iI: ∀j,G'.τ (p,j)=τ' j:=fun j=>if_pos rfl
      have hM:(C.add p).M p:=.inr rfl
      have qG:iL w' 0 G'.S τ' sig.res v ((C.add p).ρ p):=iL.bare fi J6 fun j b hj=>by rw[uj]at hj;simp at hj
      obtain⟨cp,hm⟩:=hs.m.called hp (τ':=τ') lG (fun b o h=>h) (S':=G.S)
       (fun b o h=>ar (hs.m.dO b o h) lG.size) (fun b o h=>.inl h) σ.live G' rfl
       (fun g x hx=>.inl ⟨fR hs.m hp hx,hx⟩)
       (fun j1 j2 x y b hx _ _ _=>absurd rfl (fR hs.m hp hx)) (fun lE=>absurd lE qp) mg
      exact hK _ _ _ (hs.step (o:=o) (e:=⟨o.dst,(pc,ny false p sig.res),[],l,[],[.call p k (.dJ (es.map (·.1))) pc]⟩) cp (hm.congr (dM _) hmk) rfl bP hc
       (by intro _;simp only[eu,if_true];exact zb (C:=C.add p) (G:=G') qG hM yn iI _ (.inr hnx)) eT)
    ·cases h
   ·cases h
  ·cases h
 ·cases h
end
section
variable{P:Program}{C:Cx}{w w0:World}{S0:iu}{G:Gh}{σ:St}{a:Act}{o:Oper}{pc:dI}{s:SV}{is:List Item}{Φ:Nat→List D→D}{Pre:Nat→List D→Prop}{n p:Nat}{cs:o3}
def Bd(G:Gh)(ids:List Nat)(b o:Nat):Prop:=G.S b o∨ ∃id∈ids,b=G.β id
theorem KA(hm:fp w0 S0 C G σ w){id:Nat}{ro:Bool}{cs:List SC}(fD:σ.hp id=some (ro,cs))(E2:mapOf cs=none){ds:List D}(hl:ds.length=cs.length){ids:List Nat}(hi:id∈ids)
  (h: ∀(i:Nat) c v d,cs[i]? =some c→tJ C w G c v→ds[i]? =some d→cH w (Bd G ids) v d):cH w (Bd G ids) (.pointer (some ⟨G.β id,0,none⟩)) (.ptr ds):=by
 obtain⟨_,_,fZ,_⟩:=hm.box _ _ _ fD
 obtain⟨vs,T,b3,b4⟩:=fZ.cells E2
 refine .ptr (G.β id) vs ds (by rw[hl];exact b4.1) (fun i _=>.inr ⟨id,hi,rfl⟩) (fun i v hv=> ?_) (fun i v d hv hd=> ?_)
 ·rw[cell_of_row w _ i _ T (0,0) b3];simpa using hv
 ·have iJ:i<cs.length:=by rw[←hl];exact(aH.1 hd).1
  exact h i _ v d (aW iJ) (b4.2 i _ v (aW iJ) hv) hd
theorem Bz: ∀{cs:List SC} {es:List E} {ts:List Ty},iO cs=some (es,ts)→es.length=cs.length∧ts.length=cs.length∧ ∀(i:Nat) c,cs[i]? =some c→ ∃e t,es[i]? =some e∧ts[i]? =some t∧asData c=some (e,t)
 | [],es,ts,h=>by simp only[iO,ae,ai]at h;obtain⟨rfl,rfl⟩:=h;exact⟨rfl,rfl,by intro i c hi;simp at hi⟩
 |c::r,es,ts,h=>by
  simp only[iO]at h
  split at h
  ·rename_i e t wY Xr h1 h2
   obtain⟨rfl,rfl⟩:=jC h
   obtain⟨q1,q2,q3⟩:=Bz h2
   refine⟨by simp[q1],by simp[q2],fun i c' hi=> ?_⟩
   cases i with
   |zero=>simp at hi;subst hi;exact⟨e,t,rfl,rfl,h1⟩
   |succ i=>
    obtain⟨e',t',k1,k2,k3⟩:=q3 i c' (by simpa using hi)
    exact⟨e',t',by simpa using k1,by simpa using k2,k3⟩
  ·cases h
theorem Gz(hm:fp w0 S0 C G σ w): ∀{cs:List SC} {es:List E} {ts:List Ty} {ids:List Nat},xb σ cs=some (es,ts,ids)→es.length=cs.length∧ts.length=cs.length∧(∀id∈ids,∃x,σ.hp id=some x)∧
  ∀(i:Nat) c,cs[i]? =some c→ ∃e t,es[i]? =some e∧ts[i]? =some t∧(∀v,tJ C w G c v→ ∀tZ,(∀j∈ids,j∈tZ)→cH w (Bd G tZ) v (den C.ρ e)∧Has t (den C.ρ e))
 | [],es,ts,ids,h=>by simp only[xb,ae,ai]at h;obtain⟨rfl,rfl,rfl⟩:=h;exact⟨rfl,rfl,by simp,by intro i c hi;simp at hi⟩
 |c::r,es,ts,ids,h=>by
  simp only[xb]at h
  split at h
  ·rename_i wY Xr tZ h1
   obtain⟨q1,q2,q3,q4⟩:=Gz hm h1
   split at h
   ·rename_i e t hd
    obtain⟨rfl,rfl,rfl⟩:=RA h
    refine⟨by simp[q1],by simp[q2],q3,fun i c' hi=> ?_⟩
    cases i with
    |zero=>
     simp at hi;subst hi
     refine⟨e,t,rfl,rfl,fun v hv tZ _=> ?_⟩
     obtain⟨_,k2,k3⟩:=mE hd hv
     exact⟨k2.keep (fun _ _ h=>.inl h) (fun _ _ _=>rfl),k3⟩
    |succ i=>
     obtain⟨e',t',k1,k2,k3⟩:=q4 i c' (by simpa using hi)
     exact⟨e',t',by simpa using k1,by simpa using k2,k3⟩
   ·split at h
    ·rename_i id _
     split at h
     ·rename_i ro cs2 fD
      split at h
      ·rename_i ds us qC
       obtain⟨rfl,rfl,rfl⟩:=RA h
       refine⟨by simp[q1],by simp[q2],fun j hj=> ?_,fun i c' hi=> ?_⟩
       ·rcases aM.1 hj with rfl|hj
        ·exact⟨_,fD⟩
        ·exact q3 j hj
       ·cases i with
        |zero=>
         simp at hi;subst hi
         obtain⟨r1,r2,r3⟩:=Bz qC
         refine⟨_,_,rfl,rfl,fun v hv JG kz=> ?_⟩
         obtain⟨_,rfl⟩:=hv
         have gA:den C.ρ (.un .so (.dJ ds))= .ptr (ds.map (den C.ρ)):=by simp only[den,U.den,gG,D.aV]
         rw[gA]
         refine⟨KA hm fD (jV qC) (by simp[r1]) (kz id (by simp)) (fun i c v d hc hv hd=> ?_),jH.2 ⟨_,rfl,jQ (by simp[r1,r2]) (fun j u x hj hx=> ?_)⟩⟩
         ·obtain⟨e,t,k1,_,k3⟩:=r3 i c hc
          simp only[ah,k1,aP,ae]at hd
          subst hd
          exact(mE k3 hv).2.1.keep (fun _ _ h=>.inl h) (fun _ _ _=>rfl)
         ·have lZ:j<cs2.length:=by rw[←r2];exact(aH.1 hj).1
          obtain⟨e,t,k1,k2,k3⟩:=r3 j _ (aW lZ)
          rw[hj]at k2
          injection k2 with k2
          subst k2
          simp only[ah,k1,aP,ae]at hx
          subst hx
          obtain⟨_,_,fZ,_⟩:=hm.box _ _ _ fD
          obtain⟨vs,T,b3,b4⟩:=fZ.cells (jV qC)
          have zX:j<vs.length:=by rw[b4.1];exact lZ
          exact(mE k3 (b4.2 j _ _ (aW lZ) (aW zX))).2.2
        |succ i=>
         obtain⟨e',t',k1,k2,k3⟩:=q4 i c' (by simpa using hi)
         exact⟨e',t',by simpa using k1,by simpa using k2,fun v hv JG kz=>k3 v hv JG (fun j hj=>kz j (by simp[hj]))⟩
      ·cases h
     ·cases h
    ·cases h
  ·cases h
theorem zz{cs:List SC}{x:List E×List Ty×List Nat}(h:xb σ cs=some x):mapOf cs=none:=by
 unfold mapOf
 split
 ·simp[xb,asData]at h
 ·rfl
theorem ZS(hs:iq n w0 S0 C G σ a w)(eu:aU C.ρ pc=true){x:Operand}{t:TypeId}{e:E}{ty:Ty}{ids:List Nat}(h:Ql P σ pc x t=some (e,ty,ids)):(∀id∈ids,∃z,σ.hp id=some z)∧
  ∀tZ,(∀j∈ids,j∈tZ)→cH w (Bd G tZ) (a.eval x) (den C.ρ e)∧Has ty (den C.ρ e):=by
 unfold Ql at h
 split at h
 ·rename_i e' ty' hd
  obtain⟨rfl,rfl,rfl⟩:=RA h
  obtain⟨_,k2,k3⟩:=dX hs.t eu hd
  exact⟨by simp,fun tZ _=>⟨k2.keep (fun _ _ h=>.inl h) (fun _ _ _=>rfl),k3⟩⟩
 ·split at h
  ·rename_i id hx
   split at h
   ·rename_i ro cs2 fD
    split at h
    ·rename_i es ts JG hl
     obtain⟨rfl,rfl,rfl⟩:=RA h
     obtain⟨q1,q2,q3,q4⟩:=Gz hs.m hl
     obtain⟨_,hv⟩:=cK hs.t eu hx
     refine⟨fun j hj=> ?_,fun tZ kz=> ?_⟩
     ·rcases aM.1 hj with rfl|hj
      ·exact⟨_,fD⟩
      ·exact q3 j hj
     ·have gA:den C.ρ (.un .so (.dJ es))= .ptr (es.map (den C.ρ)):=by simp only[den,U.den,gG,D.aV]
      rw[gA,hv]
      obtain⟨_,_,fZ,_⟩:=hs.m.box _ _ _ fD
      obtain⟨vs,T,b3,b4⟩:=fZ.cells (zz hl)
      refine⟨KA hs.m fD (zz hl) (by simp[q1]) (kz id (by simp)) (fun i c v d hc hv hd=> ?_),jH.2 ⟨_,rfl,jQ (by simp[q1,q2]) (fun j u y hj hy=> ?_)⟩⟩
      ·obtain⟨e,t,k1,_,k3⟩:=q4 i c hc
       simp only[ah,k1,aP,ae]at hd
       subst hd
       exact(k3 v hv tZ (fun j hj=>kz j (by simp[hj]))).1
      ·have lZ:j<cs2.length:=by rw[←q2];exact(aH.1 hj).1
       obtain⟨e,t,k1,k2,k3⟩:=q4 j _ (aW lZ)
       rw[hj]at k2
       injection k2 with k2
       subst k2
       simp only[ah,k1,aP,ae]at hy
       subst hy
       have zX:j<vs.length:=by rw[b4.1];exact lZ
       exact(k3 _ (b4.2 j _ _ (aW lZ) (aW zX)) JG (fun _ h=>h)).2
    ·cases h
   ·cases h
  ·cases h
theorem KP(hs:iq n w0 S0 C G σ a w)(eu:aU C.ρ pc=true): ∀{l:List Operand} {ts:List TypeId} {es:List (E×Ty)} {ids:List Nat},Bb P σ pc l ts=some (es,ids)→
  es.length=l.length∧(∀id∈ids,∃z,σ.hp id=some z)∧ ∀(i:Nat) x e,l[i]? =some x→es[i]? =some e→ ∀tZ,(∀j∈ids,j∈tZ)→cH w (Bd G tZ) (a.eval x) (den C.ρ e.1)∧Has e.2 (den C.ρ e.1)
 | [],[],es,ids,h=>by simp only[Bb,ae,ai]at h;obtain⟨rfl,rfl⟩:=h;exact⟨rfl,by simp,by intro i x e hi;simp at hi⟩
 |y::l,t::ts,es,ids,h=>by
  simp only[Bb]at h
  split at h
  ·rename_i e ty i1 wY tZ h1 h2
   obtain⟨rfl,rfl⟩:=jC h
   obtain⟨p1,p2⟩:=ZS hs eu h1
   obtain⟨k1,k2,k3⟩:=KP hs eu h2
   refine⟨by simp[k1],fun j hj=>(aS.1 hj).elim (p1 j) (k2 j),fun i x e' hi he JG kz=> ?_⟩
   cases i with
   |zero=>simp at hi he;subst hi;subst he;exact p2 JG (fun j hj=>kz j (aC _ hj))
   |succ i=>exact k3 i x e' (by simpa using hi) (by simpa using he) JG (fun j hj=>kz j (bC _ hj))
  ·cases h
 | [],_::_,_,_,h=>by cases h
 |_::_,[],_,_,h=>by cases h
theorem FE{ops:Array Oper}{k:Nat}{e:E}{sig:dQ}{rd:List Nat}(hs:iq n w0 S0 C G σ a w)(hp: ¬C.M p)(yn:p<C.N)(hg:guardOf ops σ o=some pc)(h:qM P cs σ pc o=some (k,e,sig,rd))
  (iF: ∀k sig,lk cs.l k=some sig→bh P k sig (Pre k) (Φ k)) (iw:eU C Φ Pre (.call p k e pc)) (bP:(ny pc.isEmpty p sig.res).lt C.N=true) (eT: ∀d,o.dst=some d→d<n) (items:List Item) (qp: ¬S0.fr) (mg: ¬S0.wz):
  fQ P n w0 S0 C ((⟨o.dst,(pc,ny pc.isEmpty p sig.res),[],if pc.isEmpty then iy p sig.res else [],rd,items⟩:jI).app σ) p ops a w o:=by
 intro K Q hK
 obtain⟨hw,hc⟩:=gg hs.t hg
 rw[hw]
 have afo:aU C.ρ pc=false→pc.isEmpty=false:=by intro h;cases pc<;>first|rfl|(simp[aU]at h)
 cases eu:aU C.ρ pc with
 |false=>
  simp only[ak,if_false]
  have hm:fp w0 S0 (C.add p) G ((⟨o.dst,(pc,ny pc.isEmpty p sig.res),[],if pc.isEmpty then iy p sig.res else [],rd,items⟩:jI).app σ) w:=
   (hs.m.pV p).congr (dM _) (by simp only[jI.app,afo eu,ak,if_false];exact dM _)
  exact hK _ _ _ (hs.step (o:=o) (e:=⟨o.dst,(pc,ny pc.isEmpty p sig.res),[],if pc.isEmpty then iy p sig.res else [],rd,items⟩) (dT.pV C w G p) hm rfl bP hc
   (by intro _;simp only[eu,ak,if_false]) eT)
 |true=>
 simp only[if_true]
 unfold qM at h
 split at h
 ·rename_i f args argTypes ho
  split at h
  ·rename_i fe k' es ids hf rI
   split at h
   ·rename_i mJ pq
    split at h
    ·rename_i lQ
     obtain⟨fX,jA,uj,H0,J6,hnx⟩:=lQ
     obtain⟨rfl,hE,rfl,rfl⟩:=zP4 h
     obtain⟨f1,f2,f3⟩:=cK hs.t (pc:=[]) rfl hf
     obtain⟨fl,wM,N8⟩:=mo.1 f3
     have Hu:fl=[] :=dr.1 N8
     subst Hu
     obtain⟨Lt,PR,uI,_⟩:=(wM▸f2).xN
     have Hv:Lt=[] :=au uI
     subst Hv
     obtain⟨k1,kh,k2⟩:=KP hs eu rI
     have iP:=iF _ _ pq
     have gA:(den C.ρ e).aV=es.map fun x=>den C.ρ x.1:=by
      rw[←hE,gG]
      simp only[D.aV,List.map_map]
      rfl
     have fh:(execOp a.eval o).run P w= .ok (.enter k' (args.toList.map a.eval).toArray) w:=by
      have e1:(args.toList.map a.eval).toArray=args.map a.eval:=by apply dg;simp
      unfold execOp;simp only[ho,resolve,PR,Deferred.ofValue,e1]
      have:=iP.enter (args.map a.eval) w
      simpa [invoke]using this
     unfold Oper.wp
     rw[fh]
     have aoJ: ∀b o,Bd G ids b o→b<w.heap.size:=by
      rintro b o (hb|⟨id,fD,rfl⟩)
      ·exact hs.m.dO b o hb
      ·obtain⟨z,hz⟩:=kh id fD
       exact hs.m.mZ hz
     have qf: ∀(i:Nat) v d,(args.toList.map a.eval)[i]? =some v→(es.map fun x=>den C.ρ x.1)[i]? =some d→cH w (Bd G ids) v d:=by
      intro i v d hv hd
      simp only[ah,da]at hv hd
      obtain⟨x,hx,rfl⟩:=hv
      obtain⟨y,hy,rfl⟩:=hd
      exact(k2 i x y hx hy ids (fun _ h=>h)).1
     have iR:dK (.dJ mJ.params) (es.map fun x=>den C.ρ x.1):=by
      rw[←jA]
      refine jQ (by simp) fun j u x hj hx=> ?_
      simp only[ah,da]at hj hx
      obtain⟨y,hy,rfl⟩:=hj
      obtain⟨y',om,rfl⟩:=hx
      rw[hy]at om;injection om with om;subst om
      have hlen:j<args.toList.length:=by rw[←k1];exact(aH.1 hy).1
      exact(k2 j _ y (aW hlen) hy ids (fun _ h=>h)).2
     obtain⟨_,_,wL,ks⟩:=iw
     have lS:=ks eu
     rw[gA]at wL lS
     refine(iP.calls (by simpa using fX) w (Bd G ids) _ _ aoJ (by simp[k1]) qf iR lS).mono ?_
     rintro e' w' ⟨v,S1,RU,rfl,lG,hS1,aoI,awA,abt,DF,Ux,_⟩
     simp only
     rw[←wL]at abt
     obtain⟨S',XR⟩: ∃S':bU,∀b o,S' b o↔S1 b o∧(G.S b o∨w.heap.size≤b):=⟨fun b o=>S1 b o∧(G.S b o∨w.heap.size≤b),fun _ _=>dD⟩
     have JZ:iL w' 0 S' RU mJ.res v (C.ρ p):=abt.bare J6 (fun j b hj hb o=>by
      rw[XR]
      exact⟨fun h=>h.1,fun h=>⟨h,.inr (DF j b hj hb)⟩⟩)
     have hS: ∀b o,G.S b o→S' b o:=fun b o h=>(XR b o).2 ⟨hS1 b o (.inl h),.inl h⟩
     have B2: ∀b o,S' b o→b<w'.heap.size:=fun b o h=>aoI b o ((XR b o).1 h).1
     have J7: ∀b o,S' b o→G.S b o∨w.heap.size≤b:=fun b o h=>((XR b o).1 h).2
     obtain⟨τ',P3⟩: ∃τ',τ'=rh mJ.res RU:=⟨_,rfl⟩
     have ly: ∀j,j∈cO mJ.res→τ' j=RU j:=fun j hj=>by rw[P3];exact if_pos hj
     have fi:=JZ.akw
     rw[←P3]at fi
     have Dl: ∀j b,j∈cO mJ.res→(τ' j).ownBlock=some b→w.heap.size≤b:=fun j b hj hb=>DF j b hj (by rw[←ly j hj];exact hb)
     have Fv: ∀j k b,j∈cO mJ.res→k∈cO mJ.res→(τ' j).ownBlock=some b→(τ' k).ownBlock=some b→j=k:=fun j k b hj hk h1 h2=>Ux j k b hj hk (by rw[←ly j hj];exact h1) (by rw[←ly k hk];exact h2)
     let G':Gh:={S:=S',β:=G.β,τ:=fun g=>if g.1=p then τ' g.2 else G.τ g}
     have iI: ∀j,G'.τ (p,j)=τ' j:=fun j=>if_pos rfl
     have hM:(C.add p).M p:=.inr rfl
     have qG:iL w' 0 G'.S τ' mJ.res v ((C.add p).ρ p):=fi
     have cJ:=xS (C:=C.add p) (G:=G') qG hM yn iI
     obtain⟨cp,hm⟩:=hs.m.called hp (τ':=τ') lG hS B2 J7 (fg σ.live (if pc.isEmpty then iy p mJ.res else [])) G' rfl
      (by
       intro g x hx
       unfold fg at hx
       split at hx
       ·rename_i y hy
        have mN:=jK hy
        cases PJ:pc.isEmpty with
        |false=>rw[PJ]at mN;simp at mN
        |true=>
        rw[PJ]at mN;simp only[if_true]at mN
        obtain⟨q1,q2,e1,T1,t1,q3,q4⟩:=cJ _ mN
        simp only at q1 q3 q4
        rw[q3]at hx;injection hx with hx;subst hx
        refine .inr ⟨q1,q4.Ms (fun b hb=>Dl g.2 b q2 ?_)⟩
        have e:G'.τ g=τ' g.2:=if_pos q1
        rw[←e];exact hb
       ·exact .inl ⟨fR hs.m hp hx,hx⟩)
      (by
       intro j1 j2 x y b hx hy xA xz
       have key: ∀j x,fg σ.live (if pc.isEmpty then iy p mJ.res else []) (p,j)=some x→j∈cO mJ.res:=by
        intro j x hx
        unfold fg at hx
        split at hx
        ·rename_i y hy
         have mN:=jK hy
         cases PJ:pc.isEmpty with
         |false=>rw[PJ]at mN;simp at mN
         |true=>
         rw[PJ]at mN;simp only[if_true]at mN
         exact(cJ _ mN).2.1
        ·exact absurd rfl (fR hs.m hp hx)
       exact Fv j1 j2 b (key j1 x hx) (key j2 y hy) xA xz)
      (fun lE=>absurd lE qp) mg
     exact hK _ _ _ (hs.step (o:=o) (e:=⟨o.dst,(pc,ny pc.isEmpty p mJ.res),[],if pc.isEmpty then iy p mJ.res else [],ids,items⟩) cp (hm.congr (dM _) rfl) rfl bP hc
      (by intro _;simp only[eu,if_true];exact zb (C:=C.add p) (G:=G') qG hM yn iI _ (by simpa using hnx)) eT)
    ·cases h
   ·cases h
  ·cases h
 ·cases h
end
theorem zu{α:Type}(l:List α): ∀(n i j:Nat),i<n→j<l.length→(List.replicate n l).flatten[i*l.length+j]? =l[j]?
 |0,i,j,h,_=>by omega
 |n+1,0,j,_,hj=>by simp only[List.replicate_succ,eS,Nat.zero_mul,ay];rw[aB hj]
 |n+1,i+1,j,h,hj=>by
  simp only[List.replicate_succ,eS]
  rw[aF (by rw[cw];omega)]
  have:=zu l n i j (by omega) hj
  rw[←this]
  congr 1
  rw[cw];omega
theorem kq(agg:Bool)(size:Nat): ∀(n:Nat) (es:List E),(sX agg size es n).length=n
 |0,_=>rfl
 |n+1,es=>by simp[sX,kq agg size n]
theorem qk(agg:Bool)(size:Nat): ∀(n i:Nat) (es:List E),i<n→(sX agg size es n)[i]? =some (if agg then .un .agg (.dJ ((es.drop (i*size)).take size)) else(es.drop (i*size)).headD .nil)
 |0,i,_,h=>by omega
 |n+1,0,es,_=>by simp[sX]
 |n+1,i+1,es,h=>by
  simp only[sX,du]
  rw[qk agg size n i _ (by omega)]
  rw[List.drop_drop,cw,Nat.one_mul,Nat.add_comm size]
theorem Ca{P:Program}(w:World)(t e:TypeId)(len:Nat)(parts:Array (Nat×Value))(cells:Array Value)(ie:TypeInfo)(z:Value)
  (hu:P.underlying t=some (.slice e)) (vL:P.info? e=some ie) (hz:ie.zero=some z) (DE: ¬len*ie.size>2 ^ 24)
  (h:Instr.fill (fun i=>some (i*ie.size,ie.size)) ((Array.range (len*ie.size)).map (z.cells[· % z.cells.size]!)) parts.toList=some cells):
  (Instr.buildSlice t len parts).run P w= .ok (.slice (some ⟨w.heap.size,0,none⟩) len len) (w.alloc (.cells cells e)):=by
 by_cases ir:len*ie.size=0
 ·have e0: ∀f:Nat→Value,(Array.range (len*ie.size)).map f= #[] :=fun f=>by rw[ir];simp
  rw[e0]at h
  have e3: ∀f:Nat→Value,(Array.range 0).map f= #[] :=fun f=>by simp
  simp[Instr.buildSlice,run_underlying hu,sizeOf,typeInfo,vL,newRow,ir]
  rw[e3,h]
  simp
 ·exact run_buildSlice w t e len parts cells ie z hu vL hz DE ir h
section
variable{P:Program}{C:Cx}{w w0:World}{S0:iu}{G:Gh}{σ:St}{a:Act}{o:Oper}{pc:dI}{s:SV}{is:List Item}{Φ:Nat→List D→D}{Pre:Nat→List D→Prop}{n p:Nat}{cs:o3}
theorem Gp{e:E}{T:TypeId}{t:Ty}{len:Nat}(ht:jO C w G σ.tm a)(eu:aU C.ρ pc=true)(h:tM P σ pc o=some (e,T,t,len)):
  ∃(xs:List Value) (l:List D),(execOp a.eval o).run P w= .ok (.value (.slice (some ⟨w.heap.size,0,none⟩) len len)) (w.alloc (.cells xs.toArray T))∧e.lt C.N=true∧den C.ρ e= .list l∧l.length=len∧oG t len∧
   0<t.cells.length∧xs.length=len*t.cells.length∧(∀d∈l,Has t d)∧
   (∀(i:Nat) d (j:Nat) v c,l[i]? =some d→d.cells[j]? =some c→xs[i*t.cells.length+j]? =some v→cH w G.S v c)∧ ∀cl,sw P σ pc o=some cl→lA C w G cl xs:=by
 unfold tM at h
 split at h
 ·rename_i tt nt parts ho
  split at h
  ·rename_i el hu
   split at h
   ·rename_i ie u ts ps vL jA wM hps
    split at h
    ·rename_i zs yl
     obtain⟨z,hz,yl⟩: ∃z,ie.zero=some z∧n6 ts z.cells.toList=some zs:=by
      cases hq:ie.zero with
      |none=>simp[hq]at yl
      |some z=>exact⟨z,rfl,by simpa [hq]using yl⟩
     split at h
     ·rename_i qZ
      obtain⟨hzl,zP,ir,DE,Fw⟩:=qZ
      split at h
      ·rename_i csl abF
       split at h
       ·rename_i es us qC
        split at h
        ·rename_i PI
         have hz0:=td (C:=C) (w:=w) (G:=G) yl
         have au4:z.cells.size=zs.length:=by have:=hz0.1;simpa using this
         have aot:lA C w G ((List.range (nt*ie.size)).map fun j=>zs.getD (j % zs.length) (.po .nil)) ((List.range (nt*ie.size)).map fun j=>z.cells[j % z.cells.size]!):=by
          refine⟨by simp,fun i c v hc hv=> ?_⟩
          have hi:i<nt*ie.size:=by have:=(aH.1 hc).1;simpa using this
          simp only[ah,dN hi,aP,ae]at hc hv
          have hm:i % zs.length<zs.length:=Nat.mod_lt _ (by omega)
          subst hc;subst hv
          rw[au4]
          have e1:zs.getD (i % zs.length) (.po .nil)=zs[i % zs.length] :=by simp[List.getD,hm]
          have hm':i % zs.length<z.cells.size:=by omega
          have e2:z.cells[i % zs.length]! =z.cells.toList[i % zs.length]'(by simpa using hm'):=by simp[getElem!_pos,hm']
          rw[e1,e2]
          exact hz0.2 _ _ _ (aW hm) (aW _)
         obtain⟨k1,k2⟩:=xT ht eu _ _ _ hps
         obtain⟨xs,h1,h2⟩:=AL _ _ _ _ _ _ abF aot k1 k2
         obtain⟨m1,m2,m3,m4,m5⟩:=n4 qC h2
         have Yo: ∀cl,sw P σ pc o=some cl→lA C w G cl xs:=by
          intro cl jY
          have hb:(ie.zero.bind fun z=>n6 ts z.cells.toList)=some zs:=by rw[hz];exact yl
          unfold sw at jY
          simp only[ho,hu,vL,wM,hps,hb]at jY
          rw[abF]at jY
          injection jY with jY
          rw[←jY];exact h2
         have tF:xs.length=nt*ie.size:=by
          rw[←m3,PI.1];simp[zP]
         have fh: ∀{T},el=T→(execOp a.eval o).run P w= .ok (.value (.slice (some ⟨w.heap.size,0,none⟩) nt nt)) (w.alloc (.cells xs.toArray T)):=by
          rintro T rfl
          have:=Ca (P:=P) w tt el nt (parts.map fun(i,x)=>(i,a.eval x)) xs.toArray ie z hu vL hz (by rw[show(2:Nat) ^ 24=16777216 from rfl];omega)
           (by
            rw[Array.toList_map]
            have e1:(Array.range (nt*ie.size)).map (fun x=>z.cells[x % z.cells.size]!)=((List.range (nt*ie.size)).map fun j=>z.cells[j % z.cells.size]!).toArray:=by apply dg;simp
            rw[e1];exact h1)
          unfold execOp;simp only[ho,bA]
          rw[this];rfl
         have JL:nt≤maxLen:=by
          have:nt≤nt*ie.size:=Nat.le_mul_of_pos_right _ ir
          have h9:(16777216:Nat)≤maxLen:=by decide
          omega
         have Fu:es.length=nt*ie.size:=by rw[m2,tF]
         have abz: ∀e∈es,e.lt C.N=true:=(uQ es).1 m1
         have ak8: ∀(i j:Nat) (ty:Ty) (x:E),i<nt→j<ie.size→u.cells[j]? =some ty→es[i*ie.size+j]? =some x→Has ty (den C.ρ x):=by
          intro i j ty x hi hj jA hx
          have Hc:=dY m5 (i*ie.size+j) ty (by rw[Ty.fa,PI.1,←zP,zu _ _ _ _ hi (by omega)];exact jA)
          obtain⟨d,hd,hhd⟩:=Hc
          simp only[ah,hx,aP,ae]at hd
          subst hd;exact hhd
         have awz: ∀{i j:Nat},i<nt→j<ie.size→i*ie.size+j<nt*ie.size:=by
          intro i j hi hj
          have:(i+1)*ie.size≤nt*ie.size:=az _ hi
          rw[cw]at this;omega
         split at h
         ·rename_i fs alU
          obtain⟨rfl,rfl,rfl,rfl⟩:=zP4 h
          have jY:(Ty.agg (.dJ fs.aV)).cells=fs.aV:=by simp[Ty.cells,Ty.fa]
          have afk:fs.aV.length=ie.size:=zP
          have elem: ∀i,i<nt→den C.ρ (.un .agg (.dJ ((es.drop (i*ie.size)).take ie.size)))= .agg (((es.drop (i*ie.size)).take ie.size).map (den C.ρ)):=by
           intro i _;simp only[den,gG,U.den,D.aV]
          refine⟨xs,_,fh rfl,?_,gG _ _,by simp[kq],⟨JL,by rw[Ty.Rv];exact Fw⟩,by rw[jY];omega,by rw[jY,afk];exact tF,?_,?_,Yo⟩
          ·rw[uQ]
           intro e he
           obtain⟨i,hi⟩:=aE he
           have iJ:i<nt:=by have:=(aH.1 hi).1;rwa [kq]at this
           rw[qk _ _ _ _ _ iJ]at hi
           simp only[if_true,ae]at hi
           subst hi
           simp only[E.lt]
           rw[uQ]
           exact fun e he=>abz e (eL (eK he))
          ·intro d hd
           obtain⟨i,hi⟩:=aE hd
           simp only[ah,da]at hi
           obtain⟨x,hx,rfl⟩:=hi
           have iJ:i<nt:=by have:=(aH.1 hx).1;rwa [kq]at this
           rw[qk _ _ _ _ _ iJ]at hx
           simp only[if_true,ae]at hx
           subst hx
           rw[elem i iJ]
           have hbound:(i+1)*ie.size≤nt*ie.size:=az _ iJ
           rw[cw]at hbound
           refine eN.2 ⟨_,rfl,jQ (by simp[Fu];omega) fun j ty x hj hx=> ?_⟩
           have hjs:j<ie.size:=by rw[←afk];exact(aH.1 hj).1
           simp only[ah,da,aG,if_pos hjs,aO]at hx
           obtain⟨y,hy,rfl⟩:=hx
           exact ak8 i j ty y iJ hjs hj hy
          ·intro i d j v c hd hc hv
           simp only[ah,da]at hd
           obtain⟨x,hx,rfl⟩:=hd
           have iJ:i<nt:=by have:=(aH.1 hx).1;rwa [kq]at this
           rw[qk _ _ _ _ _ iJ]at hx
           simp only[if_true,ae]at hx
           subst hx
           rw[elem i iJ]at hc
           simp only[D.cells,ah,da,aG]at hc
           obtain⟨y,hy,rfl⟩:=hc
           split at hy
           ·rw[aO]at hy
            rw[jY,afk]at hv
            exact m4 _ v y hv hy
           ·cases hy
         ·rename_i u _ _ alU
          split at h
          ·rename_i kv
           obtain⟨rfl,rfl,rfl,rfl⟩:=zP4 h
           have mf:u.scalar=true:=by
            rcases PI.2 with h|h
            ·rw[alU]at h;cases h
            ·exact h
           have zQ:u.cells=[u] :=by cases u<;>first|rfl|cases mf
           have elem: ∀i x,i<nt→(sX false 1 es nt)[i]? =some x→es[i]? =some x:=by
            intro i x hi hx
            rw[qk _ _ _ _ _ hi]at hx
            simp only[ak,if_false,ae,cd]at hx
            have iJ:i<es.length:=by rw[Fu,kv];omega
            rw[←hx,aW iJ,cY iJ];rfl
           have ao1: ∀d,Has u d→d.cells=[d] :=by
            intro d hd
            have:=(cN hd)
            rw[zQ]at this
            cases d<;>first|rfl|(rename_i l;exfalso;cases u<;>simp[Ty.scalar]at mf<;>simp[dA,dz,oa,bK,jH,m9,mo]at hd)
           have alT: ∀i x,i<nt→es[i]? =some x→Has u (den C.ρ x):=by
            intro i x hi hx
            exact ak8 i 0 u x hi (by omega) (by rw[zQ];rfl) (by rw[kv,cd,ep];exact hx)
           refine⟨xs,_,fh rfl,?_,gG _ _,by simp[kq],⟨JL,Fw⟩,by rw[zQ];simp,by rw[zQ];simpa [kv]using tF,?_,?_,Yo⟩
           ·rw[uQ]
            intro e he
            obtain⟨i,hi⟩:=aE he
            have iJ:i<nt:=by have:=(aH.1 hi).1;rwa [kq]at this
            exact abz e (ca (elem i e iJ hi))
           ·intro d hd
            obtain⟨i,hi⟩:=aE hd
            simp only[ah,da]at hi
            obtain⟨x,hx,rfl⟩:=hi
            have iJ:i<nt:=by have:=(aH.1 hx).1;rwa [kq]at this
            exact alT i x iJ (elem i x iJ hx)
           ·intro i d j v c hd hc hv
            simp only[ah,da]at hd
            obtain⟨x,hx,rfl⟩:=hd
            have iJ:i<nt:=by have:=(aH.1 hx).1;rwa [kq]at this
            have hex:=elem i x iJ hx
            rw[ao1 _ (alT i x iJ hex)]at hc
            cases j with
            |succ j=>simp at hc
            |zero=>
             simp at hc;subst hc
             rw[zQ]at hv
             simp only[bM,gq,ay,cd,ep]at hv
             exact m4 i v x hv hex
          ·cases h
         ·cases h
        ·cases h
       ·cases h
      ·cases h
     ·cases h
    ·cases h
   ·cases h
  ·cases h
 ·cases h
theorem Bg{ops:Array Oper}{e:E}{T:TypeId}{t:Ty}{len:Nat}(hs:iq n w0 S0 C G σ a w)(hp: ¬C.M p)(hg:guardOf ops σ o=some pc)(h:tM P σ pc o=some (e,T,t,len))(own:Bool)(dm:own=true→pc=[])
  (bP:e.lt C.N=true) (eT: ∀d,o.dst=some d→d<n) (nk:S0.fr→yy P cs σ pc o=true) (mg: ¬S0.wz):
  fQ P n w0 S0 C ((⟨o.dst,(pc,if own then .one (.own (p,0) e t) else .one (.iW e (.list t))),[],if own then [((p,0),some (e,T,t))] else [],[],[]⟩:jI).app σ) p ops a w o:=by
 intro K Q hK
 obtain⟨hw,hc⟩:=gg hs.t hg
 have lP:(if own then SV.one (.own (p,0) e t) else SV.one (.iW e (.list t))).lt C.N=true:=by cases own<;>simpa [SV.lt,SC.lt]using bP
 rw[hw]
 cases eu:aU C.ρ pc with
 |false=>
  simp only[ak,if_false]
  have ho:own=false:=by
   cases own with
   |false=>rfl
   |true=>have:=dm rfl;subst this;simp[aU]at eu
  subst ho
  exact hK _ _ _ (hs.step (o:=o) (e:=⟨o.dst,(pc,.one (.iW e (.list t))),[],[],[],[]⟩) (dT.pV C w G p) ((hs.m.pV p).congr (dM _) (dM _)) rfl (by simpa [SV.lt,SC.lt]using bP) hc
   (by intro _;simp only[eu,ak,if_false]) eT)
 |true=>
  simp only[if_true]
  obtain⟨xs,l,fh,Ti,gA,qY,JL,ir,nq,iG,hr,Yo⟩:=Gp hs.t eu h
  unfold Oper.wp
  rw[fh]
  let G':Gh:={S:=fun b o=>G.S b o∨(b=w.heap.size∧o<xs.length),β:=G.β,τ:=fun g=>if g.1=p then .slice (some ⟨w.heap.size,0,none⟩) len len else G.τ g}
  have mT: ∀b o,G.S b o→(w.alloc (.cells xs.toArray T)).cell? ⟨b,o,none⟩=w.cell? ⟨b,o,none⟩:=fun b o uf=>World.cell?_alloc_lt w _ _ (hs.m.dO b o uf)
  have iR:Has (.list t) (den C.ρ e):=by rw[gA];exact bK.2 ⟨l,rfl,by rw[qY];exact JL,iG⟩
  have cI:j7 (C.add p) (w.alloc (.cells xs.toArray T)) w.heap.size G' (p,0) e T t:=by
   refine⟨.inr rfl,Ti,iR,xs,l,gA,?_,?_,?_⟩
   ·show(w.alloc _).ownsRow _ _ _ (if p=p then _ else _) _ _
    rw[if_pos rfl,qY]
    exact⟨nq,.inr ⟨w.heap.size,len,xs.toArray,rfl,bn _,heap_alloc_new w _,bn _,JL.1,by simpa using nq,by simp[←nq]⟩⟩
   ·intro b hb o
    have ju:b=w.heap.size:=by simp[G',Value.ownBlock]at hb;exact hb.symm
    constructor
    ·rintro(h|⟨_,h⟩)
     ·have:=hs.m.dO b o h;omega
     ·exact⟨rfl,h⟩
    ·intro ho;exact .inr ⟨ju,ho.2⟩
   ·intro i d j v c h1 h2 h3
    exact(hr i d j v c h1 h2 h3).keep (fun _ _ h=>.inl h) mT
  obtain⟨cp,hm⟩:=hs.m.called hp (S':=G'.S) (τ':=fun _=>.slice (some ⟨w.heap.size,0,none⟩) len len) ((Below.refl _ _).alloc (bn _) _) (fun _ _ h=>.inl h)
   (by
    rintro b o (h|⟨rfl,_⟩)
    ·have:=hs.m.dO b o h;simp;omega
    ·simp)
   (by
    rintro b o (h|⟨rfl,_⟩)
    ·exact .inl h
    ·exact .inr (bn _))
   (fg σ.live (if own then [((p,0),some (e,T,t))] else [])) G' rfl
   (by
    intro g x hx
    cases own with
    |false=>simp only[ak,if_false,dM]at hx;exact .inl ⟨fR hs.m hp hx,hx⟩
    |true=>
     simp only[if_true,fg,lk]at hx
     by_cases he:g=(p,0)
     ·rw[if_pos he]at hx;simp only[ae]at hx;subst hx;subst he;exact .inr ⟨rfl,cI⟩
     ·rw[if_neg he]at hx;exact .inl ⟨fR hs.m hp hx,hx⟩)
   (by
    intro j k x y b hx hy _ _
    have key: ∀j x,fg σ.live (if own then [((p,0),some (e,T,t))] else []) (p,j)=some x→j=0:=by
     intro j x hx
     cases own with
     |false=>simp only[ak,if_false,dM]at hx;exact absurd rfl (fR hs.m hp hx)
     |true=>
      simp only[if_true,fg,lk]at hx
      by_cases he:(p,j)=(p,0)
      ·simpa using he
      ·rw[if_neg he]at hx;exact absurd rfl (fR hs.m hp hx)
    rw[key j x hx,key k y hy])
   (fun lE _=>by
    have h1:=nk lE
    obtain⟨cl,jY,av9⟩: ∃cl,sw P σ pc o=some cl∧(cl.all Ir)=true:=by
     unfold tM at h
     split at h
     ·rename_i ho
      unfold yy at h1
      simp only[ho]at h1
      cases hl:sw P σ pc o with
      |none=>rw[hl]at h1;cases h1
      |some cl=>rw[hl]at h1;exact⟨cl,rfl,h1⟩
     ·cases h
    have pT:=Yo cl jY
    have an5: ∀u∈xs,oJ (Cm (kA w0 S0) w G.S) u:=by
     intro u hu
     obtain⟨i,hi⟩:=aE hu
     have iJ:i<cl.length:=by rw[←pT.1];exact(aH.1 hi).1
     exact vz (C:=C) (cn.1 av9 _ (aX iJ)) (hs.m.fresh lE) (pT.2 i _ u (aW iJ) hi)
    intro a0 n0 Tq ym
    by_cases hlen:len=0
    ·exact .inl hlen
    ·have an4:0<xs.length:=by rw[nq];exact Nat.mul_pos (by omega) ir
     refine .inr ⟨w.heap.size,0,rfl,fun b=>Cm (kA w0 S0) w G.S b∨b=w.heap.size,?_,.inr rfl⟩
     rintro b (hb|rfl)
     ·obtain⟨h3,⟨o1,h4⟩,⟨Yy,T0,h7⟩,h5⟩:=Cm.set _ _ _ b hb
      refine⟨h3,⟨o1,.inl h4⟩,⟨Yy,T0,(Below.heap_alloc w _ _ (hs.m.dO _ _ h4)).trans h7⟩,fun o2 u ye hu=> ?_⟩
      rcases ye with ye|⟨rfl,_⟩
      ·exact(h5 o2 u ye (by rw[←mT b o2 ye];exact hu)).mono fun _ h=>.inl h
      ·have:=hs.m.dO _ _ h4;omega
     ·refine⟨.inl hs.m.vX,⟨0,.inr ⟨rfl,an4⟩⟩,⟨_,_,heap_alloc_new w _⟩,fun o2 u ye hu=> ?_⟩
      rcases ye with ye|⟨_,zR⟩
      ·have:=hs.m.dO _ _ ye;omega
      ·have h6:(w.alloc (.cells xs.toArray T)).heap[w.heap.size]? =some (.cells xs.toArray T (0,0)):=heap_alloc_new w _
       rw[cell_of_row _ _ o2 _ T (0,0) h6]at hu
       simp only[dq]at hu
       exact(an5 u (ca hu)).mono fun _ h=>.inl h) mg
  refine hK _ _ _ (hs.step (o:=o) (e:=⟨o.dst,(pc,if own then .one (.own (p,0) e t) else .one (.iW e (.list t))),[],if own then [((p,0),some (e,T,t))] else [],[],[]⟩) cp (hm.congr (dM _) rfl) rfl lP hc ?_ eT)
  intro _
  simp only[eu,if_true]
  have jf:=cI.rep ir
  have iI:G'.τ (p,0)= .slice (some ⟨w.heap.size,0,none⟩) len len:=if_pos rfl
  rw[iI]at jf
  cases own with
  |true=>exact⟨.inr rfl,Ti,jf,iR,iI.symm⟩
  |false=>exact⟨Ti,jf,iR⟩
theorem Ni{e:E}{T:TypeId}{t:Ty}{len:Nat}(ht:jO C w G σ.tm a)(h:Am P σ o=some (e,T,t,len)):
  ∃(xs:List Value) (l:List D),(execOp a.eval o).run P w= .ok (.value (.slice (some ⟨w.heap.size,0,none⟩) len len)) (w.alloc (.cells xs.toArray T))∧e.lt C.N=true∧den C.ρ e= .list l∧l.length=len∧oG t len∧
   0<t.cells.length∧xs.length=len*t.cells.length∧(∀d∈l,Has t d)∧
   (∀(i:Nat) d (j:Nat) v c,l[i]? =some d→d.cells[j]? =some c→xs[i*t.cells.length+j]? =some v→cH w G.S v c):=by
 unfold Am at h
 split at h
 ·rename_i e' T' t' n' hl
  obtain⟨rfl,rfl,rfl,rfl⟩:=zP4 h
  obtain⟨xs,l,h1,h2,h3,h4,h5,h6,h7,h8,h9,_⟩:=Gp ht (pc:=[]) rfl hl
  exact⟨xs,l,h1,h2,h3,h4,h5,h6,h7,h8,h9⟩
 ·unfold aaP at h
  split at h
  ·rename_i tt kl n kc m ho
   split at h
   ·rename_i el hu
    split at h
    ·rename_i ie k vL jA
     split at h
     ·rename_i hc
      obtain⟨rfl,ir,XB,iY,hz,hby⟩:=hc
      have hz:=YC hz
      obtain⟨rfl,rfl,rfl,rfl⟩:=zP4 h
      have fh:=run_make (P:=P) (w:=w) tt el ie (.int k 0) hu vL hz kl kc n n (by omega) (cA _) (by
       have:(ie.bytes:Int)*n≤8*1000:=Int.mul_le_mul (by omega) XB (by omega) (by omega)
       omega) (by omega)
      have gA: ∀q:Nat,den C.ρ (.dJ (List.replicate q (E.aT k 0)))= .list (List.replicate q (D.int k 0)):=fun q=>by rw[gG];simp[den]
      have h0:oY k 0:=by cases k<;>exact⟨by decide,by decide⟩
      refine⟨List.replicate n.toNat (.int k 0),List.replicate n.toNat (.int k 0),?_,?_,gA _,by simp,⟨?_,?_⟩,by simp[Ty.cells],by simp[Ty.cells],?_,?_⟩
      ·have e1:madeCells (Value.int k 0).cells (n.toNat*ie.size)=(List.replicate n.toNat (Value.int k 0)).toArray:=by
        rw[iY,cd]
        unfold madeCells
        apply dg
        rw[Array.toList_map]
        apply List.ext_getElem
        ·simp
        ·intro i h1 h2
         simp[Value.cells,Nat.mod_one]
       rw[←e1]
       unfold execOp;simp only[ho,bA]
       rw[show a.eval (.const (.int kl n))= .int kl n from rfl,show a.eval (.const (.int kc n))= .int kc n from rfl,fh];rfl
      ·rw[uQ];intro e he;rw[List.eq_of_mem_replicate he];rfl
      ·have h9:(16777216:Nat)≤maxLen:=by decide
       omega
      ·have:(Ty.int k).bytes≤8:=by cases k<;>decide
       have:n.toNat*(Ty.int k).bytes≤1000*8:=Nat.mul_le_mul (by omega) this
       omega
      ·intro d hd;rw[List.eq_of_mem_replicate hd];exact⟨0,rfl,h0⟩
      ·intro i d j v c h1 h2 h3
       have hd:=List.eq_of_mem_replicate (ca h1)
       subst hd
       have hv:=List.eq_of_mem_replicate (ca h3)
       subst hv
       cases j with
       |zero=>simp[D.cells]at h2;subst h2;exact .int _ _
       |succ j=>simp[D.cells]at h2
     ·cases h
    ·cases h
   ·cases h
  ·cases h
theorem Iz{ops:Array Oper}{e:jI}(hs:iq n w0 S0 C G σ a w)(hp: ¬C.M p)(hg:guardOf ops σ o=some [])(h:XU P σ p o=some e)(eT: ∀d,o.dst=some d→d<n)(qp: ¬S0.fr)(mg: ¬S0.wz):
  fQ P n w0 S0 C (e.app σ) p ops a w o:=by
 unfold XU at h
 split at h
 ·rename_i ee T t len hl
  injection h with h;subst h
  intro K Q hK
  obtain⟨hw,hc⟩:=gg hs.t hg
  rw[hw,if_pos (show aU C.ρ [] =true from rfl)]
  obtain⟨xs,l,fh,Ti,gA,qY,JL,ir,nq,iG,hr⟩:=Ni hs.t hl
  unfold Oper.wp
  rw[fh]
  let G':Gh:={S:=G.S,β:=G.β,τ:=fun g=>if g.1=p then .slice (some ⟨w.heap.size,0,none⟩) len len else G.τ g}
  have mT: ∀b o,G.S b o→(w.alloc (.cells xs.toArray T)).cell? ⟨b,o,none⟩=w.cell? ⟨b,o,none⟩:=fun b o uf=>World.cell?_alloc_lt w _ _ (hs.m.dO b o uf)
  have iR:Has (.list t) (den C.ρ ee):=by rw[gA];exact bK.2 ⟨l,rfl,by rw[qY];exact JL,iG⟩
  have cI:j7 (C.add p) (w.alloc (.cells xs.toArray T)) w.heap.size G' (p,1000) ee T t:=by
   refine⟨.inr rfl,Ti,iR,xs,l,gA,?_,?_,?_⟩
   ·show(w.alloc _).ownsRow _ _ _ (if p=p then _ else _) _ _
    rw[if_pos rfl,qY]
    exact⟨nq,.inr ⟨w.heap.size,len,xs.toArray,rfl,bn _,heap_alloc_new w _,bn _,JL.1,by simpa using nq,by simp[←nq]⟩⟩
   ·intro b hb o
    have ju:b=w.heap.size:=by simp[G',Value.ownBlock]at hb;exact hb.symm
    constructor
    ·intro h
     have:=hs.m.dO b o h;omega
    ·intro ho;exact Bool.noConfusion ho.1
   ·intro i d j v c h1 h2 h3
    exact(hr i d j v c h1 h2 h3).keep (fun _ _ h=>h) mT
  have alD: ∀j x,fg σ.live [((p,1000),some (ee,T,t))] (p,j)=some x→j=1000:=by
   intro j x hx
   simp only[fg,lk]at hx
   by_cases he:(p,j)=(p,1000)
   ·simpa using he
   ·rw[if_neg he]at hx;exact absurd rfl (fR hs.m hp hx)
  obtain⟨cp,hm⟩:=hs.m.called hp (S':=G'.S) (τ':=fun _=>.slice (some ⟨w.heap.size,0,none⟩) len len) ((Below.refl _ _).alloc (bn _) _) (fun _ _ h=>h)
   (by
    intro b o h
    have:=hs.m.dO b o h;simp;omega)
   (fun b o h=>.inl h)
   (fg σ.live [((p,1000),some (ee,T,t))]) G' rfl
   (by
    intro g x hx
    simp only[fg,lk]at hx
    by_cases he:g=(p,1000)
    ·rw[if_pos he]at hx;simp only[ae]at hx;subst hx;subst he;exact .inr ⟨rfl,cI⟩
    ·rw[if_neg he]at hx;exact .inl ⟨fR hs.m hp hx,hx⟩)
   (by
    intro j k x y b hx hy _ _
    rw[alD j x hx,alD k y hy])
   (fun lE=>absurd lE qp) mg
  refine hK _ _ _ (hs.step (o:=o) (e:=⟨o.dst,([],.one (.xo (p,1000) t)),[],[((p,1000),some (ee,T,t))],[],[]⟩) cp (hm.congr (dM _) rfl) rfl rfl hc ?_ eT)
  intro _
  simp only[aU,bW,if_true]
  have iI:G'.τ (p,1000)= .slice (some ⟨w.heap.size,0,none⟩) len len:=if_pos rfl
  exact⟨.inr rfl,iI.symm,_,_,_,rfl⟩
 ·cases h
theorem wF{ops:Array Oper}{e:jI}(hs:iq n w0 S0 C G σ a w)(he:sY P cs ops σ p o=some e)(hp: ¬C.M p)(yn:p<C.N)(iF: ∀k sig,lk cs.l k=some sig→bh P k sig (Pre k) (Φ k))
  (bP:e.yh.2.lt C.N=true) (iw: ∀it∈e.items,eU C Φ Pre it) (eT: ∀d,o.dst=some d→d<n) (nk:S0.fr→ ∀pc,guardOf ops σ o=some pc→yy P cs σ pc o=true) (hwz:S0.wz→Mu o.op<3) (hE:Mh P cs S0 Φ Pre):fQ P n w0 S0 C (e.app σ) p ops a w o:=by
 unfold sY at he
 split at he
 ·cases he
 ·rename_i pc hg
  split at he
  ·split at he
   ·rename_i l hl
    split at he
    ·rename_i hc
     obtain⟨rfl,mf⟩:=hc
     injection he with he;subst he
     exact KU hs hp hg hl mf eT
    ·cases he
   ·cases he
  ·split at he
   ·rename_i id l hl
    split at he
    ·rename_i hc
     obtain⟨rfl,mf,hd⟩:=hc
     injection he with he;subst he
     exact FC hs hg hl mf hd
    ·cases he
   ·cases he
  ·split at he
   ·rename_i e' t fz hf
    injection he with he;subst he
    exact Nd hs hg hf (by simpa [SV.lt,SC.lt]using bP) eT
   ·cases he
  ·rename_i hkd
   have mg: ¬S0.wz:=fun hw=>by have:=hwz hw;omega
   split at he
   ·rename_i k e' sig hc
    injection he with he;subst he
    exact IB hs hp yn hg hc iF (iw _ (by simp)) bP eT _ (fun lE=>nk lE _ hg) mg
   ·split at he
    ·rename_i x hx
     split at he
     ·rename_i eu
      subst eu
      injection he with he;subst he
      refine rr hs hp yn hg rfl hx iF (iw _ (by simp[qJ.Hj])) bP eT (fun lE=> ?_) mg
      have h1:=nk lE _ hg
      unfold jP at hx
      split at hx
      ·rename_i f args argTypes ho
       split at hx
       ·rename_i fe k' hf
        split at hx
        ·rename_i sig pq
         split at hx
         ·rename_i ob fX
          unfold yy at h1
          have h2:F2 cs o.dst k'=some sig:=by
           unfold F2
           rw[pq]
           simp[fX]
          simp only[ho,hf,h2,fX,bc]at h1
          simp at h1
         ·cases hx
        ·cases hx
       ·cases hx
      ·cases hx
     ·cases he
    ·split at he
     ·rename_i k e' sig rd hl
      split at he
      ·rename_i hc
       have wO:=hc
       injection he with he;subst he
       exact FE hs hp yn hg hl iF (iw _ (by simp)) bP eT _ (fun lE=>by have:=hE.1 lE;omega) mg
      ·cases he
     ·cases he
  ·rename_i hkd
   have mg: ¬S0.wz:=fun hw=>by have:=hwz hw;omega
   split at he
   ·rename_i e1 e2 T t b ha
    split at he
    ·rename_i eu
     subst eu
     injection he with he;subst he
     exact B8 hs hp hg ha (iw _ (by simp)) (iw _ (by simp)) eT _ (fun lE=>nk lE _ hg) mg
    ·cases he
   ·split at he
    ·rename_i g e1 e2 T t b ha
     split at he
     ·rename_i eu
      subst eu
      injection he with he;subst he
      exact EN hs hp hg ha (iw _ (by simp)) eT _ (fun lE=>nk lE _ hg) mg
     ·cases he
    ·cases he
  ·rename_i hkd
   have mg: ¬S0.wz:=fun hw=>by have:=hwz hw;omega
   split at he
   ·rename_i e' T t len hl
    split at he
    ·rename_i PJ
     injection he with he;subst he
     have:=Bg (p:=p) hs hp hg hl true (fun _=>by simpa using PJ) (by simpa [SV.lt,SC.lt]using bP) eT (fun lE=>nk lE _ hg) mg
     simpa using this
    ·injection he with he;subst he
     have:=Bg (p:=p) hs hp hg hl false (fun h=>by cases h) (by simpa [SV.lt,SC.lt]using bP) eT (fun lE=>nk lE _ hg) mg
     simpa using this
   ·cases he
  ·split at he
   ·rename_i s is rd xw
    injection he with he;subst he
    exact FD hs hg xw bP iw eT hE.prog
   ·cases he
theorem WK{ops:Array Oper}{e:jI}(hs:iq n w0 S0 C G σ a w)(he:Ga P cs ops σ p o=some e)(hp: ¬C.M p)(yn:p<C.N)(iF: ∀k sig,lk cs.l k=some sig→bh P k sig (Pre k) (Φ k))
  (bP:e.yh.2.lt C.N=true) (iw: ∀it∈e.items,eU C Φ Pre it) (eT: ∀d,o.dst=some d→d<n) (qp: ¬S0.fr) (mg: ¬S0.wz) (hE:Mh P cs S0 Φ Pre):fQ P n w0 S0 C (e.app σ) p ops a w o:=by
 unfold Ga at he
 split at he
 ·rename_i k E3 hk
  have hg:guardOf ops σ o=some [] :=by unfold guardOf;rw[E3]
  unfold Tp at he
  split at he
  ·exact FA hs E3 he bP eT
  ·exact EK hs E3 he
  ·exact IA hs E3 he bP eT
  ·exact EL hs E3 he iw bP eT
  ·unfold Ib at he
   split at he
   ·rename_i g e1 e2 T t b ha
    injection he with he;subst he
    exact IC hs hp hg ha (iw _ (by simp)) eT _ qp mg
   ·cases he
  ·exact Iz hs hp hg he eT qp mg
  ·exact FB hs hp yn hg he iF iw bP eT qp mg
 ·split at he
  ·rename_i pc hg
   split at he
   ·exact EM hs hp yn hg he iF iw bP eT qp mg
   ·exact wF hs he hp yn iF bP iw eT (fun lE=>absurd lE qp) (fun hw=>absurd hw mg) hE
  ·cases he
 ·exact wF hs he hp yn iF bP iw eT (fun lE=>absurd lE qp) (fun hw=>absurd hw mg) hE
def Cu(P:Program)(cs:o3)(σ:St)(o:Oper):Option dQ:=
 match o.op with
 |.call {callee:=.value f,.. }=>
  match gu P σ [] f 0 with
  |some (.one (.iW _ (.fn k .nil)))=>lk cs.l k
  |_=>none
 |_=>none
def SH(cs:o3)(o:Oper):Option (Nat×dQ×Ty):=
 match o.op,o.guard with
 |.call {callee:=.value (.func k),.. },none=>match lk cs.et k with
  |some sg=>sg.nn.map fun y=>(k,y)
  |none=>none
 |_,_=>none
def nnX(P:Program)(σ:St)(o:Oper)(y:Nat×dQ×Ty):Option qJ:=
 match jP P ⟨[(y.1,y.2.1)],[],0,[],[]⟩ σ [] o with
 |some x=>if x.k=y.1∧x.ob.new=true∧x.ob.cC=[] ∧x.ids=[] ∧x.own=[] then some x else none
 |none=>none
def PA(p:Nat):E:=.un .De (.un (.cell 0) (.var p))
def A4(x:qJ)(t:Ty)(p:Nat)(dst:Option Nat):Bool→jI
 |true=>{x.Hj p dst with items:=[.Oa [(PA p,false)] true,.call p x.k x.args []]}
 |false=>⟨dst,([],.one (.iW .gW t)),[],[],[],[.Oa [(PA p,true)] true,.call p x.k x.args []]⟩
def lK(d:Option Bool)(P:Program)(cs:o3)(ops:Array Oper)(σ:St)(p:Nat)(o:Oper):Option jI:=
 match d,SH cs o with
 |none,_=>Ar P cs ops σ p o
 |some b,some y=>if cs.fr !=0 then none else match y.2.2 with
  |.ptr fs=>(nnX P σ o y).map fun x=>A4 x (.ptr fs) p o.dst b
  |_=>none
 |some true,none=>if cs.fr !=0 then none else match guardOf ops σ o with
  |some pc=>match jP P cs σ pc o with
   |some x=>some {x.Hj p o.dst with items:=[.Oa pc true,.call p x.k x.args []]}
   |none=>none
  |none=>none
 |some false,none=>match guardOf ops σ o,Cu P cs σ o with
  |some pc,some sig=>some ⟨o.dst,(pc,xL false p (.un (.cell 0) (.var p)) sig.res),[],[],[],[.Oa pc false]⟩
  |_,_=>none
theorem Vz{y:Nat×dQ×Ty}{x:qJ}(h:nnX P σ o y=some x):jP P ⟨[(y.1,y.2.1)],[],0,[],[]⟩ σ [] o=some x∧x.k=y.1∧x.ob.new=true∧x.ob.cC=[] ∧x.ids=[] ∧x.own=[] :=by
 unfold nnX at h
 split at h
 ·rename_i x' hx
  split at h
  ·rename_i hc;injection h with h;subst h;exact⟨hx,hc⟩
  ·cases h
 ·cases h
theorem Zl{y:Nat×dQ×Ty}(h:SH cs o=some y):o.guard=none∧(∃args argTypes,o.op= .call {callee:=.value (.func y.1),args,argTypes})∧ ∃sg,lk cs.et y.1=some sg∧sg.nn=some y.2:=by
 unfold SH at h
 split at h
 ·rename_i k args argTypes ho hg
  split at h
  ·rename_i sg hsg
   simp only[da]at h
   obtain⟨z,hz,rfl⟩:=h
   exact⟨hg,⟨_,_,ho⟩,sg,hsg,hz⟩
  ·cases h
 ·cases h
theorem VB{α β:Type}[DecidableEq α]{a k:α}{b v:β}(h:lk [(a,b)] k=some v):k=a∧v=b:=by
 simp only[lk]at h
 split at h
 ·injection h with h;exact⟨by assumption,h.symm⟩
 ·cases h
theorem Nc{ops:Array Oper}{y:Nat×dQ×Ty}{x:qJ}{fs:Ty}{b:Bool}(hs:iq n w0 S0 C G σ a w)(hp: ¬C.M p)(yn:p<C.N)(hy:SH cs o=some y)(hx:nnX P σ o y=some x)
  (bP:(A4 x (.ptr fs) p o.dst b).yh.2.lt C.N=true) (iw: ∀it∈(A4 x (.ptr fs) p o.dst b).items,eU C Φ Pre it) (eT: ∀d,o.dst=some d→d<n) (wO:Mh P cs S0 Φ Pre) (qp: ¬S0.fr) (mg: ¬S0.wz):
  fQ P n w0 S0 C ((A4 x (.ptr fs) p o.dst b).app σ) p ops a w o:=by
 obtain⟨hg0,⟨args,argTypes,ho⟩,sg,hsg,Sc⟩:=Zl hy
 obtain⟨h1,hk,jN,nM,kz,dm⟩:=Vz hx
 have hN:=wO.nn _ _ _ _ hsg Sc
 have hg:guardOf ops σ o=some [] :=by unfold guardOf;rw[hg0]
 have awf:aU C.ρ [(PA p,!b)] =true:=by
  cases b with
  |true=>exact iw (.Oa [(PA p,false)] true) (by simp[A4])
  |false=>exact iw (.Oa [(PA p,true)] true) (by simp[A4])
 have UB:eU C Φ Pre (.call p x.k x.args []):=iw _ (by cases b<;>simp[A4])
 have Yp:((Φ x.k (den C.ρ x.args).aV).aV.getD 0 .top).ic= !b:=by
  obtain⟨_,_,h3,_⟩:=UB
  have h4:C.ρ p=Φ x.k (den C.ρ x.args).aV:=h3
  rw[←h4]
  simpa [aU,PA,den,U.den,D.gV]using awf
 cases b with
 |true=>
  refine rr (cs:=⟨[(y.1,y.2.1)],[],0,[],[]⟩) (Φ:=Φ) (Pre:=fun k ds=>Pre k ds∧((Φ k ds).aV.getD 0 .top).ic=false) hs hp yn hg rfl h1 ?_ ?_ bP eT qp mg
  ·intro k' mJ hl
   obtain⟨rfl,rfl⟩:=VB hl
   exact hN.new
  ·obtain⟨c1,c2,c3,c4⟩:=UB
   exact⟨c1,c2,c3,fun hc=>⟨c4 hc,Yp⟩⟩
 |false=>
  intro K Q hK
  obtain⟨hw,hc⟩:=gg hs.t hg
  rw[hw,if_pos (show aU C.ρ [] =true from rfl)]
  unfold jP at h1
  simp only[ho]at h1
  split at h1
  ·rename_i fe k' hf
   split at h1
   ·rename_i sig pq
    obtain⟨rfl,rfl⟩:=VB pq
    split at h1
    ·rename_i ob fX
     split at h1
     ·rename_i es SK rI
      split at h1
      ·rename_i zT l oH
       split at h1
       ·rename_i lQ
        injection h1 with h1;subst h1
        simp only at nM kz dm Yp hk jN
        obtain⟨jA,_,_,_,_,_,_,C3,_,_⟩:=lQ
        obtain⟨f1,f2,f3⟩:=cK hs.t (pc:=[]) rfl hf
        obtain⟨fl,wM,N8⟩:=mo.1 f3
        have Hu:fl=[] :=dr.1 N8
        subst Hu
        obtain⟨Lt,PR,uI,_⟩:=(wM▸f2).xN
        have Hv:Lt=[] :=au uI
        subst Hv
        have aou:SK=[] :=by
         cases SK with
         |nil=>rfl
         |cons i r=>
          have:=Gy (σ:=σ) (ob:=ob) (ids:=i::r) (i:=0) (id:=i) rfl
          rw[kz]at this;cases this
        subst aou
        have avZ:zT=[] :=by
         rw[kz,nM]at oH
         simp only[xa,ae,ai]at oH
         exact oH.1.symm
        subst avZ
        obtain⟨fP,Uu⟩:=zi (k:=0) (β:=G.β) hs.t (pc:=[]) rfl rI (fun i id hi=>by simp at hi)
        have gA:(den C.ρ (.dJ (es.map (·.1)++([] :List (List E)).flatten))).aV=(es.map fun x=>den C.ρ x.1)++([] :List (List D)).flatten:=by
         rw[gG]
         simp only[D.aV,cz,List.map_map,List.flatten_nil,List.map_nil,cQ]
         rfl
        obtain⟨_,_,_,ks⟩:=UB
        have lS:=ks rfl
        rw[gA]at lS Yp
        have ly:Ge w G.S ob G.β (fun _=>.nilIface) (args.toList.map a.eval) (es.map fun x=>den C.ρ x.1) [] :=by
         refine⟨hs.m.dO,fP,by rw[nM];rfl,?_,?_,?_,?_,?_⟩
         ·intro o rc cells hi;rw[nM]at hi;simp at hi
         ·intro i j hi;rw[nM]at hi;simp at hi
         ·intro j k b hj;unfold Ob.kU at hj;rw[nM]at hj;simp at hj
         ·intro j o b hj;unfold Ob.kU at hj;rw[nM]at hj;simp at hj
         ·intro hh;rw[nM]at hh;simp at hh
        have iR:dK (.dJ y.2.1.params) ((es.map fun x=>den C.ρ x.1)++([] :List (List D)).flatten):=by
         rw[←jA,nM]
         simpa using Uu
        have fh:(execOp a.eval o).run P w= .ok (.enter y.1 (args.toList.map a.eval).toArray) w:=by
         have e1:(args.toList.map a.eval).toArray=args.map a.eval:=by apply dg;simp
         unfold execOp;simp only[ho,resolve,PR,Deferred.ofValue,e1]
         have:=hN.new.enter (args.map a.eval) w
         simpa [invoke]using this
        unfold Oper.wp
        rw[fh]
        refine(hN.nil ob fX w G.S G.β (fun _=>.nilIface) _ _ _ ly iR lS Yp).mono ?_
        rintro e' w' ⟨rfl,lG⟩
        simp only
        obtain⟨cp,hm⟩:=hs.m.called hp (S':=G.S) (τ':=fun _=>.nilIface) lG (fun _ _ h=>h) (fun b o hb=>ar (hs.m.dO b o hb) lG.size) (fun _ _ h=>.inl h) σ.live _ rfl
         (fun g z hz=>.inl ⟨fun e=>hp (by rw[←e];exact(hs.m.own g z.1 z.2.1 z.2.2 hz).m),hz⟩) (fun j k z u b hz=>absurd ((hs.m.own (p,j) z.1 z.2.1 z.2.2 hz).m) hp) (fun h=>absurd h qp) mg
        refine hK _ _ _ (hs.step (o:=o) (e:=A4 _ (.ptr fs) p o.dst false) cp (hm.congr (dM _) (dM _)) rfl bP (by intro x hx;cases hx) ?_ eT)
        intro _
        refine(if_pos (show aU C.ρ ([] :dI)=true from rfl)).mpr ?_
        exact⟨rfl,.gW,m9.2 (.inl rfl)⟩
       ·cases h1
      ·cases h1
     ·cases h1
    ·cases h1
   ·cases h1
  ·cases h1
theorem AM{d:Option Bool}{ops:Array Oper}{e:jI}(hs:iq n w0 S0 C G σ a w)(he:lK d P cs ops σ p o=some e)(hp: ¬C.M p)(yn:p<C.N)(iF: ∀k sig,lk cs.l k=some sig→bh P k sig (Pre k) (Φ k))
  (bP:e.yh.2.lt C.N=true) (iw: ∀it∈e.items,eU C Φ Pre it) (eT: ∀d,o.dst=some d→d<n) (wO:Mh P cs S0 Φ Pre):fQ P n w0 S0 C (e.app σ) p ops a w o:=by
 unfold lK at he
 split at he
 ·unfold Ar at he
  split at he
  ·rename_i hf
   exact WK hs he hp yn iF bP iw eT (fun lE=>by have:=wO.1 lE;omega) (fun lE=>by have:=wO.2 lE;omega) wO
  ·rename_i hf
   split at he
   ·rename_i pc hg
    split at he
    ·rename_i cI
     exact wF hs he hp yn iF bP iw eT (fun _ pc' z6=>by rw[hg]at z6;injection z6 with z6;subst z6;exact cI) (fun lE=>by have:=wO.2 lE;omega) wO
    ·cases he
   ·cases he
  ·rename_i hf0 LK
   split at he
   ·rename_i hk
    exact wF hs he hp yn iF bP iw eT (fun lE=>absurd (wO.1 lE) LK) (fun _=>hk) wO
   ·cases he
 ·rename_i b y hy
  split at he
  ·cases he
  ·rename_i hf
   have hf':cs.fr=0:=by simpa using hf
   split at he
   ·rename_i fs hfs
    simp only[da]at he
    obtain⟨x,hx,rfl⟩:=he
    exact Nc hs hp yn hy hx bP iw eT wO (fun lE=>by have:=wO.1 lE;omega) (fun lE=>by have:=wO.2 lE;omega)
   ·cases he
 ·split at he
  ·cases he
  ·rename_i hf
   have hf':cs.fr=0:=by simpa using hf
   split at he
   ·rename_i pc hg
    split at he
    ·rename_i x hx
     injection he with he;subst he
     exact rr hs hp yn hg (iw (.Oa pc true) (by simp)) hx iF (iw _ (by simp)) bP eT (fun lE=>by have:=wO.1 lE;omega) (fun lE=>by have:=wO.2 lE;omega)
    ·cases he
   ·cases he
 ·split at he
  ·rename_i pc sig hg hx
   injection he with he;subst he
   intro K Q hK
   obtain⟨hw,hc⟩:=gg hs.t hg
   have eu:aU C.ρ pc=false:=iw (.Oa pc false) (by simp)
   rw[hw,eu]
   simp only[ak,if_false]
   refine hK _ _ _ (hs.step (o:=o) (dT.pV C w G p) ((hs.m.pV p).congr (dM _) (dM _)) rfl bP hc (by intro _;simp only[eu,ak,if_false]) eT)
  ·cases he
end
section
variable{P:Program}{σ σ':St}{o:Oper}{pc:dI}
def iv(P:Program)(σ σ':St)(xs:List Operand):Prop:= ∀x∈xs,∀(q:dI) (hint:TypeId),gu P σ' q x hint=gu P σ q x hint
theorem Zt{t:Nat}(h:σ'.tm t=σ.tm t)(q:dI)(hint:TypeId):gu P σ' q (.tmp t) hint=gu P σ q (.tmp t) hint:=by
 simp only[gu,Fm,h]
theorem wm{xs:List Operand}(h: ∀t,Operand.tmp t∈xs→σ'.tm t=σ.tm t):iv P σ σ' xs:=by
 intro x hx q hint
 cases x with
 |tmp t=>exact Zt (h t hx) q hint
 |const v=>cases v<;>simp only[gu,Fm]
 |global g=>simp only[gu,Fm]
 |func f=>simp only[gu,Fm]
theorem iv.d{xs:List Operand}(h:iv P σ σ' xs){x:Operand}(hx:x∈xs)(q:dI)(hint:TypeId):fK P σ' q x hint=fK P σ q x hint:=by
 unfold fK;rw[h x hx]
theorem BD: ∀{xs:List Operand} {ts:List TypeId},iv P σ σ' xs→Bc P σ' pc xs ts=Bc P σ pc xs ts
 | [],[],_=>rfl
 | [],_::_,_=>rfl
 |_::_,[],_=>rfl
 |x::xs,t::ts,h=>by
  simp only[Bc]
  rw[h.d (bI ..),BD (fun y hy=>h y (aI _ hy))]
theorem lW(hint:Nat→TypeId): ∀{xs:List (Nat×Operand)},iv P σ σ' (xs.map (·.2))→n9 P σ' pc hint xs=n9 P σ pc hint xs
 | [],_=>rfl
 |(i,x)::xs,h=>by
  simp only[n9]
  rw[h x (by simp),lW hint (fun y hy=>h y (by simp only[cZ];exact aI _ hy))]
theorem vC: ∀{xs:List Operand} {es:List (E×Ty)} {fz:List (Nat×List SC)},iv P σ σ' xs→uM P σ pc xs=some (es,fz)→(∀x∈fz,σ'.hp x.1=σ.hp x.1)→uM P σ' pc xs=some (es,fz)
 | [],es,fz,_,h,_=>h
 |x::xs,es,fz,hs,h,ug=>by
  simp only[uM]at h⊢
  rw[hs x (bI ..)]
  have uf:iv P σ σ' xs:=fun y hy=>hs y (aI _ hy)
  split at h
  ·rename_i id wY Xn hg hr
   split at h
   ·rename_i ro cs fD
    split at h
    ·rename_i ds ts qC
     obtain⟨rfl,rfl⟩:=jC h
     rw[vC uf hr (fun y hy=>ug y (aI _ hy))]
     simp only[hg]
     rw[ug (id,cs) (by simp)]
     simp only[fD,qC]
    ·cases h
   ·cases h
  ·rename_i e fs wY Xn hg hr
   obtain⟨rfl,rfl⟩:=jC h
   rw[vC uf hr ug]
   simp only[hg]
  ·cases h
theorem FH{pl:Pl}{rd:List Nat}(hs:iv P σ σ' o.op.operands.toList)(h:tc P σ pc o=some (pl,rd))(ug: ∀id∈rd,σ'.hp id=σ.hp id):tc P σ' pc o=some (pl,rd):=by
 have e: ∀{x:Option Pl} {y:Option Pl},y=x→x.map (·,([] :List Nat))=some (pl,rd)→y.map (·,([] :List Nat))=some (pl,rd):=fun h1 h2=>h1▸h2
 unfold tc at h⊢
 split at h
 ·rename_i t x ho
  rw[ho]at hs
  try simp only[ho]
  unfold HM at h⊢
  simp only[ho]at h⊢
  rw[hs x (by simp[Op.operands])]
  split at h
  ·cases h
  ·rename_i hc
   rw[if_neg hc]
   split at h
   ·rename_i id off hx
    try simp only[hx]
    split at h
    ·rename_i ro cs fD
     have hrd:rd=[id] :=by
      split at h
      ·cases h
      split at h
      ·split at h
       ·split at h
        ·injection h with h;simp only[ai]at h;exact h.2.symm
        ·cases h
       ·cases h
      ·split at h
       ·injection h with h;simp only[ai]at h;exact h.2.symm
       ·cases h
     rw[ug id (by rw[hrd];simp),fD]
     exact h
    ·cases h
   ·rename_i hx;try simp only[hx]
    exact h
   ·rename_i hx;try simp only[hx]
    exact h
   ·rename_i hx;try simp only[hx]
    exact h
   ·cases h
 ·rename_i x ho;rw[ho]at hs;try simp only[ho]
  refine e ?_ h
  unfold Dv;simp only[ho];rw[hs x (by simp[Op.operands])]
 ·rename_i x ho;rw[ho]at hs;try simp only[ho]
  refine e ?_ h
  unfold Dv;simp only[ho];rw[hs x (by simp[Op.operands])]
 ·rename_i c x y ho;rw[ho]at hs;try simp only[ho]
  refine e ?_ h
  unfold HK;simp only[ho]
  rw[hs.d (x:=c) (by simp[Op.operands])]
  have h1:=fun q hint=>hs.d (x:=x) (by simp[Op.operands]) q hint
  have h2:=fun q hint=>hs.d (x:=y) (by simp[Op.operands]) q hint
  simp only[h1,h2]
 ·rename_i op xt x y yt ho;rw[ho]at hs;try simp only[ho]
  refine e ?_ h
  unfold HN zh Ot;simp only[ho]
  rw[hs.d (x:=x) (by simp[Op.operands]),hs.d (x:=y) (by simp[Op.operands]),hs x (by simp[Op.operands])]
 ·rename_i op xt x ho;rw[ho]at hs;try simp only[ho]
  refine e ?_ h
  have h1:=fun q hint=>hs.d (x:=x) (by simp[Op.operands]) q hint
  unfold SD;simp only[ho]
  cases op<;>simp only[h1]
 ·rename_i s d x ho;rw[ho]at hs;try simp only[ho]
  refine e ?_ h
  unfold SD;simp only[ho]
  rw[hs.d (x:=x) (by simp[Op.operands])]
 ·rename_i x j ho;rw[ho]at hs;try simp only[ho]
  refine e ?_ h
  unfold wy;simp only[ho];rw[hs x (by simp[Op.operands])]
 ·rename_i t x f ho;rw[ho]at hs;try simp only[ho]
  refine e ?_ h
  unfold qU;simp only[ho];rw[hs x (by simp[Op.operands])]
 ·rename_i t x f ho;rw[ho]at hs;try simp only[ho]
  refine e ?_ h
  unfold Cv;simp only[ho];rw[hs x (by simp[Op.operands])]
 ·rename_i t x i ho;rw[ho]at hs;try simp only[ho]
  refine e ?_ h
  have h1:=fun q hint=>hs x (by simp[Op.operands]) q hint
  have h2:=fun q hint=>hs.d (x:=x) (by simp[Op.operands]) q hint
  have h3:=fun q hint=>hs.d (x:=i) (by simp[Op.operands]) q hint
  have e1:pK P σ' pc o=pK P σ pc o:=by
   unfold pK;simp only[ho]
   rw[h2,h3]
  have e3:mG P σ' pc o=mG P σ pc o:=by
   unfold mG;simp only[ho]
   rw[h1,h3]
  have e2:nX P σ' pc o=nX P σ pc o:=by
   unfold nX;simp only[ho]
   split
   ·rename_i zY;injection zY with q1 q2 q3;subst q1;subst q2;rw[h1]
   ·rfl
  unfold qT;rw[e1,e2,e3]
 ·rename_i x ho;rw[ho]at hs;try simp only[ho]
  refine e ?_ h
  unfold Oq;simp only[ho];rw[hs x (by simp[Op.operands])]
 ·rename_i t x lo hi ho;rw[ho]at hs;try simp only[ho]
  refine e ?_ h
  unfold Ct;simp only[ho]
  have h1:=fun q hint=>hs.d (x:=x) (by simp[Op.operands]) q hint
  have h2:=fun y (hy:y∈lo.toArray) q hint=>hs.d (x:=y) (by simp[Op.operands]at hy⊢;simp[hy]) q hint
  have h3:=fun y (hy:y∈hi.toArray) q hint=>hs.d (x:=y) (by simp[Op.operands]at hy⊢;simp[hy]) q hint
  cases lo with
  |none=>cases hi with
   |none=>simp only[h1]
   |some y=>simp only[h1,h3 y (by simp)]
  |some z=>cases hi with
   |none=>simp only[h1,h2 z (by simp)]
   |some y=>simp only[h1,h3 y (by simp),h2 z (by simp)]
 ·rename_i t x lo hi mx tV ho;rw[ho]at hs;try simp only[ho]
  cases mx with
  |none=>exact absurd rfl tV
  |some m=>
   refine e ?_ h
   unfold zg;simp only[ho]
   have h1:=fun q hint=>hs.d (x:=x) (by simp[Op.operands]) q hint
   have h3:=fun y (hy:y∈hi.toArray) q hint=>hs.d (x:=y) (by simp[Op.operands]at hy⊢;simp[hy]) q hint
   have h4:=fun q hint=>hs.d (x:=m) (by simp[Op.operands]) q hint
   cases lo with
   |some z=>rfl
   |none=>cases hi with
    |none=>rfl
    |some y=>simp only[h1,h3 y (by simp),h4]
 ·rename_i t parts ho;rw[ho]at hs;try simp only[ho]
  refine e ?_ h
  unfold Cw;simp only[ho]
  have h1:=fun hint=>lW (P:=P) (σ:=σ) (σ':=σ') (pc:=pc) hint (xs:=parts.toList) (by simpa [Op.operands]using hs)
  simp only[h1]
 ·rename_i T m x ok ho;rw[ho]at hs;try simp only[ho]
  unfold HL at h⊢
  simp only[ho]at h⊢
  cases ok with
  |true=>cases h
  |false=>
   simp only at h⊢
   rw[hs m (by simp[Op.operands]),hs.d (x:=x) (by simp[Op.operands])]
   split at h
   ·rename_i id ek kt h1 h2
    try simp only[h1,h2]
    split at h
    ·rename_i ro cs fD
     have hrd:rd=[id] :=by
      split at h
      ·split at h
       ·injection h with h;simp only[ai]at h;exact h.2.symm
       ·cases h
      ·cases h
     rw[ug id (by rw[hrd];simp),fD]
     exact h
    ·cases h
   ·cases h
 ·rename_i args argTypes ho;rw[ho]at hs
  have h1: ∀x∈args.toList,∀q hint,fK P σ' q x hint=fK P σ q x hint:=fun x hx q hint=>hs.d (by simp[Op.operands,Call.operands];simpa using hx) q hint
  refine e ?_ h
  unfold F4;simp only[ho]
  split
  ·rename_i x t hl _
   rw[h1 x (by rw[hl];simp)]
  ·rfl
 ·rename_i args argTypes ho;rw[ho]at hs
  have h1: ∀x∈args.toList,∀q hint,fK P σ' q x hint=fK P σ q x hint:=fun x hx q hint=>hs.d (by simp[Op.operands,Call.operands];simpa using hx) q hint
  refine e ?_ h
  unfold F4;simp only[ho]
  split
  ·rename_i x y hl
   rw[h1 x (by rw[hl];simp),h1 y (by rw[hl];simp)]
  ·rfl
 ·rename_i args argTypes ho;rw[ho]at hs
  have h1: ∀x∈args.toList,∀q hint,fK P σ' q x hint=fK P σ q x hint:=fun x hx q hint=>hs.d (by simp[Op.operands,Call.operands];simpa using hx) q hint
  refine e ?_ h
  unfold F4;simp only[ho]
  split
  ·rename_i x y hl
   rw[h1 x (by rw[hl];simp),h1 y (by rw[hl];simp)]
  ·rfl
 ·cases h
theorem lX{ops:Array Oper}(h: ∀t,t∈o.looksAt ops→σ'.tm t=σ.tm t):guardOf ops σ' o=guardOf ops σ o:=by
 unfold guardOf
 split
 ·rfl
 ·rename_i j want hg
  split
  ·rename_i t ht
   rw[h t (by unfold Oper.looksAt;rw[hg];simp only[ht];simp)]
  ·rfl
theorem FF{r:bD}{c:SC}{e:E}{l:mO}(h:kN σ r c=some (e,l))(hl: ∀j g,(j,some g)∈l→σ'.live g=σ.live g):kN σ' r c=some (e,l):=by
 obtain⟨t,_|⟨j0,T⟩⟩:=r
 ·exact h
 ·simp only[kN]at h⊢
  split at h
  ·exact h
  ·rename_i g e0 t'
   split at h
   ·rename_i e1 T' t'' Ch
    split at h
    ·rename_i hc
     obtain⟨rfl,rfl⟩:=jC h
     rw[hl j0 g (by simp),Ch]
     simp only[hc,and_self,if_true]
    ·cases h
   ·cases h
  ·rename_i g t'
   split at h
   ·rename_i e1 T' t'' Ch
    split at h
    ·rename_i hc
     obtain⟨rfl,rfl⟩:=jC h
     rw[hl j0 g (by simp),Ch]
     simp only[hc,and_self,if_true]
    ·cases h
   ·cases h
  ·cases h
theorem vE: ∀{rs:List bD} {cs:List SC} {es:List E} {l:mO},ia σ rs cs=some (es,l)→(∀j g,(j,some g)∈l→σ'.live g=σ.live g)→ia σ' rs cs=some (es,l)
 | [],[],es,l,h,_=>h
 | [],_::_,_,_,h,_=>by cases h
 |_::_,[],_,_,h,_=>by cases h
 |r::rs,c::cs,es,l,h,hl=>by
  simp only[ia]at h⊢
  split at h
  ·rename_i h1 h2
   obtain⟨rfl,rfl⟩:=jC h
   rw[FF h1 (fun j g hm=>hl j g (aC _ hm)),vE h2 (fun j g hm=>hl j g (bC _ hm))]
  ·cases h
theorem Bl: ∀{rcs:List (List bD)} {ids:List Nat} {zT:List (List E)} {l:mO},xa σ rcs ids=some (zT,l)→(∀id∈ids,σ'.hp id=σ.hp id)→(∀j g,(j,some g)∈l→σ'.live g=σ.live g)→xa σ' rcs ids=some (zT,l)
 | [],[],_,_,h,_,_=>h
 | [],_::_,_,_,h,_,_=>by cases h
 |_::_,[],_,_,h,_,_=>by cases h
 |rc::r,id::ids,zT,l,h,hh,hl=>by
  simp only[xa]at h⊢
  rw[hh id (by simp)]
  split at h
  ·split at h
   ·rename_i h1 h2
    obtain⟨rfl,rfl⟩:=jC h
    rw[vE h1 (fun j g hm=>hl j g (aC _ hm)),Bl h2 (fun id hi=>hh id (by simp[hi])) (fun j g hm=>hl j g (bC _ hm))]
   ·cases h
  ·cases h
theorem vq: ∀{sh:List Bool} {xs:List Operand} {ts:List TypeId},iv P σ σ' xs→mR P σ' pc sh xs ts=mR P σ pc sh xs ts
 | [],[],[],_=>rfl
 |false::sh,x::l,t::ts,hs=>by
  simp only[mR]
  rw[hs.d (by simp),vq (fun y hy=>hs y (by simp[hy]))]
 |true::sh,x::l,t::ts,hs=>by
  simp only[mR]
  rw[hs x (by simp),vq (fun y hy=>hs y (by simp[hy]))]
 | [],[],_::_,_=>by simp[mR]
 | [],_::_,ts,_=>by cases ts<;>simp[mR]
 |b::_,[],ts,_=>by cases b<;>cases ts<;>simp[mR]
 |b::_,_::_,[],_=>by cases b<;>simp[mR]
theorem vt: ∀{cs:List SC} {es:List E} {ts:List Ty} {ids:List Nat},xb σ cs=some (es,ts,ids)→(∀id∈ids,σ'.hp id=σ.hp id)→xb σ' cs=some (es,ts,ids)
 | [],es,ts,ids,h,_=>h
 |c::r,es,ts,ids,h,hh=>by
  simp only[xb]at h⊢
  split at h
  ·rename_i wY Xr tZ h1
   split at h
   ·rename_i e t hd
    obtain⟨rfl,rfl,rfl⟩:=RA h
    rw[vt h1 hh]
   ·split at h
    ·rename_i id hn
     split at h
     ·rename_i ro cs2 fD
      split at h
      ·rename_i ds us qC
       obtain⟨rfl,rfl,rfl⟩:=RA h
       rw[vt h1 (fun id hi=>hh id (by simp[hi]))]
       simp only[hh id (by simp),fD,qC]
      ·cases h
     ·cases h
    ·cases h
  ·cases h
theorem NV{x:Operand}{t:TypeId}{e:E}{ty:Ty}{ids:List Nat}(hs:iv P σ σ' [x])(h:Ql P σ pc x t=some (e,ty,ids))(hh: ∀id∈ids,σ'.hp id=σ.hp id):Ql P σ' pc x t=some (e,ty,ids):=by
 unfold Ql at h⊢
 rw[hs.d (by simp),hs x (by simp)]
 split at h
 ·exact h
 ·split at h
  ·rename_i id hx
   split at h
   ·rename_i ro cs2 fD
    split at h
    ·rename_i es ts JG hl
     obtain⟨rfl,rfl,rfl⟩:=RA h
     rw[hh id (by simp),fD]
     simp only
     rw[vt hl (fun i hi=>hh i (by simp[hi]))]
    ·cases h
   ·cases h
  ·cases h
theorem BC: ∀{xs:List Operand} {ts:List TypeId} {es:List (E×Ty)} {ids:List Nat},iv P σ σ' xs→Bb P σ pc xs ts=some (es,ids)→(∀id∈ids,σ'.hp id=σ.hp id)→Bb P σ' pc xs ts=some (es,ids)
 | [],[],es,ids,_,h,_=>h
 |x::l,t::ts,es,ids,hs,h,hh=>by
  simp only[Bb]at h⊢
  split at h
  ·rename_i e ty i1 wY tZ h1 h2
   obtain⟨rfl,rfl⟩:=jC h
   rw[NV (fun y hy=>hs y (by simp at hy;simp[hy])) h1 (fun i hi=>hh i (aC _ hi)),BC (fun y hy=>hs y (by simp[hy])) h2 (fun i hi=>hh i (bC _ hi))]
  ·cases h
 | [],_::_,_,_,_,h,_=>by cases h
 |_::_,[],_,_,_,h,_=>by cases h
theorem FI{cs:o3}{k:Nat}{e:E}{sig:dQ}{rd:List Nat}(hs:iv P σ σ' o.op.operands.toList)(h:qM P cs σ pc o=some (k,e,sig,rd))(hh: ∀id∈rd,σ'.hp id=σ.hp id):qM P cs σ' pc o=some (k,e,sig,rd):=by
 unfold qM at h⊢
 split at h
 ·rename_i f args argTypes ho
  try simp only[ho]
  rw[hs f (by rw[ho];simp[Op.operands,Call.operands])]
  split at h
  ·rename_i fe k' es ids hf rI
   split at h
   ·rename_i mJ pq
    split at h
    ·rename_i lQ
     obtain⟨rfl,hE,rfl,rfl⟩:=zP4 h
     simp only[hf]
     rw[BC (fun x hx=>hs x (by rw[ho];simp[Op.operands,Call.operands];right;simpa using hx)) rI hh]
     simp only[pq]
     rw[if_pos lQ,hE]
    ·cases h
   ·cases h
  ·cases h
 ·cases h
theorem IL{cs:o3}{k:Nat}{e:E}{sig:dQ}{rd:List Nat}(hs:iv P σ σ' o.op.operands.toList)(h:qM P cs σ pc o=some (k,e,sig,rd)):jP P cs σ' [] o=none:=by
 unfold qM at h
 split at h
 ·rename_i f args argTypes ho
  split at h
  ·rename_i fe k' es ids hf rI
   split at h
   ·rename_i mJ pq
    split at h
    ·rename_i lQ
     unfold jP
     simp only[ho]
     rw[hs f (by rw[ho];simp[Op.operands,Call.operands])]
     simp only[hf,pq]
     have fX:=lQ.1
     cases hq:mJ.ob with
     |none=>rfl
     |some ob=>rw[hq]at fX;cases fX
    ·cases h
   ·cases h
  ·cases h
 ·cases h
theorem K6{ob:Ob}{ids:List Nat}(hh: ∀id∈p3 σ ob ids,σ'.hp id=σ.hp id):p3 σ' ob ids=p3 σ ob ids:=by
 have h0: ∀id r,ids=id::r→σ'.hp id=σ.hp id:=by
  intro id r he
  refine hh id ?_
  subst he
  unfold p3
  split
  ·split
   ·rename_i h1 h2
    simp only[eJ]at h2
    obtain⟨rfl,rfl⟩:=h2
    split<;>simp
   ·simp
  ·simp
 unfold p3
 split
 ·split
  ·rw[h0 _ _ rfl]
  ·rfl
 ·rfl
theorem Ew: ∀{rcs:List (List bD)} {ids:List Nat} {lk:Option Nat},(∀id∈ids,σ'.hp id=σ.hp id)→BV σ' rcs ids lk=BV σ rcs ids lk
 | [],_,_,_=>by simp[BV]
 |_::_,[],_,_=>by simp[BV]
 |rc::r,id::ids,none,_=>by simp[BV]
 |rc::r,id::ids,some l,h=>by
  simp only[BV]
  rw[h id (by simp),Ew (rcs:=r) (ids:=ids) (fun i hi=>h i (by simp[hi]))]
theorem rA{cs:o3}{x:qJ}(hs:iv P σ σ' o.op.operands.toList)(h:jP P cs σ pc o=some x)(hh: ∀id∈x.ids,σ'.hp id=σ.hp id)(hl: ∀j g,(j,some g)∈x.own→σ'.live g=σ.live g):
  jP P cs σ' pc o=some x:=by
 unfold jP at h⊢
 split at h
 ·rename_i f args argTypes ho
  try simp only[ho]
  rw[hs f (by rw[ho];simp[Op.operands,Call.operands])]
  split at h
  ·rename_i fe k' hf
   try simp only[hf]
   split at h
   ·rename_i sig pq
    try simp only[pq]
    split at h
    ·rename_i ob fX
     try simp only[fX]
     rw[vq (fun x hx=>hs x (by rw[ho];simp[Op.operands,Call.operands];right;simpa using hx))]
     split at h
     ·rename_i es ids rI
      try simp only[rI]
      split at h
      ·rename_i zT l oH
       split at h
       ·rename_i lQ
        injection h with h;subst h
        rw[K6 hh,Bl oH hh hl]
        simp only
        rw[Ew hh]
        exact if_pos lQ
       ·cases h
      ·cases h
     ·cases h
    ·cases h
   ·cases h
  ·cases h
 ·cases h
theorem Cc(hs:iv P σ σ' o.op.operands.toList):pL P σ' o=pL P σ o:=by
 unfold pL
 split
 ·rename_i args argTypes ho
  split
  ·rename_i s x tt tt' fP B0
   have m1:s∈o.op.operands.toList:=by rw[ho];simp[Op.operands,Call.operands];have:s∈args.toList:=by rw[fP];simp
                                      simpa using this
   have m2:x∈o.op.operands.toList:=by rw[ho];simp[Op.operands,Call.operands];have:x∈args.toList:=by rw[fP];simp
                                      simpa using this
   rw[hs s m1,hs.d m2]
  ·rfl
 ·rfl
theorem pH{cs:o3}{ops:Array Oper}{p:Nat}{e:jI}(he:sY P cs ops σ p o=some e)(yd: ∀t,t∈o.looksAt ops→σ'.tm t=σ.tm t)(ug: ∀id∈e.rd,σ'.hp id=σ.hp id)
  (cJ: ∀x∈e.live,x.2=none→σ'.live x.1=σ.live x.1):sY P cs ops σ' p o=some e:=by
 have hs:iv P σ σ' o.op.operands.toList:=wm fun t ht=>yd t (by
  unfold Oper.looksAt
  exact aC _ (bH.2 ⟨.tmp t,ht,rfl⟩))
 unfold sY at he⊢
 rw[lX yd]
 split at he
 ·cases he
 ·rename_i pc hg
  try simp only[hg]
  split at he
  ·rename_i hk
   have:Dd P σ' pc o=Dd P σ pc o:=by
    unfold Dd
    split
    ·rfl
    ·rename_i t x ho
     rw[hs x (by rw[ho];simp[Op.operands])]
    ·rfl
   try simp only[hk]
   rw[this];exact he
  ·rename_i hk
   try simp only[hk]
   split at he
   ·rename_i id l hl
    have hrd:id∈e.rd:=by
     split at he
     ·injection he with he;subst he;simp
     ·cases he
    have:yQ P σ' pc o=some (id,l):=by
     unfold yQ at hl⊢
     split at hl
     ·rename_i t x y ho
      try simp only[ho]
      rw[hs x (by rw[ho];simp[Op.operands]),hs y (by rw[ho];simp[Op.operands])]
      split at hl
      ·rename_i Xx off tI sz h1 h2 h3
       try simp only[h1,h2,h3]
       split at hl
       ·rename_i BQ fD
        split at hl
        ·rename_i hc
         obtain⟨rfl,rfl⟩:=jC hl
         rw[ug _ hrd,fD]
         exact if_pos hc
        ·cases hl
       ·cases hl
      ·cases hl
     ·cases hl
    rw[this];exact he
   ·cases he
  ·rename_i hk
   try simp only[hk]
   split at he
   ·rename_i e' t fz hf
    injection he with he;subst he
    have:SE P σ' pc o=some (e',t,fz):=by
     unfold SE at hf⊢
     split at hf
     ·rename_i f first captured ho
      try simp only[ho]
      split at hf
      ·rename_i hfi
       rw[if_pos hfi]
       split at hf
       ·rename_i es Xn OM
        obtain⟨h1,h2,h3⟩:=RA hf
        subst h3
        rw[vC (fun x hx=>hs x (by rw[ho];simp[Op.operands];right;simpa using hx)) OM (fun x hx=>ug x.1 (by simp only[bB];exact⟨x,hx,rfl⟩))]
        simp only[h1,h2]
       ·cases hf
      ·cases hf
     ·cases hf
    rw[this]
   ·cases he
  ·rename_i hk
   try simp only[hk]
   have:An P cs σ' pc o=An P cs σ pc o:=by
    unfold An
    split
    ·rename_i f args argTypes ho
     rw[hs f (by rw[ho];simp[Op.operands,Call.operands]),BD (fun x hx=>hs x (by rw[ho];simp[Op.operands,Call.operands];right;simpa using hx))]
    ·rfl
   rw[this]
   split at he
   ·exact he
   ·split at he
    ·rename_i x hx
     have:jP P cs σ' [] o=some x:=by
      split at he
      ·injection he with he;subst he
       refine rA hs hx ug (fun j g hm=>cJ (g,none) ?_ rfl)
       exact aC _ (aC _ (bH.2 ⟨(j,some g),hm,rfl⟩))
      ·cases he
     rw[this];exact he
    ·split at he
     ·rename_i k e' sig rd hl
      have kz: ∀id∈rd,σ'.hp id=σ.hp id:=by
       split at he
       ·injection he with he;subst he
        exact fun id hi=>ug id hi
       ·cases he
      rw[IL hs hl,FI hs hl kz]
      exact he
     ·cases he
  ·rename_i hk
   try simp only[hk]
   rw[Cc hs]
   split at he
   ·exact he
   split at he
   ·rename_i g e1 e2 T t b ha
    have Ch: ∀g',g=some g'→σ'.live g'=σ.live g':=by
     rintro g' rfl
     split at he
     ·injection he with he;subst he
      exact cJ (g',none) (by simp) rfl
     ·cases he
    have:uY P σ' pc o=some (g,e1,e2,T,t,b):=by
     unfold uY at ha⊢
     split at ha
     ·rename_i args argTypes ho
      try simp only[ho]
      split at ha
      ·rename_i s x tt tt' fP B0
       try simp only[fP,B0]
       have m1:s∈o.op.operands.toList:=by rw[ho];simp[Op.operands,Call.operands];have:s∈args.toList:=by rw[fP];simp
                                          simpa using this
       have m2:x∈o.op.operands.toList:=by rw[ho];simp[Op.operands,Call.operands];have:x∈args.toList:=by rw[fP];simp
                                          simpa using this
       rw[hs s m1,hs.d m2]
       split at ha
       ·rename_i el sv ex u hu E8 hx
        try simp only[hu,E8,hx]
        split at ha
        ·rename_i ie u' vL R4
         try simp only[vL,R4]
         split at ha
         ·rename_i hc
          rw[if_pos hc]
          split at ha
          ·rename_i v
           exact ha
          ·rename_i g0 e0 v
           split at ha
           ·rename_i tH T' v' hl
            split at ha
            ·rename_i wP
             obtain⟨rfl,rfl,rfl,rfl,rfl,rfl⟩:=zP6 ha
             try simp only[]
             rw[Ch g0 rfl,hl]
             simp only[wP,and_self,if_true]
            ·cases ha
           ·cases ha
          ·cases ha
         ·cases ha
        ·cases ha
       ·cases ha
      ·cases ha
     ·cases ha
    rw[this];exact he
   ·cases he
  ·rename_i hk
   try simp only[hk]
   have:tM P σ' pc o=tM P σ pc o:=by
    unfold tM
    split
    ·rename_i t len parts ho
     have h1:=fun hint=>lW (P:=P) (σ:=σ) (σ':=σ') (pc:=pc) hint (xs:=parts.toList) (by rw[ho]at hs;simpa [Op.operands]using hs)
     simp only[h1]
    ·rfl
   rw[this];exact he
  ·split at he
   ·rename_i s is rd xw
    injection he with he;subst he
    rw[FH hs xw ug]
   ·cases he
theorem mH{g:Tag}{t:Ty}(h:σ'.live g=σ.live g):tN σ' g t=tN σ g t:=by unfold tN;rw[h]
theorem KT{cs:o3}(hs:iv P σ σ' o.op.operands.toList):Od P cs σ' o=Od P cs σ o:=by
 unfold Od
 split
 ·rename_i t x ho;rw[hs x (by rw[ho];simp[Op.operands])]
 ·rename_i t x y ho;rw[hs x (by rw[ho];simp[Op.operands])]
 ·rename_i t x i ho;rw[hs x (by rw[ho];simp[Op.operands])]
 ·rename_i args argTypes ho
  split
  ·rename_i x t hl ht
   have m1:x∈o.op.operands.toList:=by rw[ho];simp[Op.operands,Call.operands];have:x∈args.toList:=by rw[hl];simp
                                      simpa using this
   rw[hs x m1]
  ·rfl
 ·rename_i args argTypes ho
  split
  ·rename_i x _ t _ hl ht
   have m1:x∈o.op.operands.toList:=by rw[ho];simp[Op.operands,Call.operands];have:x∈args.toList:=by rw[hl];simp
                                      simpa using this
   rw[hs x m1]
  ·rfl
 ·rfl
 ·rfl
 ·rename_i f args argTypes ho
  have:(args.toList.zip argTypes.toList).any (Gc P σ')=(args.toList.zip argTypes.toList).any (Gc P σ):=by
   have key: ∀x∈args.toList.zip argTypes.toList,Gc P σ' x=Gc P σ x:=by
    intro x hx
    have hm:x.1∈args.toList:=(List.of_mem_zip (a:=x.1) (b:=x.2) hx).1
    unfold Gc
    rw[hs x.1 (by rw[ho];simp[Op.operands,Call.operands];right;simpa using hm)]
   rw[dB,gH,gH]
   exact⟨fun⟨x,hx,h⟩=>⟨x,hx,key x hx▸h⟩,fun⟨x,hx,h⟩=>⟨x,hx,(key x hx).symm▸h⟩⟩
  rw[this]
 ·rfl
theorem xl{c:SC}{y:(E×Ty)×List (Tag×Option (E×TypeId×Ty))}(h:pz σ c=some y)(hl: ∀z∈y.2,σ'.live z.1=σ.live z.1):pz σ' c=some y:=by
 cases c with
 |xo g t=>
  simp only[pz]at h⊢
  split at h
  ·rename_i e T hx
   injection h with h;subst h
   rw[mH (hl _ (aA.2 rfl)),hx]
  ·cases h
 |_=>exact h
theorem vH: ∀{cl:List SC} {y:(List E×List Ty)×List (Tag×Option (E×TypeId×Ty))},lf σ cl=some y→(∀z∈y.2,σ'.live z.1=σ.live z.1)→lf σ' cl=some y
 | [],y,h,_=>h
 |c::cl,y,h,hl=>by
  simp only[lf]at h⊢
  split at h
  ·rename_i e t l es ts ls h1 h2
   injection h with h;subst h
   rw[xl h1 (fun z hz=>hl z (aC _ hz)),vH h2 (fun z hz=>hl z (bC _ hz))]
  ·cases h
theorem EV{s:SV}{y:(E×Ty)×List (Tag×Option (E×TypeId×Ty))}(h:oU σ s=some y)(hl: ∀z∈y.2,σ'.live z.1=σ.live z.1):oU σ' s=some y:=by
 cases s with
 |one c=>exact xl h hl
 |agg cl=>
  simp only[oU]at h⊢
  split at h
  ·rename_i es ts ls h1
   injection h with h;subst h
   rw[vH h1 hl]
  ·cases h
 |fx l=>cases h
theorem vD: ∀{xs:List Operand} {ts:List TypeId} {y:List (E×Ty)×List (Tag×Option (E×TypeId×Ty))},iv P σ σ' xs→tP P σ pc xs ts=some y→(∀z∈y.2,σ'.live z.1=σ.live z.1)→tP P σ' pc xs ts=some y
 | [],[],y,_,h,_=>h
 |x::xs,t::ts,y,hs,h,hl=>by
  simp only[tP]at h⊢
  split at h
  ·rename_i e l es ls h1 h2
   injection h with h;subst h
   rw[hs x (by simp)]
   rw[dP]at h1
   obtain⟨sv,q1,q2⟩:=h1
   rw[q1,cu,EV q2 (fun z hz=>hl z (aC _ hz)),vD (fun z hz=>hs z (by simp[hz])) h2 (fun z hz=>hl z (bC _ hz))]
  ·cases h
 | [],_::_,_,_,h,_=>by cases h
 |_::_,[],_,_,h,_=>by cases h
theorem Ix(hs:iv P σ σ' o.op.operands.toList):HE P σ' pc o=HE P σ pc o:=by
 unfold HE
 split
 ·rename_i f args argTypes ho
  have key: ∀x∈args.toList.zip argTypes.toList,H9 P σ' pc x=H9 P σ pc x:=by
   intro x hx
   have hm:x.1∈args.toList:=(List.of_mem_zip (a:=x.1) (b:=x.2) hx).1
   unfold H9
   rw[hs x.1 (by rw[ho];simp[Op.operands,Call.operands];right;simpa using hm)]
  rw[dB,gH,gH]
  exact⟨fun⟨x,hx,h⟩=>⟨x,hx,key x hx▸h⟩,fun⟨x,hx,h⟩=>⟨x,hx,(key x hx).symm▸h⟩⟩
 ·rfl
theorem Iy{cs:o3}{p:Nat}{e:jI}(hs:iv P σ σ' o.op.operands.toList)(he:Aj P cs σ pc p o=some e)(cJ: ∀x∈e.live,σ'.live x.1=σ.live x.1):Aj P cs σ' pc p o=some e:=by
 unfold Aj at he⊢
 split at he
 ·rename_i f args argTypes ho
  try simp only[ho]
  rw[hs f (by rw[ho];simp[Op.operands,Call.operands])]
  split at he
  ·rename_i fe k' es l hf rI
   split at he
   ·rename_i sig pq
    split at he
    ·rename_i hc
     injection he with he;subst he
     rw[vD (fun x hx=>hs x (by rw[ho];simp[Op.operands,Call.operands];right;simpa using hx)) rI cJ]
     simp only[hf,pq]
     exact if_pos hc
    ·cases he
   ·cases he
  ·cases he
 ·cases he
theorem NS{cs:o3}{p k:Nat}{e:jI}(hs:iv P σ σ' o.op.operands.toList)(he:Tp P cs σ p o k=some e)(ug: ∀id∈e.rd,σ'.hp id=σ.hp id)(cJ: ∀x∈e.live,σ'.live x.1=σ.live x.1):Tp P cs σ' p o k=some e:=by
 unfold Tp at he⊢
 split at he
 ·unfold Oc at he⊢
  split at he
  ·rename_i t x ho
   try simp only[ho]
   rw[hs x (by rw[ho];simp[Op.operands])]
   split at he
   ·cases he
   ·rename_i hc
    rw[if_neg hc]
    split at he
    ·rename_i g i u off hx
     try simp only[hx]
     split at he
     ·rename_i e1 T E9
      simp only[da]at he
      obtain⟨s,h1,rfl⟩:=he
      rw[mH (cJ _ (aA.2 rfl)),E9]
      simp only[h1,aP]
     ·cases he
    ·cases he
  ·cases he
 ·unfold HD at he⊢
  split at he
  ·rename_i t x y ho
   try simp only[ho]
   rw[hs x (by rw[ho];simp[Op.operands]),hs y (by rw[ho];simp[Op.operands])]
   split at he
   ·rename_i g i u off es ts n h1 h2 h3
    try simp only[h1,h2,h3]
    split at he
    ·rename_i e1 T E9
     split at he
     ·rename_i hc
      simp only[da]at he
      obtain⟨s,h4,rfl⟩:=he
      rw[mH (cJ _ (aA.2 rfl)),E9]
      simp only[if_pos hc,h4,aP]
     ·cases he
    ·cases he
   ·cases he
  ·cases he
 ·unfold XV at he⊢
  split at he
  ·rename_i args argTypes ho
   try simp only[ho]
   split at he
   ·rename_i x t hl ht
    try simp only[hl,ht]
    have m1:x∈o.op.operands.toList:=by rw[ho];simp[Op.operands,Call.operands];have:x∈args.toList:=by rw[hl];simp
                                       simpa using this
    rw[hs x m1]
    split at he
    ·rename_i g u hu hx
     try simp only[hu,hx]
     split at he
     ·rename_i e1 T E9
      injection he with he;subst he
      rw[mH (cJ _ (aA.2 rfl)),E9]
     ·cases he
    ·cases he
   ·cases he
  ·cases he
 ·unfold HF at he⊢
  split at he
  ·rename_i t x i ho
   try simp only[ho]
   rw[hs x (by rw[ho];simp[Op.operands]),hs.d (x:=i) (by rw[ho];simp[Op.operands])]
   split at he
   ·rename_i g u ie k hu hx hi
    try simp only[hu,hx,hi]
    split at he
    ·rename_i e1 T E9
     split at he
     ·rename_i hc
      injection he with he;subst he
      rw[mH (cJ _ (aA.2 rfl)),E9]
      exact if_pos hc
     ·cases he
    ·cases he
   ·cases he
  ·cases he
 ·unfold Ib at he⊢
  split at he
  ·rename_i g e1 e2 T t b ha
   injection he with he;subst he
   have Ch: ∀g',g=some g'→σ'.live g'=σ.live g':=by
    rintro g' rfl
    exact cJ (g',none) (by simp)
   have:Dw P σ' o=some (g,e1,e2,T,t,b):=by
    unfold Dw at ha⊢
    split at ha
    ·rename_i args argTypes ho
     try simp only[ho]
     split at ha
     ·rename_i s x tt tt' fP B0
      try simp only[fP,B0]
      have m1:s∈o.op.operands.toList:=by rw[ho];simp[Op.operands,Call.operands];have:s∈args.toList:=by rw[fP];simp
                                         simpa using this
      have m2:x∈o.op.operands.toList:=by rw[ho];simp[Op.operands,Call.operands];have:x∈args.toList:=by rw[fP];simp
                                         simpa using this
      rw[hs s m1,hs.d m2]
      split at ha
      ·rename_i el sv ex u hu E8 hx
       try simp only[hu,E8,hx]
       split at ha
       ·rename_i ie u' vL R4
        try simp only[vL,R4]
        split at ha
        ·rename_i hc
         rw[if_pos hc]
         split at ha
         ·exact ha
         ·rename_i g0 v
          split at ha
          ·rename_i tH T' E9
           split at ha
           ·rename_i wP
            obtain⟨rfl,rfl,rfl,rfl,rfl,rfl⟩:=zP6 ha
            try simp only[]
            rw[mH (Ch g0 rfl),E9]
            simp only[wP,and_self,if_true]
           ·cases ha
          ·cases ha
         ·cases ha
        ·cases ha
       ·cases ha
      ·cases ha
     ·cases ha
    ·cases ha
   rw[this]
  ·cases he
 ·unfold XU at he⊢
  have h0:tM P σ' [] o=tM P σ [] o:=by
   unfold tM
   split
   ·rename_i t len parts ho
    have h1:=fun hint=>lW (P:=P) (σ:=σ) (σ':=σ') (pc:=[]) hint (xs:=parts.toList) (by rw[ho]at hs;simpa [Op.operands]using hs)
    simp only[h1]
   ·rfl
  have:Am P σ' o=Am P σ o:=by unfold Am;rw[h0]
  rw[this];exact he
 ·unfold Oe at he⊢
  split at he
  ·rename_i f args argTypes ho
   try simp only[ho]
   rw[hs f (by rw[ho];simp[Op.operands,Call.operands])]
   split at he
   ·rename_i fe k' es l hf rI
    split at he
    ·rename_i sig pq
     split at he
     ·rename_i hc
      injection he with he;subst he
      rw[vD (fun x hx=>hs x (by rw[ho];simp[Op.operands,Call.operands];right;simpa using hx)) rI (fun z hz=>cJ z (aC _ hz))]
      simp only[hf,pq]
      exact if_pos hc
     ·cases he
    ·cases he
   ·cases he
  ·cases he
theorem Lg{cs:o3}{ops:Array Oper}{p:Nat}{e:jI}(he:Ga P cs ops σ p o=some e)(yd: ∀t,t∈o.looksAt ops→σ'.tm t=σ.tm t)(ug: ∀id∈e.rd,σ'.hp id=σ.hp id)
  (cJ: ∀x∈e.live,σ'.live x.1=σ.live x.1):Ga P cs ops σ' p o=some e:=by
 have hs:iv P σ σ' o.op.operands.toList:=wm fun t ht=>yd t (by
  unfold Oper.looksAt
  exact aC _ (bH.2 ⟨.tmp t,ht,rfl⟩))
 unfold Ga at he⊢
 rw[KT hs]
 split at he
 ·exact NS hs he ug cJ
 ·rw[lX yd]
  split at he
  ·rename_i pc hg
   try simp only[hg]
   rw[Ix hs]
   split at he
   ·rename_i hk
    rw[if_pos hk]
    exact Iy hs he cJ
   ·rename_i hk
    rw[if_neg hk]
    exact pH he yd ug (fun x hx _=>cJ x hx)
  ·cases he
 ·exact pH he yd ug (fun x hx _=>cJ x hx)
theorem IS(hs:iv P σ σ' o.op.operands.toList):sw P σ' pc o=sw P σ pc o:=by
 unfold sw
 split
 ·rename_i t len parts ho
  have h1:=fun hint=>lW (P:=P) (σ:=σ) (σ':=σ') (pc:=pc) hint (xs:=parts.toList) (by rw[ho]at hs;simpa [Op.operands]using hs)
  simp only[h1]
 ·rfl
theorem NJ{cs:o3}(hs:iv P σ σ' o.op.operands.toList):yy P cs σ' pc o=yy P cs σ pc o:=by
 unfold yy
 split
 ·rename_i f args argTypes ho
  rw[hs f (by rw[ho];simp[Op.operands,Call.operands])]
 ·rename_i args argTypes ho
  split
  ·rename_i x y _ t hl ht
   have m1:x∈o.op.operands.toList:=by rw[ho];simp[Op.operands,Call.operands];have:x∈args.toList:=by rw[hl];simp
                                      simpa using this
   have m2:y∈o.op.operands.toList:=by rw[ho];simp[Op.operands,Call.operands];have:y∈args.toList:=by rw[hl];simp
                                      simpa using this
   rw[hs x m1,hs y m2]
  ·rfl
 ·rw[IS hs]
 ·rfl
theorem IZ{cs:o3}{ops:Array Oper}{p:Nat}{e:jI}(he:Ar P cs ops σ p o=some e)(yd: ∀t,t∈o.looksAt ops→σ'.tm t=σ.tm t)(ug: ∀id∈e.rd,σ'.hp id=σ.hp id)
  (cJ: ∀x∈e.live,σ'.live x.1=σ.live x.1):Ar P cs ops σ' p o=some e:=by
 have hs:iv P σ σ' o.op.operands.toList:=wm fun t ht=>yd t (by
  unfold Oper.looksAt
  exact aC _ (bH.2 ⟨.tmp t,ht,rfl⟩))
 unfold Ar at he⊢
 split at he
 ·rename_i hf
  exact Lg he yd ug cJ
 ·rename_i hf
  rw[lX yd]
  split at he
  ·rename_i pc hg
   try simp only[hg]
   rw[NJ hs]
   split at he
   ·rename_i hk
    rw[if_pos hk]
    exact pH he yd ug (fun x hx _=>cJ x hx)
   ·cases he
  ·cases he
 ·split at he
  ·rename_i hk
   rw[if_pos hk]
   exact pH he yd ug (fun x hx _=>cJ x hx)
  ·cases he
theorem FG{cs:o3}(hs:iv P σ σ' o.op.operands.toList):Cu P cs σ' o=Cu P cs σ o:=by
 unfold Cu
 split
 ·rename_i f args argTypes ho
  rw[hs f (by rw[ho];simp[Op.operands,Call.operands])]
 ·rfl
theorem zG{d:Option Bool}{cs:o3}{ops:Array Oper}{p:Nat}{e:jI}(he:lK d P cs ops σ p o=some e)(yd: ∀t,t∈o.looksAt ops→σ'.tm t=σ.tm t)(ug: ∀id∈e.rd,σ'.hp id=σ.hp id)
  (cJ: ∀x∈e.live,σ'.live x.1=σ.live x.1):lK d P cs ops σ' p o=some e:=by
 have hs:iv P σ σ' o.op.operands.toList:=wm fun t ht=>yd t (by
  unfold Oper.looksAt
  exact aC _ (bH.2 ⟨.tmp t,ht,rfl⟩))
 unfold lK at he⊢
 split at he
 ·exact IZ he yd ug cJ
 ·rename_i b y hy
  split at he
  ·cases he
  ·rename_i hf
   rw[if_neg hf]
   split at he
   ·simp only[da]at he⊢
    obtain⟨x,hx,rfl⟩:=he
    refine⟨x,?_,rfl⟩
    obtain⟨h1,hc⟩:=Vz hx
    unfold nnX
    rw[rA hs h1 (fun id fD=>by rw[hc.2.2.2.1]at fD;simp at fD) (fun j g hm=>by rw[hc.2.2.2.2]at hm;simp at hm)]
    simp only
    rw[if_pos hc]
   ·cases he
 ·split at he
  ·cases he
  ·rename_i hf
   rw[if_neg hf,lX yd]
   split at he
   ·rename_i pc hg
    split at he
    ·rename_i x hx
     injection he with he;subst he
     have:jP P cs σ' pc o=some x:=by
      refine rA hs hx ug (fun j g hm=>cJ (g,none) ?_)
      exact aC _ (aC _ (bH.2 ⟨(j,some g),hm,rfl⟩))
     simp only[this]
    ·cases he
   ·cases he
 ·rw[lX yd,FG hs]
  exact he
end
inductive uF (P:Program) (cs:o3) (ops:Array Oper) (p0 N:Nat):List (Nat×jI)→St→St→Prop
 |nil (σ:St):uF P cs ops p0 N [] σ σ
 |cons {i:Nat} {o:Oper} {e:jI} {r:List (Nat×jI)} {σ σ':St} (ho:ops[i]? =some o) (he: ∃d,lK d P cs ops σ (p0+i) o=some e) (bP:e.yh.2.lt N=true) (hr:uF P cs ops p0 N r (e.app σ) σ'):
  uF P cs ops p0 N ((i,e)::r) σ σ'
section
variable{P:Program}{cs:o3}{ops:Array Oper}{p0 N:Nat}
def indep(ops:Array Oper)(x y:Nat×jI):Bool:=
 (match ops[x.1]?,ops[y.1]? with
  |some ox,some oy=>ox.apart ops oy
  |_,_=>false)&&
 (x.2.dst==((ops[x.1]?).bind (·.dst)))&&(y.2.dst==((ops[y.1]?).bind (·.dst)))&&
 (x.2.hp.all fun a=>(y.2.hp.all fun b=>a.1 !=b.1)&&y.2.rd.all fun b=>a.1 !=b)&&(y.2.hp.all fun b=>x.2.rd.all fun a=>b.1 !=a)&&
 (x.2.live.all fun a=>y.2.live.all fun b=>a.1 !=b.1)
theorem Ek{α β:Type}[DecidableEq α](h:α→β)(l m:List (α×β))(hd: ∀a∈l,∀b∈m,a.1≠b.1):fg (fg h l) m=fg (fg h m) l:=by
 funext x
 unfold fg
 cases h1:lk m x with
 |none=>cases h2:lk l x<;>rfl
 |some v=>
  cases h2:lk l x with
  |none=>rfl
  |some u=>exact absurd rfl (hd (x,u) (jK h2) (x,v) (jK h1))
theorem tg{α β:Type}[DecidableEq α](h:α→β)(l:List (α×β))(x:α)(hd: ∀a∈l,a.1≠x):fg h l x=h x:=by
 unfold fg
 cases h1:lk l x with
 |none=>rfl
 |some v=>exact absurd rfl (hd _ (jK h1))
theorem uF.swap{x y:Nat×jI}{r:List (Nat×jI)}{σ σ':St}(hi:indep ops x y=true)(h:uF P cs ops p0 N (x::y::r) σ σ'):uF P cs ops p0 N (y::x::r) σ σ':=by
 obtain⟨i,ex⟩:=x
 obtain⟨j,ey⟩:=y
 cases h with
 |cons hox hex avE hr=>
  cases hr with
  |cons hoy hey avD hr=>
   rename_i ox oy
   unfold indep at hi
   simp only[hox,hoy,cu,bc,beq_iff_eq]at hi
   obtain⟨⟨⟨⟨⟨hap,hdx⟩,hdy⟩,ug⟩,avW⟩,Ch⟩:=hi
   obtain⟨a1,a2,a3⟩:=Oper.apart_spec hap
   have Ht: ∀a∈ex.hp,(∀b∈ey.hp,a.1≠b.1)∧ ∀b∈ey.rd,a.1≠b:=by
    intro a ha
    have:=cn.1 ug a ha
    simp only[bc,cn,bne_iff_ne]at this
    exact this
   have aov: ∀b∈ey.hp,∀a∈ex.rd,b.1≠a:=by
    intro b hb a ha
    have:=cn.1 (cn.1 avW b hb) a ha
    simpa using this
   have afe: ∀a∈ex.live,∀b∈ey.live,a.1≠b.1:=by
    intro a ha b hb
    have:=cn.1 (cn.1 Ch a ha) b hb
    simpa using this
   have tmx: ∀t,t∈oy.looksAt ops→(ex.app σ).tm t=σ.tm t:=by
    intro t ht
    unfold jI.app
    rw[hdx]
    cases hd:ox.dst with
    |none=>rfl
    |some d=>exact fJ _ _ (fun e=>a1 d hd (e▸ht))
   have tmy: ∀t,t∈ox.looksAt ops→(ey.app σ).tm t=σ.tm t:=by
    intro t ht
    unfold jI.app
    rw[hdy]
    cases hd:oy.dst with
    |none=>rfl
    |some d=>exact fJ _ _ (fun e=>a3 d hd (e▸ht))
   obtain⟨dy,hey⟩:=hey
   obtain⟨dx,hex⟩:=hex
   have hy:lK dy P cs ops σ (p0+j) oy=some ey:=zG hey (fun t ht=>(tmx t ht).symm)
    (fun id fD=>(tg _ _ _ (fun a ha=>(Ht a ha).2 id fD)).symm) (fun z hz=>(tg _ _ _ (fun a ha=>afe a ha z hz)).symm)
   have hx:lK dx P cs ops (ey.app σ) (p0+i) ox=some ex:=zG hex tmy
    (fun id fD=>tg _ _ _ (fun b hb=>aov b hb id fD)) (fun z hz=>tg _ _ _ (fun b hb=>(afe z hz b hb).symm))
   have aoE:ex.app (ey.app σ)=ey.app (ex.app σ):=by
    unfold jI.app
    rw[hdx,hdy]
    simp only[St.mk.injEq]
    refine⟨?_,Ek _ _ _ (fun b hb a ha=>((Ht a ha).1 b hb).symm),Ek _ _ _ (fun b hb a ha=>(afe a ha b hb).symm)⟩
    cases hd:ox.dst with
    |none=>rfl
    |some d=>
     cases kO:oy.dst with
     |none=>rfl
     |some d'=>
      have fY:d≠d':=fun e=>a2 d hd (e▸kO)
      funext t
      simp only[fU]
      by_cases h1:t=d
      ·subst h1;simp[fY]
      ·simp[h1]
   exact .cons hoy ⟨dy,hy⟩ avD (.cons hox ⟨dx,hx⟩ avE (aoE▸hr))
theorem uF.pull{x:Nat×jI}: ∀{l r:List (Nat×jI)} {σ σ':St},(∀y∈l,indep ops y x=true)→uF P cs ops p0 N (l++x::r) σ σ'→uF P cs ops p0 N (x::(l++r)) σ σ'
 | [],_,_,_,_,h=>h
 |y::l,r,σ,σ',hi,h=>by
  cases h with
  |cons ho he bP hr=>
   have ih:=uF.pull (l:=l) (fun z hz=>hi z (aI _ hz)) hr
   exact uF.swap (hi _ (bI ..)) (.cons ho he bP ih)
variable{C:Cx}{G:Gh}{w w0:World}{S0:iu}{σ:St}{a:Act}{n:Nat}{Φ:Nat→List D→D}{Pre:Nat→List D→Prop}
theorem dT.Oz(C:Cx)(w:World)(G:Gh){M':Nat→Prop}(h: ∀i,C.M i→M' i):dT C w G {C with M:=M'} w G:=
 ⟨fun _ h=>⟨rfl,h⟩,h,fun _ _ h=>h,fun _ _ _=>rfl,fun _ _=>rfl,fun _ _=>rfl⟩
theorem fp.jl{C':Cx}(h:fp w0 S0 C G σ w)(cp:dT C w G C' w G):fp w0 S0 C' G σ w where
 below:=h.below
 kW:=h.kW
 keep:=h.keep
 si i b hi:=⟨cp.M _ (h.si i b hi).1,(h.si i b hi).2⟩
 mQ:=h.mQ
 dO:=h.dO
 iN:=h.iN
 pb id x hx:=cp.M _ (h.pb id x hx)
 box id ro cs hx:=by
  obtain⟨h1,h2,h3,h5⟩:=h.box id ro cs hx
  exact⟨h1,h2,h3.later cp rfl,h5⟩
 inj:=h.inj
 own g e T t hx:=(h.own g e T t hx).later cp (fun _ _=>rfl) (fun _ _ _ h=>h)
 gS:=h.gS
 kM:=h.kM
 eV:=h.eV
 fresh:=h.fresh
 wz:=h.wz
theorem iq.jl{C':Cx}(h:iq n w0 S0 C G σ a w)(cp:dT C w G C' w G):iq n w0 S0 C' G σ a w:=
 ⟨h.m.jl cp,h.t.later cp,h.sz,h.defers⟩
structure qI(P:Program)(cs:o3)(ops:Array Oper)(p0 n:Nat)(S0:iu)(C:Cx)(Φ:Nat→List D→D)(Pre:Nat→List D→Prop)(r:List (Nat×jI)):Prop where
 con: ∀k sig,lk cs.l k=some sig→bh P k sig (Pre k) (Φ k)
 items: ∀x∈r,∀it∈x.2.items,eU C Φ Pre it
 pos: ∀x∈r,p0+x.1<C.N
 dst: ∀(i:Nat) o d,ops[i]? =some o→o.dst=some d→d<n
 fr:Mh P cs S0 Φ Pre
theorem qI.tail{x:Nat×jI}{r:List (Nat×jI)}(h:qI P cs ops p0 n S0 C Φ Pre (x::r)):qI P cs ops p0 n S0 C Φ Pre r:=
 ⟨h.con,fun y hy=>h.items y (aI _ hy),fun y hy=>h.pos y (aI _ hy),h.dst,h.fr⟩
theorem eU.add{p:Nat}{it:Item}(h:eU C Φ Pre it):eU (C.add p) Φ Pre it:=by cases it<;>exact h
theorem qI.add{p:Nat}{r:List (Nat×jI)}(h:qI P cs ops p0 n S0 C Φ Pre r):qI P cs ops p0 n S0 (C.add p) Φ Pre r:=
 ⟨h.con,fun x hx it iw=>(h.items x hx it iw).add,h.pos,h.dst,h.fr⟩
theorem Eg{Q:Exit→Act→World→Prop}: ∀{r:List (Nat×jI)} {σ σ':St} {C:Cx} {G:Gh} {a:Act} {w:World},uF P cs ops p0 C.N r σ σ'→qI P cs ops p0 n S0 C Φ Pre r→iq n w0 S0 C G σ a w→
  (r.map (·.1)).Nodup→(∀x∈r,¬C.M (p0+x.1))→
  (∀a' w' G' M',(∀i,M' i→C.M i∨ ∃x∈r,i=p0+x.1)→iq n w0 S0 {C with M:=M'} G' σ' a' w'→Q .normal a' w')→wpOps P ops Q (r.map (·.1)) a w
 | [],σ,σ',C,G,a,w,h,_,hs,_,_,hQ=>by
  cases h
  exact hQ a w G C.M (fun i hi=>.inl hi) hs
 |(i,e)::r,σ,σ',C,G,a,w,h,cI,hs,uj,hM,hQ=>by
  cases h with
  |cons ho he bP hr=>
   rename_i o
   simp only[cZ,List.nodup_cons]at uj
   have hp: ¬C.M (p0+i):=hM (i,e) (bI ..)
   have A8:=AM hs he.choose_spec hp (cI.pos (i,e) (bI ..)) cI.con bP (cI.items (i,e) (bI ..)) (fun d hd=>cI.dst i o d ho hd) cI.fr
   have jt: ∀a' w' G',iq n w0 S0 (C.add (p0+i)) G' (e.app σ) a' w'→wpOps P ops Q (r.map (·.1)) a' w':=by
    intro a' w' G' uf
    refine Eg (C:=C.add (p0+i)) hr cI.tail.add uf uj.2 ?_ ?_
    ·rintro x hx (hm|hm)
     ·exact hM x (aI _ hx) hm
     ·have:x.1=i:=by omega
      exact uj.1 (bB.2 ⟨x,hx,this⟩)
    ·intro a'' BE G'' M' hM' SQ
     refine hQ a'' BE G'' M' (fun j hj=> ?_) SQ
     rcases hM' j hj with(h1|h1)|⟨x,hx,h1⟩
     ·exact .inl h1
     ·exact .inr ⟨(i,e),bI ..,h1⟩
     ·exact .inr ⟨x,aI _ hx,h1⟩
   have qF:=A8 (wpOps P ops Q (r.map (·.1))) Q jt
   simp only[cZ,wpOps,ho]
   split
   ·rename_i hw;rw[if_pos hw]at qF;exact .inl qF
   ·rename_i hw;rw[if_neg hw]at qF;exact qF
theorem mb{Q:Exit→Act→World→Prop}(rest:List Nat): ∀{r:List (Nat×jI)} {σ σ':St} {C:Cx} {G:Gh} {a:Act} {w:World},uF P cs ops p0 C.N r σ σ'→qI P cs ops p0 n S0 C Φ Pre r→iq n w0 S0 C G σ a w→
  (r.map (·.1)).Nodup→(∀x∈r,¬C.M (p0+x.1))→
  (∀a' w' G' M',(∀i,M' i→C.M i∨ ∃x∈r,i=p0+x.1)→iq n w0 S0 {C with M:=M'} G' σ' a' w'→wpOps P ops Q rest a' w')→wpOps P ops Q (r.map (·.1)++rest) a w
 | [],σ,σ',C,G,a,w,h,_,hs,_,_,hQ=>by
  cases h
  exact hQ a w G C.M (fun i hi=>.inl hi) hs
 |(i,e)::r,σ,σ',C,G,a,w,h,cI,hs,uj,hM,hQ=>by
  cases h with
  |cons ho he bP hr=>
   rename_i o
   simp only[cZ,List.nodup_cons]at uj
   have hp: ¬C.M (p0+i):=hM (i,e) (bI ..)
   have A8:=AM hs he.choose_spec hp (cI.pos (i,e) (bI ..)) cI.con bP (cI.items (i,e) (bI ..)) (fun d hd=>cI.dst i o d ho hd) cI.fr
   have jt: ∀a' w' G',iq n w0 S0 (C.add (p0+i)) G' (e.app σ) a' w'→wpOps P ops Q (r.map (·.1)++rest) a' w':=by
    intro a' w' G' uf
    refine mb rest (C:=C.add (p0+i)) hr cI.tail.add uf uj.2 ?_ ?_
    ·rintro x hx (hm|hm)
     ·exact hM x (aI _ hx) hm
     ·have:x.1=i:=by omega
      exact uj.1 (bB.2 ⟨x,hx,this⟩)
    ·intro a'' BE G'' M' hM' SQ
     refine hQ a'' BE G'' M' (fun j hj=> ?_) SQ
     rcases hM' j hj with(h1|h1)|⟨x,hx,h1⟩
     ·exact .inl h1
     ·exact .inr ⟨(i,e),bI ..,h1⟩
     ·exact .inr ⟨x,aI _ hx,h1⟩
   have qF:=A8 (wpOps P ops Q (r.map (·.1)++rest)) Q jt
   simp only[cZ,er,wpOps,ho]
   split
   ·rename_i hw;rw[if_pos hw]at qF;exact .inl qF
   ·rename_i hw;rw[if_neg hw]at qF;exact qF
def fwd(ops:Array Oper)(i:Nat):Nat→Nat→List Nat→List Nat
 |0,_,acc=>acc
 |n+1,j,acc=>match ops[j]? with
  |some o=>if o.after.any fun e=>Region.binds .any e&&(e.on==i||acc.contains e.on) then fwd ops i n (j+1) (j::acc) else fwd ops i n (j+1) acc
  |none=>acc
def X7(ops:Array Oper)(_:Nat)(i j:Nat):Bool:=(fwd ops i (ops.size-i) i []).contains j
def sZ(ops:Array Oper):List (Nat×jI)→Bool
 | [] =>true
 |x::r=>(r.all fun y=>indep ops x y||X7 ops ops.size x.1 y.1)&&sZ ops r
def Aw(ops:Array Oper)(bY:Array Bool):Prop:=
 ∀(j:Nat) o,ops[j]? =some o→bY.getD j false=true→ ∀e∈o.after,Region.binds .any e=true→bY.getD e.on false=true
theorem xV{i:Nat}: ∀(n j:Nat) (acc:List Nat),(∀k∈acc,∀bY:Array Bool,Aw ops bY→(∀o,ops[k]? =some o→ ∀e∈o.after,Region.binds .any e=true→bY.getD e.on false=true)→bY.getD i false=true)→
  ∀k∈fwd ops i n j acc,∀bY:Array Bool,Aw ops bY→(∀o,ops[k]? =some o→ ∀e∈o.after,Region.binds .any e=true→bY.getD e.on false=true)→bY.getD i false=true
 |0,_,_,h=>h
 |n+1,j,acc,h=>by
  unfold fwd
  split
  ·rename_i o ho
   split
   ·rename_i hc
    refine xV n (j+1) (j::acc) ?_
    intro k hk
    rcases aM.1 hk with rfl|hk
    ·intro bY jY ks
     obtain⟨e,he,hb⟩:=Array.any_eq_true'.1 hc
     simp only[bc,fB,beq_iff_eq]at hb
     obtain⟨xA,xz⟩:=hb
     have hl:=ks o ho e he xA
     rcases xz with rfl|xz
     ·exact hl
     ·exact h e.on (by simpa using xz) bY jY (fun o' zY e' Jt ju=>jY e.on o' zY hl e' Jt ju)
    ·exact h k hk
   ·exact xV n (j+1) acc h
  ·exact h
theorem Np{bY:Array Bool}(jY:Aw ops bY)(f i j:Nat)(h:X7 ops f i j=true)(ks: ∀o,ops[j]? =some o→ ∀e∈o.after,Region.binds .any e=true→bY.getD e.on false=true):bY.getD i false=true:=
 xV _ _ [] (by simp) j (by simpa [X7]using h) bY jY ks
theorem Bt: ∀{l r:List (Nat×jI)} {x:Nat×jI},sZ ops (l++x::r)=true→ ∀y∈l,indep ops y x=true∨X7 ops ops.size y.1 x.1=true
 | [],_,_,_,y,hy=>by simp at hy
 |z::l,r,x,h,y,hy=>by
  simp only[er,sZ,bc]at h
  rcases aM.1 hy with rfl|hy
  ·have:=cn.1 h.1 x (by simp)
   simpa using this
  ·exact Bt h.2 y hy
theorem Bu: ∀{l r:List (Nat×jI)} {x:Nat×jI},sZ ops (l++x::r)=true→sZ ops (l++r)=true
 | [],r,x,h=>by simp only[eI,sZ,bc]at h;exact h.2
 |z::l,r,x,h=>by
  simp only[er,sZ,bc]at h⊢
  refine⟨?_,Bu h.2⟩
  rw[cn]at h⊢
  intro y hy
  exact h.1 y (by rcases aS.1 hy with h|h<;>simp[h])
theorem M9{Q:Exit→Act→World→Prop}: ∀(fuel:Nat) {r:List (Nat×jI)} {σ σ':St} {C:Cx} {G:Gh} {a:Act} {w:World} {bY:Array Bool},uF P cs ops p0 C.N r σ σ'→qI P cs ops p0 n S0 C Φ Pre r→iq n w0 S0 C G σ a w→
  (r.map (·.1)).Nodup→(∀x∈r,¬C.M (p0+x.1))→sZ ops r=true→bY.size=ops.size→Aw ops bY→r.length≤fuel→(∀i,i<ops.size→(bY.getD i false=false↔i∈r.map (·.1)))→
  (∀x∈r,x.1<ops.size)→(r≠ [] →Region.ready .any ops bY≠ [])→
  (∀(Cy:Array Bool) (r':List (Nat×jI)),Cy.size=ops.size→Aw ops Cy→(∀i,i<ops.size→(Cy.getD i false=false↔i∈r'.map (·.1)))→r'≠ [] →(∀x∈r',x.1<ops.size)→Region.ready .any ops Cy≠ [])→
  (∀a' w' G' M',(∀i,M' i→C.M i∨ ∃x∈r,i=p0+x.1)→iq n w0 S0 {C with M:=M'} G' σ' a' w'→Q .normal a' w')→wpAny P .any ops Q fuel bY a w:=by
 intro fuel
 induction fuel with
 |zero=>
  intro r σ σ' C G a w bY h cI hs uj hM Ba iY jY abD uH bP rn kV hQ
  have hr:r=[] :=au (by omega)
  subst hr
  cases h
  refine⟨?_,hQ a w G C.M (fun i hi=>.inl hi) hs⟩
  rw[fC]
  intro j hj
  obtain⟨h0,o,ho,_⟩:=mem_ready.1 hj
  have lZ:j<ops.size:=(aK.1 ho).1
  have h1:bY.getD j false=false:=by
   have BT:j<bY.size:=by omega
   simp[BT]at h0⊢;exact h0
  have:=(uH j lZ).1 h1
  simp at this
 |succ fuel ih=>
  intro r σ σ' C G a w bY h cI hs uj hM Ba iY jY abD uH bP rn kV hQ
  refine⟨fun h0=> ?_,fun i hi=> ?_⟩
  ·by_cases hr:r=[]
   ·subst hr;cases h;exact hQ a w G C.M (fun i hi=>.inl hi) hs
   ·exact absurd h0 (rn hr)
  ·obtain⟨h0,o,ho,ks⟩:=mem_ready.1 hi
   have iJ:i<ops.size:=(aK.1 ho).1
   have h1:bY.getD i false=false:=by
    have BT:i<bY.size:=by omega
    simp[BT]at h0⊢;exact h0
   have mN:=(uH i iJ).1 h1
   obtain⟨x,hx,Xy⟩:=bB.1 mN
   obtain⟨l,r2,hr⟩:=List.append_of_mem hx
   subst hr
   have avT: ∀y∈l,indep ops y x=true:=by
    intro y hy
    rcases Bt Ba y hy with h|h
    ·exact h
    ·exfalso
     rw[Xy]at h
     have hyl:=Np jY _ _ _ h (fun o' zY=>by rw[ho]at zY;injection zY with zY;subst zY;exact ks)
     have hy1:=bP y (by simp[hy])
     have:=(uH y.1 hy1).2 (bB.2 ⟨y,by simp[hy],rfl⟩)
     rw[hyl]at this;cases this
   have aoe:=uF.pull avT h
   obtain⟨xi,e⟩:=x
   simp only at Xy
   subst Xy
   have Hr: ∀y∈l++r2,y∈l++(xi,e)::r2:=by
    intro y hy;rcases aS.1 hy with h|h<;>simp[h]
   have afb:xi∉(l++r2).map (·.1)∧((l++r2).map (·.1)).Nodup:=by
    have:(((xi,e)::(l++r2)).map (·.1)).Nodup:=by
     refine(List.Perm.nodup_iff ?_).1 uj
     exact(List.perm_middle).map _
    simpa using this
   cases aoe with
   |cons zY he lP E0=>
    rename_i o'
    rw[ho]at zY;injection zY with zY;subst zY
    have hp: ¬C.M (p0+xi):=hM (xi,e) (by simp)
    have yw:qI P cs ops p0 n S0 C Φ Pre (l++r2):=⟨cI.con,fun y hy=>cI.items y (Hr y hy),fun y hy=>cI.pos y (Hr y hy),cI.dst,cI.fr⟩
    have A8:=AM hs he.choose_spec hp (cI.pos (xi,e) (by simp)) cI.con lP (cI.items (xi,e) (by simp)) (fun d hd=>cI.dst xi o d ho hd) cI.fr
    have Fs:(bY.setIfInBounds xi true).size=ops.size:=by simp[iY]
    have C4: ∀j,j<ops.size→(bY.setIfInBounds xi true).getD j false=(if j=xi then true else bY.getD j false):=by
     intro j hj
     by_cases Xh:j=xi
     ·subst Xh
      have:j<bY.size:=by omega
      simp[this]
     ·rw[if_neg Xh];exact getD_set_ne false (Ne.symm Xh)
    have Yu:Aw ops (bY.setIfInBounds xi true):=by
     intro j o' xx hj e' Jt ju
     have lZ:j<ops.size:=(aK.1 xx).1
     rw[C4 j lZ]at hj
     by_cases Xh:j=xi
     ·subst Xh
      rw[ho]at xx;injection xx with xx;subst xx
      exact getD_set_true (ks e' Jt ju)
     ·rw[if_neg Xh]at hj
      exact getD_set_true (jY j o' xx hj e' Jt ju)
    have VD: ∀j,j<ops.size→((bY.setIfInBounds xi true).getD j false=false↔j∈(l++r2).map (·.1)):=by
     intro j hj
     rw[C4 j hj]
     by_cases Xh:j=xi
     ·subst Xh
      simp only[if_true]
      exact⟨fun h=>(by cases h),fun h=>absurd h afb.1⟩
     ·rw[if_neg Xh,uH j hj]
      simp[Xh]
    have xG: ∀y∈l++r2,y.1<ops.size:=fun y hy=>bP y (Hr y hy)
    have jt: ∀a' w' G',iq n w0 S0 (C.add (p0+xi)) G' (e.app σ) a' w'→wpAny P .any ops Q fuel (bY.setIfInBounds xi true) a' w':=by
     intro a' w' G' uf
     refine ih (C:=C.add (p0+xi)) E0 yw.add uf afb.2 ?_ (Bu Ba) Fs Yu (by simp at abD⊢;omega) VD xG (fun fY=>kV _ _ Fs Yu VD fY xG) kV ?_
     ·rintro y hy (hm|hm)
      ·exact hM y (Hr y hy) hm
      ·have:y.1=xi:=by omega
       exact afb.1 (bB.2 ⟨y,hy,this⟩)
     ·intro a'' BE G'' M' hM' SQ
      refine hQ a'' BE G'' M' (fun j hj=> ?_) SQ
      rcases hM' j hj with(h1|h1)|⟨y,hy,h1⟩
      ·exact .inl h1
      ·exact .inr ⟨(xi,e),by simp,h1⟩
      ·exact .inr ⟨y,Hr y hy,h1⟩
    have qF:=A8 (wpAny P .any ops Q fuel (bY.setIfInBounds xi true)) Q jt
    unfold wpOp
    simp only[ho]
    split
    ·rename_i hw;rw[if_pos hw]at qF;exact .inl qF
    ·rename_i hw;rw[if_neg hw]at qF;exact qF
def acT(ops:Array Oper):Bool:=(List.range ops.size).all fun i=>match ops[i]? with
 |some o=>o.after.all fun e=> !Region.binds .any e||decide (e.on<i)
 |none=>true
theorem EF(hb:acT ops=true){bY:Array Bool}(iY:bY.size=ops.size){r:List Nat}(uH: ∀i,i<ops.size→(bY.getD i false=false↔i∈r))(hr:r≠ [])(bP: ∀x∈r,x<ops.size):Region.ready .any ops bY≠ [] :=by
 obtain⟨m,hm,afd⟩: ∃m,m∈r∧ ∀j,j<m→j∉r:=by
  cases r with
  |nil=>exact absurd rfl hr
  |cons x r=>
   have: ∃m,m∈(x::r):=⟨x,by simp⟩
   have key: ∀k,(∃m∈(x::r),m≤k)→ ∃m,m∈(x::r)∧ ∀j,j<m→j∉(x::r):=by
    intro k
    induction k with
    |zero=>rintro⟨m,hm,hk⟩;exact⟨m,hm,fun j hj=>by omega⟩
    |succ k ih=>
     rintro⟨m,hm,hk⟩
     by_cases h: ∃m∈(x::r),m≤k
     ·exact ih h
     ·refine⟨m,hm,fun j hj hjr=>h ⟨j,hjr,by omega⟩⟩
   exact key x ⟨x,by simp,bn _⟩
 have Xf:=bP m hm
 have:m∈Region.ready .any ops bY:=by
  rw[mem_ready]
  have h1:=(uH m Xf).2 hm
  have Tc:m<bY.size:=by omega
  refine⟨by simp[Tc]at h1⊢;exact h1,ops[m],by simp[Xf],fun e he hbd=> ?_⟩
  have:=cn.1 hb m (cW.2 Xf)
  simp only[dC Xf]at this
  have:=(Array.all_eq_true_iff_forall_mem.1 this) e he
  simp only[hbd,Bool.not_true,Bool.false_or,bQ]at this
  have h2:bY.getD e.on false≠false:=fun h=>afd e.on this ((uH e.on (by omega)).1 h)
  simpa using h2
 intro h
 rw[h]at this;cases this
end
end Go.dV
