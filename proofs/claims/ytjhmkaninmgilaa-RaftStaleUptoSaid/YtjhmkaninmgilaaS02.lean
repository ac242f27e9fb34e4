/- Part 2 of the proof of RaftStale; no condition. -/
import Derived.Test.YtjhmkaninmgilaaS01
import Derived.Laws.MakeOwn
set_option linter.unusedVariables false
set_option linter.unusedSimpArgs false
set_option maxHeartbeats 4000000
namespace Go.bZ
open Go Go.RowKit
section
variable{P:Program}{C:Cx}{w w0:World}{S0:ew}{G:Gh}{σ:St}{a:Act}{o:Oper}{pc:bI}{s:SV}{is:List Item}{Φ:Nat→List D→D}{Pre:Nat→List D→Prop}{n p:Nat}{cs:lD}
theorem da(hm:cJ w0 S0 C G σ w)(hp: ¬C.M p){g:Tag}{x:E×TypeId×Ty}(h:σ.live g=some x):g.1≠p:=
 fun e=>hp (e▸(hm.own g x.1 x.2.1 x.2.2 h).m)
theorem gh.I8{base GK:Nat}{g:Tag}{e:E}{T:TypeId}{t:Ty}(h:gh C w base G g e T t)(hb: ∀b,(G.τ g).ownBlock=some b→GK≤b):gh C w GK G g e T t:=by
 obtain⟨xs,l,hd,bw,Qi⟩:=h.own
 refine⟨h.m,h.lt,h.has,xs,l,hd,⟨bw.1,?_⟩,Qi⟩
 rcases bw.2 with hn|⟨b,cap,cur,hv,OO,hg⟩
 ·exact .inl hn
 ·exact .inr ⟨b,cap,cur,hv,hb b (by rw[hv];rfl),hg⟩
theorem E8{ops:Array Oper}{k:Nat}{e:E}{sig:bS}(hs:er n w0 S0 C G σ a w)(hp: ¬C.M p)(uF:p<C.N)(hg:guardOf ops σ o=some pc)(h:xc P cs σ pc o=some (k,e,sig))
  (fb: ∀k sig,lk cs.l k=some sig→ax P k sig (Pre k) (Φ k)) (eC:ct C Φ Pre (.call p k e pc)) (aL:(ke pc.isEmpty p sig.res).lt C.N=true) (cp: ∀d,o.dst=some d→d<n) (items:List Item) (j6:S0.fr→uM P cs σ pc o=true) (jg: ¬S0.wz):
  c9 P n w0 S0 C ((⟨o.dst,(pc,ke pc.isEmpty p sig.res),[],if pc.isEmpty then eF p sig.res else [],[],items⟩:fD).app σ) p ops a w o:=by
 intro K Q hK
 obtain⟨hw,hc⟩:=dr hs.t hg
 rw[hw]
 have aaZ:aq C.ρ pc=false→pc.isEmpty=false:=by intro h;cases pc<;>first|rfl|(simp[aq]at h)
 cases bY:aq C.ρ pc with
 |false=>
  simp only[Bool.false_eq_true,if_false]
  have hm:cJ w0 S0 (C.add p) G ((⟨o.dst,(pc,ke pc.isEmpty p sig.res),[],if pc.isEmpty then eF p sig.res else [],[],items⟩:fD).app σ) w:=
   (hs.m.mF p).congr (bK _) (by simp only[fD.app,aaZ bY,Bool.false_eq_true,if_false];exact bK _)
  exact hK _ _ _ (hs.step (o:=o) (e:=⟨o.dst,(pc,ke pc.isEmpty p sig.res),[],if pc.isEmpty then eF p sig.res else [],[],items⟩) (bO.mF C w G p) hm rfl aL hc
   (by intro _;simp only[bY,Bool.false_eq_true,if_false]) cp)
 |true=>
  simp only[if_true]
  unfold xc at h
  split at h
  ·rename_i f args argTypes ho
   split at h
   ·rename_i fe k' fs es hf pe
    split at h
    ·rename_i jE lV
     split at h
     ·rename_i iT
      obtain⟨dw,fV,qq,EB,hnx⟩:=iT
      injection h with h;simp only[Prod.mk.injEq]at h;obtain⟨rfl,hE,rfl⟩:=h
      obtain⟨f1,f2,f3⟩:=bg hs.t bY hf
      obtain⟨fl,sZ,KK⟩:=jl.1 f3
      obtain⟨Ia,Mf,qM,Td⟩:=(sZ▸f2).tW
      obtain⟨k1,k2⟩:=Hr hs.t bY pe
      have eR:=RF lV fb
      have dC:(den C.ρ e).ak=(es.map fun x=>den C.ρ x.1)++fl:=by
       rw[←hE,dG]
       simp only[D.ak,List.map_append,List.map_map]
       congr 1
       apply List.ext_getElem?
       intro i
       simp only[List.getElem?_map,kI,Option.map_map]
       cases hi:(fs.ak)[i]? with
       |none=>
        have:fl.length≤i:=by rw[dZ KK];exact List.getElem?_eq_none_iff.1 hi
        simp[List.getElem?_eq_none this]
       |some t=>
        obtain⟨x,hx,_⟩:=bX KK i t hi
        simp only[Option.map_some,Function.comp,den,U.den,sZ,D.ak,Nat.zero_add,dX hx,hx]
      have R8:(args.toList.map a.eval++Ia).length=((es.map fun x=>den C.ρ x.1)++fl).length:=by simp[k1,qM]
      have cM:(execOp a.eval o).run P w= .ok (.enter k' (args.toList.map a.eval++Ia).toArray) w:=by
       have e1:(args.toList.map a.eval++Ia).toArray=args.map a.eval++Ia.toArray:=by apply Array.ext';simp
       unfold execOp;simp only[ho,resolve,Mf,Deferred.ofValue,e1]
       have:=eR.enter (args.map a.eval++Ia.toArray) w
       simpa [invoke]using this
      unfold Oper.wp
      rw[cM]
      have mS: ∀(i:Nat) v d,(args.toList.map a.eval++Ia)[i]? =some v→((es.map fun x=>den C.ρ x.1)++fl)[i]? =some d→bj w G.S v d:=by
       intro i v d hv hd
       by_cases hi:i<args.toList.length
       ·rw[List.getElem?_append_left (by simpa using hi)]at hv
        rw[List.getElem?_append_left (by rw[List.length_map,k1];exact hi)]at hd
        simp only[List.getElem?_map,br]at hv hd
        obtain⟨x,hx,rfl⟩:=hv
        obtain⟨y,hy,rfl⟩:=hd
        exact(k2 i x y hx hy).1
       ·rw[List.getElem?_append_right (by simpa using hi)]at hv
        rw[List.getElem?_append_right (by rw[List.length_map,k1];omega)]at hd
        simp only[List.length_map]at hv hd
        rw[k1]at hd
        exact Td _ v d hv hd
      have eS:bV (.bQ jE.params) ((es.map fun x=>den C.ρ x.1)++fl):=by
       rw[←fV]
       refine fK (by simp[dZ KK]) fun j u x hj hx=> ?_
       by_cases hi:j<es.length
       ·rw[List.getElem?_append_left (by simpa using hi)]at hj hx
        simp only[List.getElem?_map,br]at hj hx
        obtain⟨y,hy,rfl⟩:=hj
        obtain⟨y',kU,rfl⟩:=hx
        rw[hy]at kU;injection kU with kU;subst kU
        have hlen:j<args.toList.length:=by rw[←k1];exact hi
        exact(k2 j _ y (av hlen) hy).2
       ·rw[List.getElem?_append_right (by simpa using hi)]at hj hx
        simp only[List.length_map]at hj hx
        obtain⟨y,hy,hhy⟩:=bX KK _ u hj
        rw[hx]at hy;injection hy with hy;subst hy;exact hhy
      obtain⟨_,_,sW,gE⟩:=eC
      have iV:=gE bY
      rw[dC]at sW iV
      refine(eR.calls (by simpa using dw) w G.S _ _ hs.m.bL R8 mS eS iV).mono ?_
      rintro e' w' ⟨v,S',Oo,rfl,iM,hS,yW,GC,Gv,Ay,Qu,akt⟩
      simp only
      rw[←sW]at Gv
      obtain⟨τ',Mt⟩: ∃τ',τ'=nQ jE.res Oo:=⟨_,rfl⟩
      have gY: ∀j,j∈bk jE.res→τ' j=Oo j:=fun j hj=>by rw[Mt];exact if_pos hj
      have cw:=Gv.af9
      rw[←Mt]at cw
      have Ae: ∀j b,j∈bk jE.res→(τ' j).ownBlock=some b→w.heap.size≤b:=fun j b hj hb=>Ay j b hj (by rw[←gY j hj];exact hb)
      have Cp: ∀j k b,j∈bk jE.res→k∈bk jE.res→(τ' j).ownBlock=some b→(τ' k).ownBlock=some b→j=k:=fun j k b hj hk h1 h2=>Qu j k b hj hk (by rw[←gY j hj];exact h1) (by rw[←gY k hk];exact h2)
      let G':Gh:={S:=S',β:=G.β,τ:=fun g=>if g.1=p then τ' g.2 else G.τ g}
      have eJ: ∀j,G'.τ (p,j)=τ' j:=fun j=>if_pos rfl
      have hM:(C.add p).M p:= .inr rfl
      have nk:eN w' 0 G'.S τ' jE.res v ((C.add p).ρ p):=cw
      have bf:=ub (C:=C.add p) (G:=G') nk hM uF eJ
      obtain⟨aU,hm⟩:=hs.m.called hp (τ':=τ') iM hS yW GC (cG σ.live (if pc.isEmpty then eF p jE.res else [])) G' rfl
       (by
        intro g x hx
        unfold cG at hx
        split at hx
        ·rename_i y hy
         have jH:=fF hy
         cases Mb:pc.isEmpty with
         |false=>rw[Mb]at jH;simp at jH
         |true=>
          rw[Mb]at jH;simp only[if_true]at jH
          obtain⟨q1,q2,e1,T1,t1,q3,q4⟩:=bf _ jH
          simp only at q1 q3 q4
          rw[q3]at hx;injection hx with hx;subst hx
          refine .inr ⟨q1,q4.I8 (fun b hb=>Ae g.2 b q2 ?_)⟩
          have e:G'.τ g=τ' g.2:=if_pos q1
          rw[←e];exact hb
        ·exact .inl ⟨da hs.m hp hx,hx⟩)
       (by
        intro j1 j2 x y b hx hy tH tG
        have key: ∀j x,cG σ.live (if pc.isEmpty then eF p jE.res else []) (p,j)=some x→j∈bk jE.res:=by
         intro j x hx
         unfold cG at hx
         split at hx
         ·rename_i y hy
          have jH:=fF hy
          cases Mb:pc.isEmpty with
          |false=>rw[Mb]at jH;simp at jH
          |true=>
           rw[Mb]at jH;simp only[if_true]at jH
           exact(bf _ jH).2.1
         ·exact absurd rfl (da hs.m hp hx)
        exact Cp j1 j2 b (key j1 x hx) (key j2 y hy) tH tG)
       (fun iQ=>by
        have h1:=j6 iQ
        unfold uM at h1
        simp only[ho,hf,lV,aw]at h1
        rw[Mt]
        exact Gv.fresh h1.1.1 h1.2 (fun j b hj hb=> .inl (Nat.le_trans hs.m.rS (Ay j b hj hb))) fun j hj Wk=>(akt j hj Wk).aeM fun b hb=> .inl (Nat.le_trans hs.m.rS hb)) jg
      exact hK _ _ _ (hs.step (o:=o) (e:=⟨o.dst,(pc,ke pc.isEmpty p jE.res),[],if pc.isEmpty then eF p jE.res else [],[],items⟩) aU (hm.congr (bK _) rfl) rfl aL hc
       (by intro _;simp only[bY,if_true];exact vE (C:=C.add p) (G:=G') nk hM uF eJ _ (by simpa using hnx)) cp)
     ·cases h
    ·cases h
   ·cases h
  ·cases h
theorem bj.source{S:aO}{v:Value}{l:List D}{k:Nat}(h:bj w S v (.list l))(hk: ∀d∈l,d.cells.length=k):
  ∃(A:Option Addr) (c:Nat) (news:List Value),v= .slice A l.length c∧(A=none→l.length=0)∧news.length=l.length*k∧(∀ad,A=some ad→ ∀(j:Nat) u,news[j]? =some u→w.cell? (ad.add j)=some u)∧
   ∀(i:Nat) d (j:Nat) u c,l[i]? =some d→d.cells[j]? =some c→news[i*k+j]? =some u→bj w S u c:=by
 cases h with
 |nil ad cap=>exact⟨ad,cap,[],rfl,fun _=>rfl,by simp,by simp,by simp⟩
 |list b off cap sz xs _ fo dH gN hl hS hc hw hr=>
  have aax:sz=k:=by
   cases oa:l with
   |nil=>exact absurd oa dH
   |cons d r=>rw[←hw 0 d (by rw[oa];rfl)];exact hk d (by rw[oa];simp)
  subst aax
  refine⟨_,cap,xs,rfl,(by intro h;cases h),hl,?_,hr⟩
  intro ad BY j u hu
  injection BY with BY;subst BY
  rw[dD];exact hc j u hu
theorem Fu{N:Nat→Prop}{sv:SV}{v:Value}{e2:E}{u:Ty}(hf:A9 sv=true)(j6: ∀g,zm N w G.S (G.τ g))(hr:wQ C w G sv v)(hd:nB sv=some (e2, .list u)):
  k9 (zn N w G.S) v∨(u.cells.all Ty.bare)=true:=by
 cases sv with
 |one c=>
  cases c with
  |own g e t=>exact .inl (ru (C:=C) (c:= .own g e t) rfl j6 hr)
  |lU t=>exact .inl (ru (C:=C) (c:= .lU t) rfl j6 hr)
  |eV e t=>
   simp only[nB,asData,Option.some.injEq,Prod.mk.injEq]at hd
   obtain⟨_,rfl⟩:=hd
   exact .inr hf
  |clip e t=>
   simp only[nB,asData,Option.some.injEq,Prod.mk.injEq,Ty.list.injEq]at hd
   obtain⟨_,rfl⟩:=hd
   exact .inr hf
  |_=>cases hf
 |_=>cases hf
theorem BK{ops:Array Oper}{g:Option Tag}{e1 e2:E}{T:TypeId}{t:Ty}{b:Nat}(hs:er n w0 S0 C G σ a w)(hp: ¬C.M p)(hg:guardOf ops σ o=some [])
  (h:ra P σ [] o=some (g,e1,e2,T,t,b)) (eC:ct C Φ Pre (.room [] (.bin .cat e1 e2) b)) (cp: ∀d,o.dst=some d→d<n) (items:List Item) (j6:S0.fr→uM P cs σ [] o=true) (jg: ¬S0.wz):
  c9 P n w0 S0 C ((⟨o.dst,([], .one (.own (p,0) (.bin .cat e1 e2) t)),[],(match g with|some g=> [(g,none)] |none=> [])++[((p,0),some (.bin .cat e1 e2,T,t))],[],items⟩:fD).app σ) p ops a w o:=by
 intro K Q hK
 obtain⟨hw,hc⟩:=dr hs.t hg
 rw[hw]
 simp only[aq,List.all_nil,if_true]
 unfold ra at h
 split at h
 ·rename_i args argTypes ho
  split at h
  ·rename_i sx x tt tt' cZ yV
   split at h
   ·rename_i el sv ex u hu F0 hx
    split at h
    ·rename_i ie u' qm Oz
     split at h
     ·rename_i iT
      obtain⟨rfl,rfl,Ck,ev,Ab,hzero,Cq⟩:=iT
      obtain⟨y1,y2,y3⟩:=bT hs.t (pc:=[]) rfl hx
      obtain⟨l2,nL,ahP,oJ⟩:=aD.1 y3
      have B7: ∀d∈l2,d.cells.length=u.cells.length:=fun d hd=>(bp (oJ d hd)).1
      obtain⟨A,c,news,DN,hA,yK,yL,B5⟩:=(nL▸y2).source B7
      obtain⟨z,hz,sX⟩: ∃z,ie.zero=some z∧z.cells.size=ie.size:=by
       cases hq:ie.zero with
       |none=>simp[hq]at hzero
       |some z=>exact⟨z,rfl,by simpa [hq]using hzero⟩
      have gS: ∀e0 u0,sv≠ .one (.clip e0 u0):=by
       rintro e0 u0 rfl
       cases h
      have main: ∀(v:Value) (pV:E) (g':Option Tag),a.eval sx=v→pV.lt C.N=true→(∃l1 xs,den C.ρ pV= .list l1∧(∀d∈l1,Has u d)∧w.ownsRow 0 el u.cells.length v l1.length xs∧
        (∀(i:Nat) d (j:Nat) u' c,l1[i]? =some d→d.cells[j]? =some c→xs[i*u.cells.length+j]? =some u'→bj w G.S u' c)∧
        (v= .slice none 0 0∧g'=none∨ ∃g x,g'=some g∧σ.live g=some x∧G.τ g=v∧ ∀b,v.ownBlock=some b→(∀o,G.S b o↔Tag.ex (p,0)=false∧o<xs.length)))→
        ct C Φ Pre (.room [] (.bin .cat pV ex) ie.bytes)→
        (∀a' w' G',er n w0 S0 (C.add p) G' ((⟨o.dst,([], .one (.own (p,0) (.bin .cat pV ex) u)),[],(match g' with|some g=> [(g,none)] |none=> [])++[((p,0),some (.bin .cat pV ex,el,u))],[],items⟩:fD).app σ) a' w'→K a' w')→
        o.wp P a w K Q:=by
       rintro v pV g' hv B9 ⟨l1,xs,wN,oK,bw,V8,hold⟩ nj hK
       have dC:den C.ρ (.bin .cat pV ex)= .list (l1++l2):=by simp only[den,B.den,wN,nL,D.ak]
       obtain⟨SW,yJ⟩:=nj
       have lC:=yJ rfl
       rw[dC]at lC
       simp only[D.ak,List.length_append]at lC
       have fX: ∀w∈news,w.oneCell'=true:=by
        intro uu Y2
        obtain⟨q,hq⟩:=List.getElem?_of_mem Y2
        have DO:q<news.length:=(ai.1 hq).1
        have Wa:0<u.cells.length:=by omega
        have hi:q/u.cells.length<l2.length:=by rw[Nat.div_lt_iff_lt_mul Wa,←yK];exact DO
        have hj:q % u.cells.length<u.cells.length:=Nat.mod_lt _ Wa
        have hd:l2[q/u.cells.length]? =some (l2[q/u.cells.length]'hi):=av hi
        have fV:u.cells[q % u.cells.length]? =some (u.cells[q % u.cells.length]'hj):=av hj
        obtain⟨cc,m8,Ea⟩:=(bp (oJ _ (aS hd))).2 _ _ fV
        have Tx:q/u.cells.length*u.cells.length+q % u.cells.length=q:=by rw[Nat.mul_comm];exact Nat.div_add_mod _ _
        exact(B5 _ _ _ uu cc hd m8 (by rw[Tx];exact hq)).gq Ea (aV.1 Ab _ (List.getElem_mem hj))
       obtain⟨v',w',cM,uX,dR⟩:=fT (P:=P) w 0 tt o.type el ie z u.cells.length hu qm hz Ck.symm (by rw[sX,Ck]) v l1.length xs bw A l2.length c news hA yK yL fX lC.1 lC.2 (Nat.zero_le _)
       have mJ:(execOp a.eval o).run P w= .ok (.value v') w':=by
        have ha1:args= #[sx,x] :=by apply Array.ext';simpa using cZ
        have ha2:argTypes= #[tt,tt] :=by apply Array.ext';simpa using yV
        unfold execOp;simp only[ho,resolve,invoke,builtin,ha1,ha2]
        simp[hv,DN,cM]
       unfold Oper.wp
       rw[mJ]
       have TG: ∀g,g'=some g→g≠(p,0):=by
        intro g Me he
        rcases hold with⟨_,h2⟩|⟨g0,x0,h2,h3,_⟩
        ·rw[h2]at Me;cases Me
        ·rw[h2]at Me;injection Me with Me;subst Me;subst he
         exact da hs.m hp h3 rfl
       obtain⟨G',aU,hm,eJ⟩:=hs.m.appended hp 0 (v:=v) (v':=v') (T:=el) (t:=u) (n:=l1.length) (m:=l2.length) (xs:=xs) (news:=news) (l:=l1) (l2:=l2) (e2:= .bin .cat pV ex)
        (by omega) rfl rfl V8 B5 (fun d hd=>(bp (oK d hd)).1) bw.1 uX dR (cG σ.live ((match g' with|some g=> [(g,none)] |none=> [])++[((p,0),some (.bin .cat pV ex,el,u))]))
        (by
         rcases hold with⟨h1,_⟩|⟨g0,x0,h2,h3,h4,h5⟩
         ·exact .inl h1
         ·refine .inr ⟨g0,x0,h3,h4,?_,fun b hb=>⟨h5 b hb,fun o' u' B4=> ?_⟩⟩
          ·rw[h2];simp[cG,lk]
          ·have:=bw.cells (g:=b) hb o' u' B4
           rw[dD,Nat.zero_add]at this;exact this)
        (by simp[E.lt,B9,y1]) dC (by rw[dC];exact aD.2 ⟨_,rfl,⟨by simpa using lC.1,by rw[←Cq];simpa using lC.2⟩,fun d hd=>by rcases List.mem_append.1 hd with h|h;exact oK d h;exact oJ d h⟩)
        (by
         intro g0 x0 fL
         unfold cG at fL
         cases g' with
         |none=>
          simp only[List.nil_append,lk]at fL
          by_cases he:g0=(p,0)
          ·rw[if_pos he]at fL;simp only[Option.some.injEq]at fL;exact .inr ⟨he,fL.symm⟩
          ·rw[if_neg he]at fL;exact .inl ⟨he,fL⟩
         |some g1=>
          simp only[List.cons_append,List.nil_append,lk]at fL
          by_cases B9:g0=g1
          ·rw[if_pos B9]at fL;cases fL
          ·rw[if_neg B9]at fL
           by_cases he:g0=(p,0)
           ·rw[if_pos he]at fL;simp only[Option.some.injEq]at fL;exact .inr ⟨he,fL.symm⟩
           ·rw[if_neg he]at fL;exact .inl ⟨he,fL⟩)
        (fun iQ=>⟨rfl,(by
         intro hn u0 Oy
         rcases bw.2 with⟨_,h1⟩|⟨b0,Py,UE,h1,_⟩
         ·have:=bw.1
          rw[h1,Nat.zero_mul]at this
          rw[List.eq_nil_of_length_eq_zero this]at Oy;simp at Oy
         ·rw[hn]at h1;cases h1),(by
         have h1:=j6 iQ
         unfold uM at h1
         simp only[ho,cZ,yV]at h1
         cases pT:dz P σ [] x tt with
         |none=>rw[cV,pT]at hx;cases hx
         |some xv=>
          have hxd:nB xv=some (ex, .list u):=by rw[cV,pT]at hx;exact hx
          have h2:(u.cells.all Ty.bare)=true∨A9 xv=true:=by
           rw[F0,pT]at h1
           cases sv with
           |one c0=>cases c0 with
            |clip e0 u0=>exact absurd rfl (gS _ _)
            |_=>exact .inr h1
           |_=>exact .inr h1
          have h3:k9 (zn (gH w0 S0) w G.S) (a.eval x)∨(u.cells.all Ty.bare)=true:=by
           rcases h2 with h2|h2
           ·exact .inr h2
           ·exact Fu h2 (hs.m.fresh iQ) (bg hs.t (pc:=[]) rfl pT) hxd
          rcases h3 with h3|h3
          ·exact JL h3 (nL▸y2) B7 DN yK yL
          ·exact nC h3 (by omega) oJ yK B5)⟩) jg
       have CY:=hm.own (p,0) (.bin .cat pV ex) el u (by
        show cG σ.live _ (p,0)=_
        unfold cG
        cases g' with
        |none=>simp[lk]
        |some g1=>simp[lk,Ne.symm (TG g1 rfl)])
       exact hK _ _ _ (hs.step (o:=o) (e:=⟨o.dst,([], .one (.own (p,0) (.bin .cat pV ex) u)),[],(match g' with|some g=> [(g,none)] |none=> [])++[((p,0),some (.bin .cat pV ex,el,u))],[],items⟩) aU (hm.congr (bK _) rfl) rfl
        (by simp[SV.lt,SC.lt,E.lt,B9,y1]) (by simp)
        (by
         intro _
         simp only[aq,List.all_nil,if_true]
         refine⟨.inr rfl,by simp[E.lt,B9,y1,Cx.add],?_,CY.has,eJ.symm⟩
         have:=CY.rep (by omega)
         rw[eJ]at this;exact this) cp)
      split at h
      ·rename_i v
       split at h
       ·rename_i hvu
        injection h with h;simp only[Prod.mk.injEq]at h;obtain⟨rfl,rfl,rfl,rfl,rfl,rfl⟩:=h
        have hv:=bg hs.t (pc:=[]) rfl F0
        refine main (.slice none 0 0) .nil none hv rfl ⟨[],[],rfl,by simp,World.ownsRow_nil w _ _ _,by simp, .inl ⟨rfl,rfl⟩⟩ eC hK
       ·cases h
      ·rename_i g0 e0 v
       split at h
       ·rename_i pV T' v' bf
        split at h
        ·rename_i Qw
         obtain⟨rfl,rfl,rfl,lR⟩:=Qw
         injection h with h;simp only[Prod.mk.injEq]at h;obtain⟨rfl,rfl,rfl,rfl,rfl,rfl⟩:=h
         have hv:=bg hs.t (pc:=[]) rfl F0
         have bM:=hs.m.own _ _ _ _ bf
         obtain⟨xs,l1,wN,bw,jN,hr⟩:=bM.own
         have hh:=bM.has
         rw[wN]at hh
         obtain⟨l1',IN,_,oK⟩:=aD.1 hh
         injection IN with IN;subst IN
         exact main (G.τ g0) pV (some g0) hv.2.2.2.2 bM.lt ⟨l1,xs,wN,oK,bw,hr, .inr ⟨g0,_,rfl,bf,rfl,fun b hb o=>(jN b hb o).trans (by rw[lR];rfl)⟩⟩ eC hK
        ·cases h
       ·cases h
      ·cases h
     ·cases h
    ·cases h
   ·cases h
  ·cases h
 ·cases h
theorem y9{ops:Array Oper}{e1 e2:E}{T:TypeId}{t:Ty}{b:Nat}(hs:er n w0 S0 C G σ a w)(hp: ¬C.M p)(hg:guardOf ops σ o=some [])
  (h:mr P σ o=some (e1,e2,T,t,b)) (eC:ct C Φ Pre (.room [] (.bin .cat e1 e2) b)) (aqY:ct C Φ Pre (.iP [] (.bin .lt (.ao .i64 0) (.un .len e2)))) (cp: ∀d,o.dst=some d→d<n) (items:List Item) (j6:S0.fr→uM P cs σ [] o=true) (jg: ¬S0.wz):
  c9 P n w0 S0 C ((⟨o.dst,([], .one (.own (p,0) (.bin .cat e1 e2) t)),[],[((p,0),some (.bin .cat e1 e2,T,t))],[],items⟩:fD).app σ) p ops a w o:=by
 intro K Q hK
 obtain⟨hw,hc⟩:=dr hs.t hg
 rw[hw,if_pos (show aq C.ρ [] =true from rfl)]
 unfold mr at h
 split at h
 ·rename_i args argTypes ho
  split at h
  ·rename_i sx x tt tt' cZ yV
   split at h
   ·rename_i el pV v ex u hu F0 hx
    split at h
    ·rename_i ie u' qm Oz
     split at h
     ·rename_i iT
      obtain⟨rfl,rfl,Ck,ev,Ab,hzero,Cq,rfl⟩:=iT
      injection h with h;simp only[Prod.mk.injEq]at h;obtain⟨rfl,rfl,rfl,rfl,rfl⟩:=h
      obtain⟨y1,y2,y3⟩:=bT hs.t (pc:=[]) rfl hx
      obtain⟨x1,x2,x3,ad,wF⟩:=bg hs.t (pc:=[]) rfl F0
      obtain⟨l1,wN,awo,oK⟩:=aD.1 x3
      obtain⟨l2,nL,ahP,oJ⟩:=aD.1 y3
      have hk1: ∀d∈l1,d.cells.length=v.cells.length:=fun d hd=>(bp (oK d hd)).1
      have B7: ∀d∈l2,d.cells.length=v.cells.length:=fun d hd=>(bp (oJ d hd)).1
      obtain⟨A1,c1,xs,ahi,hA1,mZ,V9,V8⟩:=(wN▸x2).source hk1
      obtain⟨A,c,news,DN,hA,yK,yL,B5⟩:=(nL▸y2).source B7
      obtain⟨z,hz,sX⟩: ∃z,ie.zero=some z∧z.cells.size=ie.size:=by
       cases hq:ie.zero with
       |none=>simp[hq]at hzero
       |some z=>exact⟨z,rfl,by simpa [hq]using hzero⟩
      have dC:den C.ρ (.bin .cat pV ex)= .list (l1++l2):=by simp only[den,B.den,wN,nL,D.ak]
      obtain⟨SW,yJ⟩:=eC
      have lC:=yJ rfl
      rw[dC]at lC
      simp only[D.ak,List.length_append]at lC
      have Oe:0<l2.length:=by
       have:=aqY.2 rfl
       simp only[den,B.den,U.den,nL,D.ab,D.eh,D.ak,aN]at this
       omega
      have gN:a.eval sx= .slice A1 l1.length l1.length:=by
       rw[wN]at wF
       simp only[D.ak]at wF
       rw[wF]at ahi⊢
       injection ahi with h1 h2 h3
       rw[h1]
      have fX: ∀w∈news,w.oneCell'=true:=by
       intro uu Y2
       obtain⟨q,hq⟩:=List.getElem?_of_mem Y2
       have DO:q<news.length:=(ai.1 hq).1
       have Wa:0<v.cells.length:=by omega
       have hi:q/v.cells.length<l2.length:=by rw[Nat.div_lt_iff_lt_mul Wa,←yK];exact DO
       have hj:q % v.cells.length<v.cells.length:=Nat.mod_lt _ Wa
       have hd:l2[q/v.cells.length]? =some (l2[q/v.cells.length]'hi):=av hi
       have fV:v.cells[q % v.cells.length]? =some (v.cells[q % v.cells.length]'hj):=av hj
       obtain⟨cc,m8,Ea⟩:=(bp (oJ _ (aS hd))).2 _ _ fV
       have Tx:q/v.cells.length*v.cells.length+q % v.cells.length=q:=by rw[Nat.mul_comm];exact Nat.div_add_mod _ _
       exact(B5 _ _ _ uu cc hd m8 (by rw[Tx];exact hq)).gq Ea (aV.1 Ab _ (List.getElem_mem hj))
      obtain⟨v',w',cM,uX,dR⟩: ∃v' w',(Builtin.append_ #[tt,tt] o.type #[.slice A1 l1.length l1.length, .slice A l2.length c]).run P w= .ok v' w'∧w'.ownsRow 0 el v.cells.length v' (l1.length+l2.length) (xs++news)∧
        ((v'.ownBlock=(Value.slice none 0 0).ownBlock∧w.grownBy w' (Value.slice none 0 0).ownBlock)∨(v'.ownBlock=some w.heap.size∧w.grownBy w' none)):=by
       cases A1 with
       |none=>
        have h0:=hA1 rfl
        have fL:xs=[] :=List.eq_nil_of_length_eq_zero (by rw[mZ,h0];simp)
        rw[h0,fL]
        have Oc:=lC
        rw[h0]at Oc
        exact fT (P:=P) w 0 tt o.type el ie z v.cells.length hu qm hz Ck.symm (by rw[sX,Ck]) (.slice none 0 0) 0 [] (World.ownsRow_nil w _ _ _) A l2.length c news hA yK yL fX Oc.1 Oc.2 (Nat.zero_le _)
       |some ad1=>
        obtain⟨v',w',q1,q2,q3,q4⟩:=zb (P:=P) w tt o.type el ie z v.cells.length hu qm hz Ck.symm (by rw[sX,Ck]) ad1 l1.length xs mZ (fun j u hj=>V9 ad1 rfl j u hj) A l2.length c news hA yK yL Oe lC.1 lC.2
        exact⟨v',w',q1,q2, .inr ⟨q3,q4⟩⟩
      have mJ:(execOp a.eval o).run P w= .ok (.value v') w':=by
       have ha1:args= #[sx,x] :=by apply Array.ext';simpa using cZ
       have ha2:argTypes= #[tt,tt] :=by apply Array.ext';simpa using yV
       unfold execOp;simp only[ho,resolve,invoke,builtin,ha1,ha2]
       simp[gN,DN,cM]
      unfold Oper.wp
      rw[mJ]
      obtain⟨G',aU,hm,eJ⟩:=hs.m.appended hp 0 (v:= .slice none 0 0) (v':=v') (T:=el) (t:=v) (n:=l1.length) (m:=l2.length) (xs:=xs) (news:=news) (l:=l1) (l2:=l2) (e2:= .bin .cat pV ex)
       (by omega) rfl rfl V8 B5 hk1 mZ uX dR (cG σ.live [((p,0),some (.bin .cat pV ex,el,v))]) (.inl rfl)
       (by simp[E.lt,x1,y1]) dC (by rw[dC];exact aD.2 ⟨_,rfl,⟨by simpa using lC.1,by rw[←Cq];simpa using lC.2⟩,fun d hd=>by rcases List.mem_append.1 hd with h|h;exact oK d h;exact oJ d h⟩)
       (by
        intro g0 x0 fL
        unfold cG at fL
        simp only[lk]at fL
        by_cases he:g0=(p,0)
        ·rw[if_pos he]at fL;simp only[Option.some.injEq]at fL;exact .inr ⟨he,fL.symm⟩
        ·rw[if_neg he]at fL;exact .inl ⟨he,fL⟩)
       (fun iQ=>by
        have h1:=j6 iQ
        unfold uM at h1
        simp only[ho,cZ,yV,F0]at h1
        exact⟨rfl,fun _=>nC h1 (by omega) oK mZ V8,nC h1 (by omega) oJ yK B5⟩) jg
      have CY:=hm.own (p,0) (.bin .cat pV ex) el v (by
       show cG σ.live _ (p,0)=_
       unfold cG
       simp[lk])
      exact hK _ _ _ (hs.step (o:=o) (e:=⟨o.dst,([], .one (.own (p,0) (.bin .cat pV ex) v)),[],[((p,0),some (.bin .cat pV ex,el,v))],[],items⟩) aU (hm.congr (bK _) rfl) rfl
       (by simp[SV.lt,SC.lt,E.lt,x1,y1]) (by simp)
       (by
        intro _
        simp only[aq,List.all_nil,if_true]
        refine⟨.inr rfl,by simp[E.lt,x1,y1,Cx.add],?_,CY.has,eJ.symm⟩
        have:=CY.rep (by omega)
        rw[eJ]at this;exact this) cp)
     ·cases h
    ·cases h
   ·cases h
  ·cases h
 ·cases h
end
section
variable{P:Program}{C:Cx}{w w0:World}{S0:ew}{G:Gh}{σ:St}{a:Act}{o:Oper}{pc:bI}{s:SV}{is:List Item}{Φ:Nat→List D→D}{Pre:Nat→List D→Prop}{n p:Nat}{cs:lD}
theorem oT{g:Tag}{t:Ty}{e:E}{T:TypeId}(h:p5 σ g t=some (e,T)):σ.live g=some (e,T,t)∧g.ex=true∧0<t.cells.length:=by
 unfold p5 at h
 split at h
 ·rename_i e' T' t' hl
  split at h
  ·rename_i hc
   obtain⟨rfl,h1,h2⟩:=hc
   injection h with h;simp only[Prod.mk.injEq]at h;obtain⟨rfl,rfl⟩:=h
   exact⟨hl,h1,h2⟩
  ·cases h
 ·cases h
theorem xl{g:Tag}{x:E×TypeId×Ty}(h:σ.live g=some x):cG σ.live [(g,some x)] =σ.live:=by
 rw[rT,bK]
 funext y
 split
 ·rename_i hy;rw[hy,h]
 ·rfl
theorem cJ.Wt(hm:cJ w0 S0 C G σ w){g:Tag}{e:E}{T:TypeId}{t:Ty}(hl:σ.live g=some (e,T,t)){b k cap:Nat}(eJ:G.τ g= .slice (some ⟨b,0,none⟩) k cap):
  ∃(cur:Array Value) (l:List D),w.heap[b]? =some (.cells cur T (0,0))∧den C.ρ e= .list l∧l.length=k∧(∀d∈l,Has t d)∧k*t.cells.length≤cur.size∧lP t k∧
   ∀(i:Nat) d (j:Nat) c,l[i]? =some d→d.cells[j]? =some c→ ∃v,cur[i*t.cells.length+j]? =some v∧bj w G.S v c:=by
 have bM:=hm.own g e T t hl
 obtain⟨xs,l,hd,⟨mZ,hh⟩,hS,hr⟩:=bM.own
 obtain⟨l',ks,F2,eI⟩:=aD.1 bM.has
 rw[hd]at ks;injection ks with ks;subst ks
 rcases hh with⟨hv,_⟩|⟨b',Ec,cur,hv,_,iS,yL,H9,gS,tp⟩
 ·rw[eJ]at hv;cases hv
 ·rw[eJ]at hv
  injection hv with FN Oa hv3
  injection FN with FN
  injection FN with FN
  subst FN;subst Oa;subst hv3
  refine⟨cur,l,iS,hd,rfl,eI,by rw[gS];exact Nat.mul_le_mul_right _ yL,F2,fun i d j c hi hj=> ?_⟩
  have eX:i<l.length:=(ai.1 hi).1
  have L6:=(bp (eI d (aS hi))).1
  have jh:j<t.cells.length:=by rw[←L6];exact(ai.1 hj).1
  have aL:i*t.cells.length+j<l.length*t.cells.length:=by
   have:(i+1)*t.cells.length≤l.length*t.cells.length:=Nat.mul_le_mul_right _ eX
   rw[Nat.add_mul]at this;omega
  obtain⟨v,pT⟩: ∃v,xs[i*t.cells.length+j]? =some v:=⟨_,av (by omega)⟩
  refine⟨v,?_,hr i d j _ c hi hj pT⟩
  rw[←tp,List.getElem?_take,if_pos aL]at pT
  simpa using pT
theorem cJ.QJ(hm:cJ w0 S0 C G σ w){g:Tag}{e i:E}{T:TypeId}{t:Ty}(hl:σ.live g=some (e,T,t)){b k cap:Nat}(eJ:G.τ g= .slice (some ⟨b,0,none⟩) k cap)(hi:(den C.ρ i).ab.toNat<k):
  ∃(d:D) (uu:Nat→Value),(den C.ρ e).ak[(den C.ρ i).ab.toNat]? =some d∧den C.ρ (.bin .idx e i)=d∧Has t d∧ ∀(j:Nat) c,d.cells[j]? =some c→w.cell? ⟨b,(den C.ρ i).ab.toNat*t.cells.length+j,none⟩=some (uu j)∧bj w G.S (uu j) c:=by
 obtain⟨cur,l,iS,hd,Ii,eI,_,_,hr⟩:=hm.Wt hl eJ
 have We:l[(den C.ρ i).ab.toNat]? =some (l[(den C.ρ i).ab.toNat]'(by omega)):=av _
 refine⟨_,fun j=>cur.toList.getD ((den C.ρ i).ab.toNat*t.cells.length+j) undef,by rw[hd];exact We,?_,eI _ (aS We),fun j c hj=> ?_⟩
 ·simp only[den,B.den,hd,D.ak];exact dX We
 ·obtain⟨v,hv,hvr⟩:=hr _ _ j c We hj
  have ng:cur.toList[(den C.ρ i).ab.toNat*t.cells.length+j]? =some v:=by simpa using hv
  have e1:cur.toList.getD ((den C.ρ i).ab.toNat*t.cells.length+j) undef=v:=by simp[List.getD,ng]
  simp only[e1]
  exact⟨by rw[cell_of_row w b _ cur T (0,0) iS];exact hv,hvr⟩
theorem I1{ops:Array Oper}{e:fD}(hs:er n w0 S0 C G σ a w)(hg:o.guard=none){v:Value}(cM:(execOp a.eval o).run P w= .ok (.value v) w)(qn:e.hp=[])(zk:cG σ.live e.live=σ.live)
  (hd:e.dst=o.dst) (bY:e.uz.1=[]) (aL:e.uz.2.lt C.N=true) (hv:wQ C w G e.uz.2 v) (cp: ∀d,o.dst=some d→d<n):c9 P n w0 S0 C (e.app σ) p ops a w o:=by
 intro K Q hK
 have hw:Region.wanted o (yielded ops a.tmps)=true:=by unfold Region.wanted;rw[hg]
 rw[hw,if_pos rfl]
 unfold Oper.wp
 rw[cM]
 have aU:=bO.mF C w G p
 refine hK _ _ _ (hs.step (o:=o) aU ((hs.m.mF p).congr (by show cG σ.hp e.hp=_;rw[qn,bK]) zk) hd aL (by rw[bY];simp) (fun _=> ?_) cp)
 rw[bY]
 simp only[aq,List.all_nil,if_true]
 exact hv.later aU
theorem Cw{ops:Array Oper}{e:fD}(hs:er n w0 S0 C G σ a w)(hg:o.guard=none)(h:KQ P σ o=some e)(aL:e.uz.2.lt C.N=true)(cp: ∀d,o.dst=some d→d<n):
  c9 P n w0 S0 C (e.app σ) p ops a w o:=by
 unfold KQ at h
 split at h
 ·rename_i t x ho
  split at h
  ·cases h
  ·rename_i ib
   have ib:(P.underlying t).isSome=true:=by cases hq:P.underlying t<;>simp[hq]at ib⊢
   split at h
   ·rename_i g i u off hx
    split at h
    ·rename_i el T B6
     simp only[br]at h
     obtain⟨⟨s',is'⟩,h1,rfl⟩:=h
     obtain⟨hl,hex,ev⟩:=oT B6
     obtain⟨hM,Ux,b,cap,k,eJ,Wh,Md,hv⟩:=bg hs.t (pc:=[]) rfl hx
     obtain⟨d,uu,_,hd,eS,hc⟩:=hs.m.QJ (i:=i) hl eJ Md
     obtain⟨v,k1,k2⟩:=nI (P:=P) (C:=C) (w:=w) (G:=G) (b:=b) (o':=(den C.ρ i).ab.toNat*u.cells.length) (uu:=uu) h1 ib (by simp[E.lt,Ux,(hs.m.own _ _ _ _ hl).lt]) (by rw[hd];exact eS) (by rw[hd];exact hc)
     refine I1 (e:=⟨o.dst,([],s'),[],[(g,some (el,T,u))],[],[]⟩) (v:=v) hs hg ?_ rfl (xl hl) rfl rfl aL k2 cp
     unfold execOp;simp only[ho,hv]
     rw[Sem.run_bind,k1];rfl
    ·cases h
   ·cases h
 ·cases h
theorem E7{ops:Array Oper}{e:fD}(hs:er n w0 S0 C G σ a w)(hg:o.guard=none)(h:TQ P σ o=some e)(aL:e.uz.2.lt C.N=true)(cp: ∀d,o.dst=some d→d<n):
  c9 P n w0 S0 C (e.app σ) p ops a w o:=by
 unfold TQ at h
 split at h
 ·rename_i args argTypes ho
  split at h
  ·rename_i x t cZ CQ
   split at h
   ·rename_i el g u hu hx
    split at h
    ·rename_i ee T B6
     injection h with h;subst h
     obtain⟨hl,hex,ev⟩:=oT B6
     obtain⟨hM,hv,A,k,cap,F1⟩:=bg hs.t (pc:=[]) rfl hx
     have bM:=hs.m.own _ _ _ _ hl
     obtain⟨l,hd,F2,_⟩:=aD.1 bM.has
     have hk:k=l.length:=by
      obtain⟨xs,l',gZ,⟨_,hh⟩,_⟩:=bM.own
      rw[hd]at gZ;injection gZ with gZ;subst gZ
      rw[←hv,F1]at hh
      rcases hh with⟨ng,hn⟩|⟨b',Ec,cur,ng,_⟩
      ·injection ng with q1 q2 q3;omega
      ·injection ng with q1 q2 q3
     have pw:args= #[x] :=by apply Array.ext';simpa using cZ
     refine I1 (v:= .int .i64 l.length) hs hg ?_ rfl (xl hl) rfl rfl aL ?_ cp
     ·unfold execOp;simp only[ho,resolve,invoke,builtin,pw]
      simp[Builtin.len_,CQ,F1,run_underlying hu,goInt,hk]
     ·refine⟨by simpa [E.lt]using bM.lt,?_,?_⟩
      ·simp only[den,U.den,hd,D.ak];exact .int _ _
      ·simp only[den,U.den,hd,D.ak]
       have F2:=F2.1
       refine bF.2 ⟨_,rfl,?_,?_⟩
       ·show IntKind.i64.min≤_;simp[IntKind.min,IntKind.signed,IntKind.bits];try omega
       ·show _≤IntKind.i64.max;simp[IntKind.max,IntKind.signed,IntKind.bits];simp only[maxLen]at F2;omega
    ·cases h
   ·cases h
  ·cases h
 ·cases h
theorem BI{ops:Array Oper}{e:fD}(hs:er n w0 S0 C G σ a w)(hg:o.guard=none)(h:Ef P σ o=some e)(eC: ∀it∈e.items,ct C Φ Pre it)(aL:e.uz.2.lt C.N=true)(cp: ∀d,o.dst=some d→d<n):
  c9 P n w0 S0 C (e.app σ) p ops a w o:=by
 unfold Ef at h
 split at h
 ·rename_i t x i ho
  split at h
  ·rename_i el g u ie k hu hx hi
   split at h
   ·rename_i ee T B6
    split at h
    ·rename_i fo
     injection h with h;subst h
     obtain⟨hl,hex,ev⟩:=oT B6
     obtain⟨hM,hv,A,kk,cap,F1⟩:=bg hs.t (pc:=[]) rfl hx
     obtain⟨y1,y2,y3⟩:=bT hs.t (pc:=[]) rfl hi
     obtain⟨m,hm,_⟩:=bF.1 y3
     have bM:=hs.m.own _ _ _ _ hl
     obtain⟨l,hd,F2,_⟩:=aD.1 bM.has
     have dw:ct C Φ Pre (.iP [] (.bin .and (.bin .le (.ao k 0) ie) (.bin .lt ie (.un .len ee)))):=eC _ (by simp)
     have hb:=dw.2 rfl
     simp only[den,B.den,U.den,hd,hm,D.ab,D.eh,D.ak,aw,aN]at hb
     obtain⟨Wn,tH⟩:=hb
     obtain⟨xs,l',gZ,⟨_,hh⟩,_⟩:=bM.own
     rw[hd]at gZ;injection gZ with gZ;subst gZ
     rcases hh with⟨_,hn⟩|⟨b,Ec,cur,ng,_⟩
     ·omega
     ·have FX:a.eval i= .int k m:=(hm▸y2).bD
      have DN:a.eval x= .slice (some ⟨b,0,none⟩) l.length Ec:=by rw[hv,ng]
      refine I1 (v:= .pointer (some ⟨b,m.toNat*u.cells.length,none⟩)) hs hg ?_ rfl (xl hl) rfl rfl aL ?_ cp
      ·have h1:=fc (P:=P) (w:=w) fo
       unfold execOp;simp only[ho,DN,FX,Instr.indexAt,asIntOf]
       simp[run_underlying hu,Wn,tH,h1,dD]
      ·refine⟨hM,y1,b,Ec,l.length,ng,?_,?_,?_⟩
       ·rw[hm];exact Wn
       ·rw[hm];simp only[D.ab];omega
       ·rw[hm];simp only[D.ab];rw[Nat.add_zero]
    ·cases h
   ·cases h
  ·cases h
 ·cases h
theorem qS{N:Nat}: ∀(l:List E),(E.bQ l).lt N=true↔ ∀e∈l,e.lt N=true
 | [] =>by simp[E.bQ,E.lt]
 |e::l=>by simp[E.bQ,E.lt,qS l]
theorem Du: ∀{fs:Ty} {l0 l:List D},bV fs l0→bV (.bQ fs.ak) l→bV fs l
 | .nil,_,l,_,h=>h
 | .cons a b,l0,l,h0,h=>by
  obtain⟨_,r0,_,_,SW⟩:=aa.1 h0
  obtain⟨x,r,rfl,hx,hr⟩:=aa.1 h
  exact aa.2 ⟨x,r,rfl,hx,Du SW hr⟩
 | .int _,_,_,h,_| .bool,_,_,h,_| .str,_,_,h,_| .list _,_,_,h,_| .agg _,_,_,h,_| .cW _,_,_,h,_| .box _,_,_,h,_| .ptr _,_,_,h,_| .fn _ _,_,_,h,_=>h.elim
theorem FB{u:Ty}{d:D}(hs:u.scalar=true)(h:Has u d):u.cells=[u] ∧d.cells=[d] :=by
 have hu:u.cells=[u] :=by cases u<;>first|rfl|cases hs
 refine⟨hu,?_⟩
 cases d<;>first|rfl|(rename_i l;exfalso;cases u<;>simp[Ty.scalar]at hs<;>simp[bF,bA,kP,aD,fA,jV,jl]at h)
theorem Nb{u:Ty}{el x:E}{off:Nat}{es:List E}{ts:List Ty}(h:I5 u el off es=some x)(F3:el.lt C.N=true)(pe:(E.bQ es).lt C.N=true)(hu:Has u (den C.ρ el))
  (hle:off+es.length≤u.cells.length) (nh:ts=(u.cells.drop off).take es.length) (hh:bV (.bQ ts) (es.map (den C.ρ))):
  x.lt C.N=true∧Has u (den C.ρ x)∧ ∀(j:Nat) c,(den C.ρ x).cells[j]? =some c→if off≤j∧j<off+es.length then(es[j-off]?).map (den C.ρ)=some c else(den C.ρ el).cells[j]? =some c:=by
 have Co:=(qS es).1 pe
 unfold I5 at h
 split at h
 ·rename_i fs
  injection h with h;subst h
  obtain⟨l0,SY,Wi⟩:=cu.1 hu
  have hlen:=dZ Wi
  have yU:((gO el 0 fs.ak).map (·.1)).map (den C.ρ)=l0:=by
   apply List.ext_getElem?
   intro i
   simp only[List.getElem?_map,kI,Option.map_map]
   cases hi:(fs.ak)[i]? with
   |none=>
    have:l0.length≤i:=by rw[hlen];exact List.getElem?_eq_none_iff.1 hi
    simp[List.getElem?_eq_none this]
   |some t=>
    obtain⟨y,hy,_⟩:=bX Wi i t hi
    simp only[Option.map_some,Function.comp,den,U.den,SY,D.ak,Nat.zero_add,dX hy,hy]
  have awn:off+es.length≤l0.length:=by rw[hlen];exact hle
  have dC:den C.ρ (.un .agg (.bQ (((gO el 0 fs.ak).map (·.1)).take off++es++((gO el 0 fs.ak).map (·.1)).drop (off+es.length))))= .agg (l0.take off++es.map (den C.ρ)++l0.drop (off+es.length)):=by
   simp only[den,dG,U.den,D.ak,List.map_append,List.map_take,List.map_drop,yU]
  have zY: ∀(j:Nat) c,(l0.take off++es.map (den C.ρ)++l0.drop (off+es.length))[j]? =some c→if off≤j∧j<off+es.length then(es[j-off]?).map (den C.ρ)=some c else l0[j]? =some c:=by
   intro j c hj
   have h1:(l0.take off).length=off:=by rw[List.length_take];omega
   split
   ·rename_i hc
    rw[List.getElem?_append_left (by simp[h1];omega),List.getElem?_append_right (by omega),h1]at hj
    simpa using hj
   ·rename_i hc
    by_cases hjo:j<off
    ·rw[List.getElem?_append_left (by simp[h1];omega),List.getElem?_append_left (by omega),List.getElem?_take,if_pos hjo]at hj;exact hj
    ·rw[List.getElem?_append_right (by simp[h1];omega)]at hj
     simp only[List.length_append,h1,List.length_map,List.getElem?_drop]at hj
     rw[show off+es.length+(j-(off+es.length))=j by omega]at hj;exact hj
  refine⟨?_,?_,?_⟩
  ·simp only[E.lt]
   rw[qS]
   have gz: ∀e∈(gO el 0 fs.ak).map (·.1),e.lt C.N=true:=by
    intro e he
    obtain⟨i,hi⟩:=List.getElem?_of_mem he
    simp only[List.getElem?_map,kI,Option.map_map,br]at hi
    obtain⟨_,_,rfl⟩:=hi
    simpa [E.lt]using F3
   intro e he
   simp only[List.mem_append]at he
   rcases he with(he|he)|he
   ·exact gz e (List.mem_of_mem_take he)
   ·exact Co e he
   ·exact gz e (List.mem_of_mem_drop he)
  ·rw[dC]
   refine cu.2 ⟨_,rfl,Du Wi (fK ?_ fun j t y hj hy=> ?_)⟩
   ·simp only[List.length_append,List.length_take,List.length_map,List.length_drop];omega
   ·have:=zY j y hy
    split at this
    ·rename_i hc
     have ht:ts[j-off]? =some t:=by
      rw[nh,List.getElem?_take,if_pos (by omega),List.getElem?_drop,show off+(j-off)=j by omega];exact hj
     obtain⟨z,hz,YY⟩:=bX hh (j-off) t (by rw[Ty.cC];exact ht)
     simp only[List.getElem?_map]at hz
     rw[this]at hz;injection hz with hz;subst hz;exact YY
    ·obtain⟨z,hz,YY⟩:=bX Wi j t hj
     rw[this]at hz;injection hz with hz;subst hz;exact YY
  ·rw[dC]
   intro j c hj
   have:=zY j c hj
   rw[SY];exact this
 ·rename_i x' _
  split at h
  ·rename_i hc
   obtain⟨rfl,jC⟩:=hc
   injection h with h;subst h
   have hxx:Has u (den C.ρ x'):=by
    have qf:u.cells=[u] :=by cases u<;>first|rfl|cases jC
    rw[qf]at nh
    simp at nh
    subst nh
    obtain⟨z,hz,YY⟩:=bX hh 0 u (by simp[Ty.bQ,Ty.ak])
    simp at hz;subst hz;exact YY
   refine⟨Co x' (by simp),hxx,fun j c hj=> ?_⟩
   rw[(FB jC hxx).2]at hj
   cases j with
   |zero=>simp at hj⊢;exact hj
   |succ j=>simp at hj
  ·cases h
 ·cases h
theorem BH{ops:Array Oper}{e:fD}(hs:er n w0 S0 C G σ a w)(hg:o.guard=none)(h:Ed P σ o=some e):c9 P n w0 S0 C (e.app σ) p ops a w o:=by
 unfold Ed at h
 split at h
 ·rename_i t x y ho
  split at h
  ·rename_i g i u off es ts sz hx hy fo
   split at h
   ·rename_i el T B6
    split at h
    ·rename_i iT
     obtain⟨hn,hle,nh,jC,hd⟩:=iT
     simp only[br]at h
     obtain⟨xe,H4,rfl⟩:=h
     obtain⟨hl,hex,ev⟩:=oT B6
     obtain⟨hM,Ux,b,cap,k,eJ,Wh,Md,hv⟩:=bg hs.t (pc:=[]) rfl hx
     obtain⟨cur,l,iS,dC,Ii,eI,awt,H8,hr⟩:=hs.m.Wt hl eJ
     obtain⟨d,_,hld,wP,hdh,_⟩:=hs.m.QJ (i:=i) hl eJ Md
     rw[dC]at hld
     simp only[D.ak]at hld
     generalize hI:(den C.ρ i).ab.toNat=I at*
     have L6:=(bp hdh).1
     obtain⟨us,L9,Tu⟩: ∃us:List Value,(a.eval y).cells=us.toArray∧(E.bQ es).lt C.N=true∧es.length=us.length∧ts.length=us.length∧(∀(i:Nat) v e,us[i]? =some v→es[i]? =some e→bj w G.S v (den C.ρ e))∧bV (.bQ ts) (es.map (den C.ρ))∧ ∀u∈us,u.oneCell'=true:=by
      cases Zg:dz P σ [] y t with
      |none=>simp[Zg]at hy
      |some sv=>
       simp only[Zg,Option.bind_some]at hy
       cases hac:kR sv with
       |none=>simp[hac]at hy
       |some csl=>
        simp only[hac,Option.bind_some]at hy
        have aht:csl.all SC.scalar=true:=by
         rw[aV]
         intro c hc
         obtain⟨j,hj⟩:=List.getElem?_of_mem hc
         have: ∀{l:List SC} {es:List E} {ts:List Ty} {j:Nat} {c:SC},eQ l=some (es,ts)→ts.all Ty.scalar=true→l[j]? =some c→c.scalar=true:=by
          intro l
          induction l with
          |nil=>intro es ts j c _ _ hj;simp at hj
          |cons c0 l ih=>
           intro es ts j c h hs hj
           simp only[eQ]at h
           split at h
           ·rename_i e0 t0 tg Tj h1 h2
            injection h with h;simp only[Prod.mk.injEq]at h;obtain⟨rfl,rfl⟩:=h
            simp only[List.all_cons,aw]at hs
            cases j with
            |zero=>
             simp at hj;subst hj
             cases c0<;>simp only[asData]at h1<;>first
              |rfl
              |(injection h1 with h1;simp only[Prod.mk.injEq]at h1;obtain⟨_,rfl⟩:=h1;exact hs.1)
            |succ j=>exact ih h2 hs.2 (by simpa using hj)
           ·cases h
         exact this hy jC hj
        obtain⟨us,h1,h2⟩:=pK hac (bg hs.t (pc:=[]) rfl Zg) aht
        obtain⟨m1,m2,m3,m4,m5⟩:=kJ hy h2
        refine⟨us,h1,m1,m2,m3,m4,m5,fun v hv=> ?_⟩
        obtain⟨j,hj⟩:=List.getElem?_of_mem hv
        have jh:j<us.length:=(ai.1 hj).1
        have hcj:csl[j]? =some (csl[j]'(by rw[←h2.1];exact jh)):=av _
        exact(h2.2 j _ v hcj hj).gq (aV.1 aht _ (aS hcj))
     obtain⟨akv,Co,awi,fa,hhl,fX⟩:=Tu
     have aqP:(E.bin .idx el i).lt C.N=true:=by simp[E.lt,(hs.m.own _ _ _ _ hl).lt,Ux]
     obtain⟨aql,hxh,V9⟩:=Nb (C:=C) H4 aqP akv (by rw[wP];exact hdh) (by rw[hn];exact hle) (by rw[hn];exact nh) hhl
     rw[wP]at V9
     generalize gZ:den C.ρ xe=d' at*
     have hIl:I<l.length:=by omega
     have awh:=(bp hxh).1
     let l':=l.take I++d'::(l.drop I).drop 1
     have Ro:l'.length=l.length:=by simp only[l',List.length_append,List.length_take,List.length_cons,List.length_drop];omega
     have ahY:den C.ρ (uP el i xe)= .list l':=by
      have:den C.ρ (uP el i xe)= .list (l.take (den C.ρ i).ab.toNat++d'::(l.drop (den C.ρ i).ab.toNat).drop 1):=by simp only[uP,den,B.den,dC,D.ak,gZ];rfl
      rw[this,hI]
     have Rp: ∀(q:Nat) dd,l'[q]? =some dd→(q=I∧dd=d')∨(q≠I∧l[q]? =some dd):=by
      intro q dd hq
      have h1:(l.take I).length=I:=by rw[List.length_take];omega
      by_cases hqi:q<I
      ·simp only[l']at hq
       rw[List.getElem?_append_left (by omega),List.getElem?_take,if_pos hqi]at hq
       exact .inr ⟨by omega,hq⟩
      ·simp only[l']at hq
       rw[List.getElem?_append_right (by omega),h1]at hq
       by_cases hqe:q=I
       ·rw[hqe,Nat.sub_self]at hq;simp at hq;exact .inl ⟨hqe,hq.symm⟩
       ·rw[show q-I=(q-I-1)+1 by omega,List.getElem?_cons_succ,List.getElem?_drop,List.getElem?_drop]at hq
        rw[show I+(1+(q-I-1))=q by omega]at hq
        exact .inr ⟨hqe,hq⟩
     have hbound:(I+1)*u.cells.length≤k*u.cells.length:=Nat.mul_le_mul_right _ (by omega)
     have tG:(I+1)*u.cells.length=I*u.cells.length+u.cells.length:=by rw[Nat.add_mul,Nat.one_mul]
     have iC:I*u.cells.length+off+us.length≤cur.size:=by omega
     have mj:=run_storeCells_at P b (I*u.cells.length+off) T us 0 cur w iS (by simpa using iC) fX
     simp only[Nat.add_zero]at mj
     have cM:(execOp a.eval o).run P w= .ok .skip (w.setRow b (cur.toList.take (I*u.cells.length+off)++us++cur.toList.drop (I*u.cells.length+off+us.length)).toArray):=by
      have h1:=fc (P:=P) (w:=w) fo
      unfold execOp;simp only[ho,hv,Instr.storeAt,Instr.sureAddr]
      simp[storeVar,h1,L9,mj,←Co,hn]
     intro K Q hK
     have hw:Region.wanted o (yielded ops a.tmps)=true:=by unfold Region.wanted;rw[hg]
     rw[hw,if_pos rfl]
     unfold Oper.wp
     rw[cM]
     obtain⟨aU,hm⟩:=hs.m.apI hl hex (e':=uP el i xe) (live':=cG σ.live [(g,some (uP el i xe,T,u))]) (l':=l') (row:=(cur.toList.take (I*u.cells.length+off)++us++cur.toList.drop (I*u.cells.length+off+us.length)).toArray)
      (by
       intro g' x' iA
       rw[rT,bK]at iA
       have iA:(if g'=g then some (uP el i xe,T,u) else σ.live g')=some x':=iA
       by_cases he:g'=g
       ·rw[if_pos he]at iA;injection iA with iA;exact .inr ⟨he,iA.symm⟩
       ·rw[if_neg he]at iA;exact .inl ⟨he,iA⟩) eJ iS (by simp;omega)
      (by simp[uP,E.lt,(hs.m.own _ _ _ _ hl).lt,Ux,aql]) ahY (by rw[Ro,Ii])
      (by
       rw[ahY]
       refine aD.2 ⟨l',rfl,by rw[Ro,Ii];exact H8,fun z hz=> ?_⟩
       obtain⟨q,hq⟩:=List.getElem?_of_mem hz
       rcases Rp q z hq with⟨_,rfl⟩|⟨_,DP⟩
       ·exact hxh
       ·exact eI z (aS DP))
      (by
       intro q dd j v c hq hj wF
       have xO:(cur.toList.take (I*u.cells.length+off)).length=I*u.cells.length+off:=by
        have gz:cur.toList.length=cur.size:=by simp
        rw[List.length_take,gz];omega
       have abk: ∀z,(z<I*u.cells.length+off∨I*u.cells.length+off+us.length≤z)→(cur.toList.take (I*u.cells.length+off)++us++cur.toList.drop (I*u.cells.length+off+us.length)).toArray[z]? =cur[z]? :=by
        intro z hz
        rw[List.getElem?_toArray]
        rcases hz with hz|hz
        ·rw[List.getElem?_append_left (by rw[List.length_append,xO];omega),List.getElem?_append_left (by omega),List.getElem?_take,if_pos hz];simp
        ·rw[List.getElem?_append_right (by rw[List.length_append,xO];omega),List.getElem?_drop,List.length_append,xO]
         rw[show I*u.cells.length+off+us.length+(z-(I*u.cells.length+off+us.length))=z by omega];simp
       have zg: ∀(q:Nat) dd,l[q]? =some dd→dd.cells[j]? =some c→(q*u.cells.length+j<I*u.cells.length+off∨I*u.cells.length+off+us.length≤q*u.cells.length+j)→(cur.toList.take (I*u.cells.length+off)++us++cur.toList.drop (I*u.cells.length+off+us.length)).toArray[q*u.cells.length+j]? =some v→bj w G.S v c:=by
        intro q dd hq hj hz wF
        rw[abk _ hz]at wF
        obtain⟨v0,CO,FN⟩:=hr q dd j c hq hj
        rw[wF]at CO;injection CO with CO;subst CO;exact FN
       rcases Rp q dd hq with⟨rfl,rfl⟩|⟨dH,DP⟩
       ·have hc:=V9 j c hj
        split at hc
        ·rename_i hjo
         rw[List.getElem?_toArray,List.getElem?_append_left (by rw[List.length_append,xO];omega),List.getElem?_append_right (by omega),xO]at wF
         rw[show q*u.cells.length+j-(q*u.cells.length+off)=j-off by omega]at wF
         cases Mg:es[j-off]? with
         |none=>rw[Mg]at hc;cases hc
         |some ee=>
          rw[Mg]at hc
          simp only[Option.map_some,Option.some.injEq]at hc
          rw[←hc]
          exact fa _ v ee wF Mg
        ·rename_i hjo
         exact zg q d hld hc (by omega) wF
       ·have jh:j<u.cells.length:=by rw[←(bp (eI dd (aS DP))).1];exact(ai.1 hj).1
        refine zg q dd DP hj ?_ wF
        rcases Nat.lt_or_gt_of_ne dH with h1|h1
        ·have:(q+1)*u.cells.length≤I*u.cells.length:=Nat.mul_le_mul_right _ h1
         rw[Nat.add_mul]at this;omega
        ·have:(I+1)*u.cells.length≤q*u.cells.length:=Nat.mul_le_mul_right _ h1
         omega)
     have Gx:=aU.trans (bO.mF C _ G p)
     exact hK _ _ _ (hs.step (o:=o) (e:=⟨none,([], .agg []),[],[(g,some (uP el i xe,T,u))],[],[]⟩) Gx ((hm.mF p).congr (bK _) rfl) hd.symm rfl (by simp)
      (v:=undef) (by rintro⟨d,gZ⟩;rw[hd]at gZ;cases gZ) (by intro d gZ;rw[hd]at gZ;cases gZ))
    ·cases h
   ·cases h
  ·cases h
 ·cases h
end
section
variable{P:Program}{C:Cx}{w w0:World}{S0:ew}{G:Gh}{σ:St}{a:Act}{o:Oper}{pc:bI}{s:SV}{is:List Item}{Φ:Nat→List D→D}{Pre:Nat→List D→Prop}{n p:Nat}{cs:lD}
theorem E9{ops:Array Oper}{g:Option Tag}{e1 e2:E}{T:TypeId}{t:Ty}{b:Nat}(hs:er n w0 S0 C G σ a w)(hp: ¬C.M p)(hg:guardOf ops σ o=some [])
  (h:An P σ o=some (g,e1,e2,T,t,b)) (eC:ct C Φ Pre (.room [] (.bin .cat e1 e2) b)) (cp: ∀d,o.dst=some d→d<n) (items:List Item) (nK: ¬S0.fr) (jg: ¬S0.wz):
  c9 P n w0 S0 C ((⟨o.dst,([], .one (.xo (p,1000) t)),[],(match g with|some g=> [(g,none)] |none=> [])++[((p,1000),some (.bin .cat e1 e2,T,t))],[],items⟩:fD).app σ) p ops a w o:=by
 intro K Q hK
 obtain⟨hw,hc⟩:=dr hs.t hg
 rw[hw]
 simp only[aq,List.all_nil,if_true]
 unfold An at h
 split at h
 ·rename_i args argTypes ho
  split at h
  ·rename_i sx x tt tt' cZ yV
   split at h
   ·rename_i el sv ex u hu F0 hx
    split at h
    ·rename_i ie u' qm Oz
     split at h
     ·rename_i iT
      obtain⟨rfl,rfl,Ck,ev,Ab,hzero,Cq⟩:=iT
      obtain⟨y1,y2,y3⟩:=bT hs.t (pc:=[]) rfl hx
      obtain⟨l2,nL,ahP,oJ⟩:=aD.1 y3
      have B7: ∀d∈l2,d.cells.length=u.cells.length:=fun d hd=>(bp (oJ d hd)).1
      obtain⟨A,c,news,DN,hA,yK,yL,B5⟩:=(nL▸y2).source B7
      obtain⟨z,hz,sX⟩: ∃z,ie.zero=some z∧z.cells.size=ie.size:=by
       cases hq:ie.zero with
       |none=>simp[hq]at hzero
       |some z=>exact⟨z,rfl,by simpa [hq]using hzero⟩
      have main: ∀(v:Value) (pV:E) (g':Option Tag),a.eval sx=v→pV.lt C.N=true→(∃l1 xs,den C.ρ pV= .list l1∧(∀d∈l1,Has u d)∧w.ownsRow 0 el u.cells.length v l1.length xs∧
        (∀(i:Nat) d (j:Nat) u' c,l1[i]? =some d→d.cells[j]? =some c→xs[i*u.cells.length+j]? =some u'→bj w G.S u' c)∧
        (v= .slice none 0 0∧g'=none∨ ∃g x,g'=some g∧σ.live g=some x∧G.τ g=v∧ ∀b,v.ownBlock=some b→(∀o,G.S b o↔Tag.ex (p,1000)=false∧o<xs.length)))→
        ct C Φ Pre (.room [] (.bin .cat pV ex) ie.bytes)→
        (∀a' w' G',er n w0 S0 (C.add p) G' ((⟨o.dst,([], .one (.xo (p,1000) u)),[],(match g' with|some g=> [(g,none)] |none=> [])++[((p,1000),some (.bin .cat pV ex,el,u))],[],items⟩:fD).app σ) a' w'→K a' w')→
        o.wp P a w K Q:=by
       rintro v pV g' hv B9 ⟨l1,xs,wN,oK,bw,V8,hold⟩ nj hK
       have dC:den C.ρ (.bin .cat pV ex)= .list (l1++l2):=by simp only[den,B.den,wN,nL,D.ak]
       obtain⟨SW,yJ⟩:=nj
       have lC:=yJ rfl
       rw[dC]at lC
       simp only[D.ak,List.length_append]at lC
       have fX: ∀w∈news,w.oneCell'=true:=by
        intro uu Y2
        obtain⟨q,hq⟩:=List.getElem?_of_mem Y2
        have DO:q<news.length:=(ai.1 hq).1
        have Wa:0<u.cells.length:=by omega
        have hi:q/u.cells.length<l2.length:=by rw[Nat.div_lt_iff_lt_mul Wa,←yK];exact DO
        have hj:q % u.cells.length<u.cells.length:=Nat.mod_lt _ Wa
        have hd:l2[q/u.cells.length]? =some (l2[q/u.cells.length]'hi):=av hi
        have fV:u.cells[q % u.cells.length]? =some (u.cells[q % u.cells.length]'hj):=av hj
        obtain⟨cc,m8,Ea⟩:=(bp (oJ _ (aS hd))).2 _ _ fV
        have Tx:q/u.cells.length*u.cells.length+q % u.cells.length=q:=by rw[Nat.mul_comm];exact Nat.div_add_mod _ _
        exact(B5 _ _ _ uu cc hd m8 (by rw[Tx];exact hq)).gq Ea (aV.1 Ab _ (List.getElem_mem hj))
       obtain⟨v',w',cM,uX,dR⟩:=fT (P:=P) w 0 tt o.type el ie z u.cells.length hu qm hz Ck.symm (by rw[sX,Ck]) v l1.length xs bw A l2.length c news hA yK yL fX lC.1 lC.2 (Nat.zero_le _)
       have mJ:(execOp a.eval o).run P w= .ok (.value v') w':=by
        have ha1:args= #[sx,x] :=by apply Array.ext';simpa using cZ
        have ha2:argTypes= #[tt,tt] :=by apply Array.ext';simpa using yV
        unfold execOp;simp only[ho,resolve,invoke,builtin,ha1,ha2]
        simp[hv,DN,cM]
       unfold Oper.wp
       rw[mJ]
       have TG: ∀g,g'=some g→g≠(p,1000):=by
        intro g Me he
        rcases hold with⟨_,h2⟩|⟨g0,x0,h2,h3,_⟩
        ·rw[h2]at Me;cases Me
        ·rw[h2]at Me;injection Me with Me;subst Me;subst he
         exact da hs.m hp h3 rfl
       obtain⟨G',aU,hm,eJ⟩:=hs.m.appended hp 1000 (v:=v) (v':=v') (T:=el) (t:=u) (n:=l1.length) (m:=l2.length) (xs:=xs) (news:=news) (l:=l1) (l2:=l2) (e2:= .bin .cat pV ex)
        (by omega) rfl rfl V8 B5 (fun d hd=>(bp (oK d hd)).1) bw.1 uX dR (cG σ.live ((match g' with|some g=> [(g,none)] |none=> [])++[((p,1000),some (.bin .cat pV ex,el,u))]))
        (by
         rcases hold with⟨h1,_⟩|⟨g0,x0,h2,h3,h4,h5⟩
         ·exact .inl h1
         ·refine .inr ⟨g0,x0,h3,h4,?_,fun b hb=>⟨h5 b hb,fun o' u' B4=> ?_⟩⟩
          ·rw[h2];simp[cG,lk]
          ·have:=bw.cells (g:=b) hb o' u' B4
           rw[dD,Nat.zero_add]at this;exact this)
        (by simp[E.lt,B9,y1]) dC (by rw[dC];exact aD.2 ⟨_,rfl,⟨by simpa using lC.1,by rw[←Cq];simpa using lC.2⟩,fun d hd=>by rcases List.mem_append.1 hd with h|h;exact oK d h;exact oJ d h⟩)
        (by
         intro g0 x0 fL
         unfold cG at fL
         cases g' with
         |none=>
          simp only[List.nil_append,lk]at fL
          by_cases he:g0=(p,1000)
          ·rw[if_pos he]at fL;simp only[Option.some.injEq]at fL;exact .inr ⟨he,fL.symm⟩
          ·rw[if_neg he]at fL;exact .inl ⟨he,fL⟩
         |some g1=>
          simp only[List.cons_append,List.nil_append,lk]at fL
          by_cases B9:g0=g1
          ·rw[if_pos B9]at fL;cases fL
          ·rw[if_neg B9]at fL
           by_cases he:g0=(p,1000)
           ·rw[if_pos he]at fL;simp only[Option.some.injEq]at fL;exact .inr ⟨he,fL.symm⟩
           ·rw[if_neg he]at fL;exact .inl ⟨he,fL⟩)
        (fun iQ=>absurd iQ nK) jg
       have CY:=hm.own (p,1000) (.bin .cat pV ex) el u (by
        show cG σ.live _ (p,1000)=_
        unfold cG
        cases g' with
        |none=>simp[lk]
        |some g1=>simp[lk,Ne.symm (TG g1 rfl)])
       exact hK _ _ _ (hs.step (o:=o) (e:=⟨o.dst,([], .one (.xo (p,1000) u)),[],(match g' with|some g=> [(g,none)] |none=> [])++[((p,1000),some (.bin .cat pV ex,el,u))],[],items⟩) aU (hm.congr (bK _) rfl) rfl
        (rfl) (by simp)
        (by
         intro _
         simp only[aq,List.all_nil,if_true]
         refine⟨.inr rfl,eJ.symm,?_⟩
         rcases uX.2 with⟨hv,_⟩|⟨b,cap,cur,hv,_⟩
         ·exact⟨_,_,_,hv⟩
         ·exact⟨_,_,_,hv⟩) cp)
      split at h
      ·rename_i v
       split at h
       ·rename_i hvu
        injection h with h;simp only[Prod.mk.injEq]at h;obtain⟨rfl,rfl,rfl,rfl,rfl,rfl⟩:=h
        have hv:=bg hs.t (pc:=[]) rfl F0
        refine main (.slice none 0 0) .nil none hv rfl ⟨[],[],rfl,by simp,World.ownsRow_nil w _ _ _,by simp, .inl ⟨rfl,rfl⟩⟩ eC hK
       ·cases h
      ·rename_i g0 v
       split at h
       ·rename_i pV T' B6
        split at h
        ·rename_i Qw
         obtain⟨rfl,rfl⟩:=Qw
         obtain⟨bf,lR,_⟩:=oT B6
         injection h with h;simp only[Prod.mk.injEq]at h;obtain⟨rfl,rfl,rfl,rfl,rfl,rfl⟩:=h
         have hv:=bg hs.t (pc:=[]) rfl F0
         have bM:=hs.m.own _ _ _ _ bf
         obtain⟨xs,l1,wN,bw,jN,hr⟩:=bM.own
         have hh:=bM.has
         rw[wN]at hh
         obtain⟨l1',IN,_,oK⟩:=aD.1 hh
         injection IN with IN;subst IN
         exact main (G.τ g0) pV (some g0) hv.2.1 bM.lt ⟨l1,xs,wN,oK,bw,hr, .inr ⟨g0,_,rfl,bf,rfl,fun b hb o=>(jN b hb o).trans (by rw[lR];rfl)⟩⟩ eC hK
        ·cases h
       ·cases h
      ·cases h
     ·cases h
    ·cases h
   ·cases h
  ·cases h
 ·cases h
theorem gh.apL{base:Nat}{g:Tag}{e:E}{T:TypeId}{t:Ty}(h:gh C w base G g e T t)(fo:0<t.cells.length){S':aO}(hS0: ∀b o,G.S b o→S' b o)(TJ: ∀b o,(G.τ g).ownBlock=some b→S' b o):bj w S' (G.τ g) (den C.ρ e):=by
 obtain⟨xs,l,hd,bw,hS,hr⟩:=h.own
 rw[hd]
 obtain⟨hl,hh⟩:=bw
 rcases hh with⟨hv,hn⟩|⟨b,cap,cur,hv,hb,hg,yL,H9,gS,tp⟩
 ·have:l=[] :=List.eq_nil_of_length_eq_zero hn
  subst this
  rw[hv];exact .nil none 0
 ·have eS:=h.has
  rw[hd]at eS
  obtain⟨l',ks,_,hx⟩:=aD.1 eS
  injection ks with ks;subst ks
  by_cases dH:l=[]
  ·subst dH;rw[hv];exact .nil _ cap
  ·rw[hv]
   refine .list b 0 cap t.cells.length xs l fo dH yL hl (fun i hi=> ?_) (fun i v hi=> ?_) (fun i d gZ=> ?_) (fun i d j v c h1 h2 h3=>(hr i d j v c h1 h2 h3).keep hS0 (fun _ _ _=>rfl))
   ·exact TJ b _ (by rw[hv];rfl)
   ·rw[Nat.zero_add,cell_of_row w b i cur T (0,0) hg]
    rw[←tp,List.getElem?_take]at hi
    split at hi
    ·simpa using hi
    ·cases hi
   ·exact(bp (hx d (aS gZ))).1
def qN(G:Gh)(σ:St):aO:=fun b o=>G.S b o∨ ∃g x,σ.live g=some x∧(G.τ g).ownBlock=some b
theorem BD(hm:cJ w0 S0 C G σ w){c:SC}{e:E}{t:Ty}{l:List (Tag×Option (E×TypeId×Ty))}{v:Value}(h:l3 σ c=some ((e,t),l))(hr:pX C w G c v):
  (e.lt C.N=true∧bj w (qN G σ) v (den C.ρ e)∧Has t (den C.ρ e))∧ ∀y∈l,σ.live y.1=y.2∧y.2.isSome=true:=by
 have plain:(asData c).map (fun x=>(x,([] :List (Tag×Option (E×TypeId×Ty)))))=some ((e,t),l)→(e.lt C.N=true∧bj w (qN G σ) v (den C.ρ e)∧Has t (den C.ρ e))∧ ∀y∈l,σ.live y.1=y.2∧y.2.isSome=true:=by
  intro h
  simp only[br,Prod.mk.injEq]at h
  obtain⟨x,hx,rfl,rfl⟩:=h
  obtain⟨h1,h2,h3⟩:=jw hx hr
  exact⟨⟨h1,h2.keep (fun _ _ h=> .inl h) (fun _ _ _=>rfl),h3⟩,by simp⟩
 cases c with
 |xo g t'=>
  simp only[l3]at h
  split at h
  ·rename_i e' T B6
   injection h with h;simp only[Prod.mk.injEq]at h;obtain⟨⟨rfl,rfl⟩,rfl⟩:=h
   obtain⟨hl,_,ev⟩:=oT B6
   have bM:=hm.own _ _ _ _ hl
   refine⟨⟨bM.lt,?_,bM.has⟩,?_⟩
   ·rw[hr.2.1]
    exact bM.apL ev (fun _ _ h=> .inl h) (fun b o hb=> .inr ⟨g,_,hl,hb⟩)
   ·intro y hy
    simp only[List.mem_singleton]at hy;subst hy
    exact⟨hl,rfl⟩
  ·cases h
 |_=>exact plain h
theorem yB(hm:cJ w0 S0 C G σ w): ∀{cl:List SC} {es:List E} {ts:List Ty} {l:List (Tag×Option (E×TypeId×Ty))} {vs:List Value},iu σ cl=some ((es,ts),l)→iD C w G cl vs→
  ((E.bQ es).lt C.N=true∧es.length=vs.length∧(∀(i:Nat) v e,vs[i]? =some v→es[i]? =some e→bj w (qN G σ) v (den C.ρ e))∧bV (.bQ ts) (es.map (den C.ρ)))∧ ∀y∈l,σ.live y.1=y.2∧y.2.isSome=true
 | [],es,ts,l,vs,h,hr=>by
  simp only[iu,Option.some.injEq,Prod.mk.injEq]at h
  obtain⟨⟨rfl,rfl⟩,rfl⟩:=h
  have hv:vs=[] :=List.eq_nil_of_length_eq_zero hr.1
  subst hv
  exact⟨⟨rfl,rfl,by intro i v e hi;simp at hi,bE.2 rfl⟩,by simp⟩
 |c::cl,es,ts,l,vs,h,hr=>by
  simp only[iu]at h
  split at h
  ·rename_i e t l1 tg Tj ls h1 h2
   injection h with h;simp only[Prod.mk.injEq]at h;obtain⟨⟨rfl,rfl⟩,rfl⟩:=h
   cases vs with
   |nil=>have:=hr.1;simp at this
   |cons v vs=>
    have FO:iD C w G cl vs:=⟨by simpa using hr.1,fun i c v hi hv=>hr.2 (i+1) c v (by simpa using hi) (by simpa using hv)⟩
    obtain⟨⟨k1,k2,k4,k5⟩,k6⟩:=yB hm h2 FO
    obtain⟨⟨m1,m2,m3⟩,m6⟩:=BD hm h1 (hr.2 0 c v rfl rfl)
    refine⟨⟨by simp[E.bQ,E.lt,m1,k1],by simp[k2],?_,aa.2 ⟨_,_,rfl,m3,k5⟩⟩,fun y hy=> ?_⟩
    ·intro i u e' hi he
     cases i with
     |zero=>simp at hi he;subst hi;subst he;exact m2
     |succ i=>exact k4 i u e' (by simpa using hi) (by simpa using he)
    ·rcases List.mem_append.1 hy with hy|hy
     ·exact m6 y hy
     ·exact k6 y hy
  ·cases h
theorem HU(hm:cJ w0 S0 C G σ w){s:SV}{e:E}{t:Ty}{l:List (Tag×Option (E×TypeId×Ty))}{v:Value}(h:ly σ s=some ((e,t),l))(hr:wQ C w G s v):
  (e.lt C.N=true∧bj w (qN G σ) v (den C.ρ e)∧Has t (den C.ρ e))∧ ∀y∈l,σ.live y.1=y.2∧y.2.isSome=true:=by
 cases s with
 |one c=>exact BD hm h hr
 |agg cl=>
  simp only[ly]at h
  split at h
  ·rename_i es ts ls h1
   injection h with h;simp only[Prod.mk.injEq]at h;obtain⟨⟨rfl,rfl⟩,rfl⟩:=h
   obtain⟨vs,rfl,hs⟩:=hr
   obtain⟨⟨k1,k2,k4,k5⟩,k6⟩:=yB hm h1 hs
   refine⟨⟨by simpa [E.lt]using k1,?_,?_⟩,k6⟩
   ·simp only[den,dG,U.den,D.ak]
    refine .agg vs _ (by simp[k2]) fun i v d hi hd=> ?_
    simp only[List.getElem?_map,br]at hd
    obtain⟨e,he,rfl⟩:=hd
    exact k4 i v e hi he
   ·simp only[den,dG,U.den,D.ak]
    exact cu.2 ⟨_,rfl,k5⟩
  ·cases h
 |cW l=>cases h
theorem Bg(hm:cJ w0 S0 C G σ w)(ht:fI C w G σ.tm a){pc:bI}(bY:aq C.ρ pc=true): ∀{xs:List Operand} {oc:List TypeId} {es:List (E×Ty)} {l:List (Tag×Option (E×TypeId×Ty))},p8 P σ pc xs oc=some (es,l)→
  (es.length=xs.length∧ ∀(i:Nat) x e,xs[i]? =some x→es[i]? =some e→e.1.lt C.N=true∧bj w (qN G σ) (a.eval x) (den C.ρ e.1)∧Has e.2 (den C.ρ e.1))∧ ∀y∈l,σ.live y.1=y.2∧y.2.isSome=true
 | [],[],es,l,h=>by
  simp only[p8,Option.some.injEq,Prod.mk.injEq]at h
  obtain⟨rfl,rfl⟩:=h
  exact⟨⟨rfl,by intro i x e hi;simp at hi⟩,by simp⟩
 |x::xs,t::ts,es,l,h=>by
  simp only[p8]at h
  split at h
  ·rename_i e l1 tg ls h1 h2
   injection h with h;simp only[Prod.mk.injEq]at h;obtain⟨rfl,rfl⟩:=h
   obtain⟨⟨k1,k2⟩,k3⟩:=Bg hm ht bY h2
   rw[Option.bind_eq_some_iff]at h1
   obtain⟨sv,F0,h1⟩:=h1
   obtain⟨m1,m2⟩:=HU hm (e:=e.1) (t:=e.2) h1 (bg ht bY F0)
   refine⟨⟨by simp[k1],fun i x' e' hi he=> ?_⟩,fun y hy=> ?_⟩
   ·cases i with
    |zero=>simp at hi he;subst hi;subst he;exact m1
    |succ i=>exact k2 i x' e' (by simpa using hi) (by simpa using he)
   ·rcases List.mem_append.1 hy with hy|hy
    ·exact m2 y hy
    ·exact k3 y hy
  ·cases h
 | [],_::_,_,_,h=>by cases h
 |_::_,[],_,_,h=>by cases h
theorem bj.bare{S S':aO}{v:Value}{d:D}{t:Ty}(h:bj w S v d)(ht:Has t d)(hb:t.bare=true):bj w S' v d:=by
 cases t<;>first|(cases hb;done)|skip
 ·obtain⟨n,rfl,_⟩:=bF.1 ht;rw[h.bD];exact .int _ _
 ·obtain⟨n,rfl⟩:=bA.1 ht;rw[h.eH];exact .bool _
 ·obtain⟨n,rfl⟩:=kP.1 ht;rw[h.EW];exact .str _
theorem im.bare{w':World}{S S':aO}{τ:Nat→Value}{c:aA}{v:Value}{d:D}(h:im w' 0 S τ c v d)(hb:c.bare=true)(hS: ∀j T,c.2=some (j,T)→ ∀b,(τ j).ownBlock=some b→ ∀o,S' b o↔S b o):im w' 0 S' τ c v d:=by
 obtain⟨t,_|⟨j,T⟩⟩:=c
 ·exact⟨h.1.bare h.2 hb,h.2⟩
 ·obtain⟨rfl,⟨h1,h2,xs,l,h3,h4,h5,h6⟩⟩:=h
  refine⟨rfl,h1,h2,xs,l,h3,h4,fun b OO o=>(hS j T rfl b OO o).trans (h5 b OO o),fun i d j' v c hi hj hv=> ?_⟩
  rw[h3]at h1
  obtain⟨l',ks,_,eI⟩:=aD.1 h1
  injection ks with ks;subst ks
  obtain⟨q1,q2⟩:=bp (eI d (aS hi))
  have jh:j'<t.cells.length:=by rw[←q1];exact(ai.1 hj).1
  obtain⟨c',xR,m8⟩:=q2 j' _ (av jh)
  rw[hj]at xR;injection xR with xR;subst xR
  exact(h6 i d j' v c hi hj hv).bare m8 (aV.1 hb _ (List.getElem_mem jh))
theorem eN.bare{w':World}{S S':aO}{τ:Nat→Value}{res:List (Bool×List aA)}{v:Value}{d:D}(h:eN w' 0 S τ res v d)(hb:(res.all fun c=>c.2.all aA.bare)=true)
  (hS: ∀j b,j∈bk res→(τ j).ownBlock=some b→ ∀o,S' b o↔S b o):eN w' 0 S' τ res v d:=by
 have qE: ∀c∈res,∀y∈c.2,∀j T,y.2=some (j,T)→j∈bk res:=by
  intro c hc y hy j T hj
  unfold bk
  exact List.mem_flatMap.2 ⟨c,hc,List.mem_filterMap.2 ⟨y,hy,by rw[hj];rfl⟩⟩
 have comp: ∀c∈res,∀v d,ep w' 0 S τ c v d→ep w' 0 S' τ c v d:=by
  intro c hc v d h
  have hbc:=aV.1 hb c hc
  unfold ep at h⊢
  split
  ·rename_i qf
   rw[if_pos qf]at h
   obtain⟨vs,ds,h1,h2,h3,h4,h5⟩:=h
   refine⟨vs,ds,h1,h2,h3,h4,fun i x u y hx hu hy=> ?_⟩
   have H3:=aS hx
   exact(h5 i x u y hx hu hy).bare (aV.1 hbc x H3) (fun j T hj b fu o=>hS j b (qE c hc x H3 j T hj) fu o)
  ·rename_i qf
   rw[if_neg qf]at h
   obtain⟨x,hx,h5⟩:=h
   have H3:x∈c.2:=by rw[hx];simp
   exact⟨x,hx,h5.bare (aV.1 hbc x H3) (fun j T hj b fu o=>hS j b (qE c hc x H3 j T hj) fu o)⟩
 rcases h with⟨c,rfl,h⟩|⟨dH,vs,ds,h1,h2,h3,h4,h5⟩
 ·exact .inl ⟨c,rfl,comp c (by simp) v d h⟩
 ·exact .inr ⟨dH,vs,ds,h1,h2,h3,h4,fun i x u y hx hu hy=>comp x (aS hx) u y (h5 i x u y hx hu hy)⟩
theorem Dj{α β:Type}[DecidableEq α] : ∀(l r:List (α×β)) (x:α),lk (l++r) x=match lk l x with|some v=>some v|none=>lk r x
 | [],r,x=>rfl
 |(k,v)::l,r,x=>by
  simp only[List.cons_append,lk]
  split
  ·rfl
  ·exact Dj l r x
theorem Bl{l r:List (Tag×Option (E×TypeId×Ty))}(hl: ∀y∈l,σ.live y.1=y.2)(hp: ∀y∈l,∀z∈r,y.1≠z.1):cG σ.live (l++r)=cG σ.live r:=by
 funext g
 unfold cG
 rw[Dj]
 cases h:lk l g with
 |none=>rfl
 |some v=>
  have hm:=fF h
  have hn:lk r g=none:=by
   cases hr:lk r g with
   |none=>rfl
   |some u=>exact absurd (show((g,v):Tag×Option (E×TypeId×Ty)).1=((g,u):Tag×Option (E×TypeId×Ty)).1 from rfl) (hp (g,v) hm (g,u) (fF hr))
  rw[hn]
  exact(hl _ hm).symm
theorem Cy{ops:Array Oper}{e:fD}(hs:er n w0 S0 C G σ a w)(hp: ¬C.M p)(uF:p<C.N)(hg:guardOf ops σ o=some [])(h:KS P cs σ p o=some e)
  (fb: ∀k sig,lk cs.l k=some sig→ax P k sig (Pre k) (Φ k)) (eC: ∀it∈e.items,ct C Φ Pre it) (aL:e.uz.2.lt C.N=true) (cp: ∀d,o.dst=some d→d<n) (nK: ¬S0.fr) (jg: ¬S0.wz):
  c9 P n w0 S0 C (e.app σ) p ops a w o:=by
 unfold KS at h
 split at h
 ·rename_i f args argTypes ho
  split at h
  ·rename_i fe k es l hf pe
   split at h
   ·rename_i sig lV
    split at h
    ·rename_i iT
     obtain⟨dw,fV,qq,EB,GB⟩:=iT
     injection h with h;subst h
     intro K Q hK
     obtain⟨hw,hc⟩:=dr hs.t hg
     rw[hw,if_pos (show aq C.ρ [] =true from rfl)]
     obtain⟨f1,f2,f3⟩:=bg hs.t (pc:=[]) rfl hf
     obtain⟨fl,sZ,KK⟩:=jl.1 f3
     have D8:=bE.1 KK
     subst D8
     obtain⟨Ia,Mf,qM,Td⟩:=(sZ▸f2).tW
     have D9:Ia=[] :=List.eq_nil_of_length_eq_zero (by simpa using qM)
     subst D9
     obtain⟨⟨k1,k2⟩,hmarks⟩:=Bg hs.m hs.t (pc:=[]) rfl pe
     have eR:=fb _ _ lV
     have dC:(den C.ρ (.bQ (es.map (·.1)))).ak=es.map fun x=>den C.ρ x.1:=by rw[dG];simp[D.ak]
     have cM:(execOp a.eval o).run P w= .ok (.enter k (args.toList.map a.eval).toArray) w:=by
      have e1:(args.toList.map a.eval).toArray=args.map a.eval:=by apply Array.ext';simp
      unfold execOp;simp only[ho,resolve,Mf,Deferred.ofValue,e1]
      have:=eR.enter (args.map a.eval) w
      simpa [invoke]using this
     unfold Oper.wp
     rw[cM]
     have jN: ∀b o,qN G σ b o→b<w.heap.size:=by
      rintro b o (h|⟨g,x,hl,hb⟩)
      ·exact hs.m.bL b o h
      ·exact((hs.m.own g x.1 x.2.1 x.2.2 hl).dW b hb).2
     have mS: ∀(i:Nat) v d,(args.toList.map a.eval)[i]? =some v→(es.map fun x=>den C.ρ x.1)[i]? =some d→bj w (qN G σ) v d:=by
      intro i v d hv hd
      simp only[List.getElem?_map,br]at hv hd
      obtain⟨x,hx,rfl⟩:=hv
      obtain⟨y,hy,rfl⟩:=hd
      exact(k2 i x y hx hy).2.1
     have eS:bV (.bQ sig.params) (es.map fun x=>den C.ρ x.1):=by
      rw[←fV]
      refine fK (by simp) fun j u x hj hx=> ?_
      simp only[List.getElem?_map,br]at hj hx
      obtain⟨y,hy,rfl⟩:=hj
      obtain⟨y',kU,rfl⟩:=hx
      rw[hy]at kU;injection kU with kU;subst kU
      have jh:j<args.toList.length:=by rw[←k1];exact(ai.1 hy).1
      exact(k2 j _ y (av jh) hy).2.2
     obtain⟨_,_,sW,gE⟩:=eC _ (List.mem_singleton.2 rfl)
     have iV:=gE rfl
     rw[dC]at sW iV
     refine(eR.calls (by simpa using dw) w (qN G σ) _ _ jN (by simp[k1]) mS eS iV).mono ?_
     rintro e' w' ⟨v,S',τ',rfl,iM,hS,yW,GC,cw,Ae,Cp,_⟩
     simp only
     rw[←sW]at cw
     let S1:aO:=fun b o=>G.S b o∨(S' b o∧w.heap.size≤b)
     let G':Gh:={S:=S1,β:=G.β,τ:=fun g=>if g.1=p then τ' g.2 else G.τ g}
     have eJ: ∀j,G'.τ (p,j)=τ' j:=fun j=>if_pos rfl
     have hM:(C.add p).M p:= .inr rfl
     have nk:eN w' 0 G'.S τ' sig.res v ((C.add p).ρ p):=eN.bare cw GB fun j b hj hb o=>by
      have lR:=Ae j b hj hb
      constructor
      ·rintro(h|h)
       ·have:=hs.m.bL b o h;omega
       ·exact h.1
      ·intro h;exact .inr ⟨h,lR⟩
     have bf:=ub (C:=C.add p) (G:=G') nk hM uF eJ
     have aqp:cG σ.live (l++eF p sig.res)=cG σ.live (eF p sig.res):=Bl (fun y hy=>(hmarks y hy).1) (fun y hy z hz he=>by
      obtain⟨h1,h2⟩:=hmarks y hy
      cases wM:y.2 with
      |none=>rw[wM]at h2;cases h2
      |some x=>rw[wM]at h1;exact da hs.m hp h1 (by rw[he];exact(bf z hz).1))
     obtain⟨aU,hm⟩:=hs.m.called hp (τ':=τ') iM (fun b o h=> .inl h) (S':=S1)
      (by
       rintro b o (h|h)
       ·have:=hs.m.bL b o h
        have:=iM.size
        omega
       ·exact yW b o h.1)
      (by
       rintro b o (h|h)
       ·exact .inl h
       ·exact .inr h.2) (cG σ.live (eF p sig.res)) G' rfl
      (by
       intro g x hx
       unfold cG at hx
       split at hx
       ·rename_i y hy
        obtain⟨q1,q2,e1,T1,t1,q3,q4⟩:=bf _ (fF hy)
        simp only at q1 q3 q4
        rw[q3]at hx;injection hx with hx;subst hx
        refine .inr ⟨q1,q4.I8 (fun b hb=>Ae g.2 b q2 ?_)⟩
        have e:G'.τ g=τ' g.2:=if_pos q1
        rw[←e];exact hb
       ·exact .inl ⟨da hs.m hp hx,hx⟩)
      (by
       intro j1 j2 x y b hx hy tH tG
       have key: ∀j x,cG σ.live (eF p sig.res) (p,j)=some x→j∈bk sig.res:=by
        intro j x hx
        unfold cG at hx
        split at hx
        ·rename_i y hy
         exact(bf _ (fF hy)).2.1
        ·exact absurd rfl (da hs.m hp hx)
       exact Cp j1 j2 b (key j1 x hx) (key j2 y hy) tH tG) (fun iQ=>absurd iQ nK) jg
     exact hK _ _ _ (hs.step (o:=o) (e:=⟨o.dst,([],ke true p sig.res),[],l++eF p sig.res,[],[.call p k (.bQ (es.map (·.1))) []]⟩) aU (hm.congr (bK _) aqp) rfl aL hc
      (by intro _;simp only[aq,List.all_nil,if_true];exact vE (C:=C.add p) (G:=G') nk hM uF eJ _) cp)
    ·cases h
   ·cases h
  ·cases h
 ·cases h
theorem tB{c:SC}{x:E×Ty}{l:List (Tag×Option (E×TypeId×Ty))}(h:l3 σ c=some (x,l)): ∀y∈l,σ.live y.1=y.2:=by
 unfold l3 at h
 split at h
 ·split at h
  ·rename_i e T hl
   injection h with h;simp only[Prod.mk.injEq]at h;obtain⟨_,rfl⟩:=h
   unfold p5 at hl
   split at hl
   ·rename_i e' T' t' ks
    split at hl
    ·rename_i hc
     injection hl with hl;simp only[Prod.mk.injEq]at hl;obtain⟨rfl,rfl⟩:=hl
     intro y hy
     rw[List.mem_singleton]at hy;subst hy
     rw[ks,hc.1]
    ·cases hl
   ·cases hl
  ·cases h
 ·rw[br]at h
  obtain⟨_,_,h⟩:=h
  simp only[Prod.mk.injEq]at h;obtain⟨_,rfl⟩:=h
  simp
theorem rE: ∀{cs:List SC} {x:List E×List Ty} {l:List (Tag×Option (E×TypeId×Ty))},iu σ cs=some (x,l)→ ∀y∈l,σ.live y.1=y.2
 | [],x,l,h=>by simp only[iu,Option.some.injEq,Prod.mk.injEq]at h;obtain⟨_,rfl⟩:=h;simp
 |c::r,x,l,h=>by
  simp only[iu]at h
  split at h
  ·rename_i e t l1 es ts ls h1 h2
   injection h with h;simp only[Prod.mk.injEq]at h;obtain⟨_,rfl⟩:=h
   intro y hy
   rcases List.mem_append.1 hy with hy|hy
   ·exact tB h1 y hy
   ·exact rE h2 y hy
  ·cases h
theorem BQ{s:SV}{x:E×Ty}{l:List (Tag×Option (E×TypeId×Ty))}(h:ly σ s=some (x,l)): ∀y∈l,σ.live y.1=y.2:=by
 cases s with
 |one c=>exact tB h
 |agg cl=>
  simp only[ly]at h
  split at h
  ·rename_i es ts ls h1
   injection h with h;simp only[Prod.mk.injEq]at h;obtain⟨_,rfl⟩:=h
   exact rE h1
  ·cases h
 |cW l=>cases h
theorem yC{pc:bI}: ∀{xs:List Operand} {oc:List TypeId} {es:List (E×Ty)} {l:List (Tag×Option (E×TypeId×Ty))},p8 P σ pc xs oc=some (es,l)→ ∀y∈l,σ.live y.1=y.2
 | [],[],es,l,h=>by simp only[p8,Option.some.injEq,Prod.mk.injEq]at h;obtain⟨_,rfl⟩:=h;simp
 |x::xs,t::ts,es,l,h=>by
  simp only[p8]at h
  split at h
  ·rename_i e l1 tg ls h1 h2
   injection h with h;simp only[Prod.mk.injEq]at h;obtain⟨_,rfl⟩:=h
   rw[Option.bind_eq_some_iff]at h1
   obtain⟨sv,_,h1⟩:=h1
   intro y hy
   rcases List.mem_append.1 hy with hy|hy
   ·exact BQ h1 y hy
   ·exact yC h2 y hy
  ·cases h
 | [],_::_,_,_,h=>by cases h
 |_::_,[],_,_,h=>by cases h
theorem BJ{ops:Array Oper}{pc:bI}{e:fD}(hs:er n w0 S0 C G σ a w)(hp: ¬C.M p)(uF:p<C.N)(hg:guardOf ops σ o=some pc)(h:xa P cs σ pc p o=some e)
  (fb: ∀k sig,lk cs.l k=some sig→ax P k sig (Pre k) (Φ k)) (eC: ∀it∈e.items,ct C Φ Pre it) (aL:e.uz.2.lt C.N=true) (cp: ∀d,o.dst=some d→d<n) (nK: ¬S0.fr) (jg: ¬S0.wz):
  c9 P n w0 S0 C (e.app σ) p ops a w o:=by
 unfold xa at h
 split at h
 ·rename_i f args argTypes ho
  split at h
  ·rename_i fe k es l hf pe
   split at h
   ·rename_i sig lV
    split at h
    ·rename_i iT
     obtain⟨dw,fV,qq,hnx,EB,GB⟩:=iT
     injection h with h;subst h
     have hmk:cG σ.live l=σ.live:=by
      have:=Bl (σ:=σ) (l:=l) (r:=[]) (yC pe) (fun _ _ _ hz=>by simp at hz)
      rw[List.append_nil]at this
      rw[this];exact bK _
     intro K Q hK
     obtain⟨hw,hc⟩:=dr hs.t hg
     rw[hw]
     cases bY:aq C.ρ pc with
     |false=>
      simp only[Bool.false_eq_true,if_false]
      exact hK _ _ _ (hs.step (o:=o) (e:=⟨o.dst,(pc,ke false p sig.res),[],l,[],[.call p k (.bQ (es.map (·.1))) pc]⟩) (bO.mF C w G p) ((hs.m.mF p).congr (bK _) hmk) rfl aL hc
       (by intro _;simp only[bY,Bool.false_eq_true,if_false]) cp)
     |true=>
      simp only[if_true]
      obtain⟨f1,f2,f3⟩:=bg hs.t (pc:=[]) rfl hf
      obtain⟨fl,sZ,KK⟩:=jl.1 f3
      have D8:=bE.1 KK
      subst D8
      obtain⟨Ia,Mf,qM,Td⟩:=(sZ▸f2).tW
      have D9:Ia=[] :=List.eq_nil_of_length_eq_zero (by simpa using qM)
      subst D9
      obtain⟨⟨k1,k2⟩,_⟩:=Bg hs.m hs.t bY pe
      have eR:=fb _ _ lV
      have dC:(den C.ρ (.bQ (es.map (·.1)))).ak=es.map fun x=>den C.ρ x.1:=by rw[dG];simp[D.ak]
      have cM:(execOp a.eval o).run P w= .ok (.enter k (args.toList.map a.eval).toArray) w:=by
       have e1:(args.toList.map a.eval).toArray=args.map a.eval:=by apply Array.ext';simp
       unfold execOp;simp only[ho,resolve,Mf,Deferred.ofValue,e1]
       have:=eR.enter (args.map a.eval) w
       simpa [invoke]using this
      unfold Oper.wp
      rw[cM]
      have jN: ∀b o,qN G σ b o→b<w.heap.size:=by
       rintro b o (h|⟨g,x,hl,hb⟩)
       ·exact hs.m.bL b o h
       ·exact((hs.m.own g x.1 x.2.1 x.2.2 hl).dW b hb).2
      have mS: ∀(i:Nat) v d,(args.toList.map a.eval)[i]? =some v→(es.map fun x=>den C.ρ x.1)[i]? =some d→bj w (qN G σ) v d:=by
       intro i v d hv hd
       simp only[List.getElem?_map,br]at hv hd
       obtain⟨x,hx,rfl⟩:=hv
       obtain⟨y,hy,rfl⟩:=hd
       exact(k2 i x y hx hy).2.1
      have eS:bV (.bQ sig.params) (es.map fun x=>den C.ρ x.1):=by
       rw[←fV]
       refine fK (by simp) fun j u x hj hx=> ?_
       simp only[List.getElem?_map,br]at hj hx
       obtain⟨y,hy,rfl⟩:=hj
       obtain⟨y',kU,rfl⟩:=hx
       rw[hy]at kU;injection kU with kU;subst kU
       have jh:j<args.toList.length:=by rw[←k1];exact(ai.1 hy).1
       exact(k2 j _ y (av jh) hy).2.2
      obtain⟨_,_,sW,gE⟩:=eC _ (List.mem_singleton.2 rfl)
      have iV:=gE bY
      rw[dC]at sW iV
      refine(eR.calls (by simpa using dw) w (qN G σ) _ _ jN (by simp[k1]) mS eS iV).mono ?_
      rintro e' w' ⟨v,S',τ',rfl,iM,hS,yW,GC,cw,Ae,Cp,_⟩
      simp only
      rw[←sW]at cw
      let G':Gh:={S:=G.S,β:=G.β,τ:=fun g=>if g.1=p then τ' g.2 else G.τ g}
      have eJ: ∀j,G'.τ (p,j)=τ' j:=fun j=>if_pos rfl
      have hM:(C.add p).M p:= .inr rfl
      have nk:eN w' 0 G'.S τ' sig.res v ((C.add p).ρ p):=eN.bare cw GB fun j b hj=>by rw[qq]at hj;simp at hj
      obtain⟨aU,hm⟩:=hs.m.called hp (τ':=τ') iM (fun b o h=>h) (S':=G.S)
       (fun b o h=>Nat.lt_of_lt_of_le (hs.m.bL b o h) iM.size) (fun b o h=> .inl h) σ.live G' rfl
       (fun g x hx=> .inl ⟨da hs.m hp hx,hx⟩)
       (fun j1 j2 x y b hx _ _ _=>absurd rfl (da hs.m hp hx)) (fun iQ=>absurd iQ nK) jg
      exact hK _ _ _ (hs.step (o:=o) (e:=⟨o.dst,(pc,ke false p sig.res),[],l,[],[.call p k (.bQ (es.map (·.1))) pc]⟩) aU (hm.congr (bK _) hmk) rfl aL hc
       (by intro _;simp only[bY,if_true];exact vE (C:=C.add p) (G:=G') nk hM uF eJ _ (.inr hnx)) cp)
    ·cases h
   ·cases h
  ·cases h
 ·cases h
end
section
variable{P:Program}{C:Cx}{w w0:World}{S0:ew}{G:Gh}{σ:St}{a:Act}{o:Oper}{pc:bI}{s:SV}{is:List Item}{Φ:Nat→List D→D}{Pre:Nat→List D→Prop}{n p:Nat}{cs:lD}
def yd(G:Gh)(ids:List Nat)(b o:Nat):Prop:=G.S b o∨ ∃id∈ids,b=G.β id
theorem Hb(hm:cJ w0 S0 C G σ w){id:Nat}{ro:Bool}{cs:List SC}(cU:σ.hp id=some (ro,cs))(BW:mapOf cs=none){ds:List D}(hl:ds.length=cs.length){ids:List Nat}(hi:id∈ids)
  (h: ∀(i:Nat) c v d,cs[i]? =some c→pX C w G c v→ds[i]? =some d→bj w (yd G ids) v d):bj w (yd G ids) (.pointer (some ⟨G.β id,0,none⟩)) (.ptr ds):=by
 obtain⟨_,_,dq,_⟩:=hm.box _ _ _ cU
 obtain⟨vs,T,b3,b4⟩:=dq.cells BW
 refine .ptr (G.β id) vs ds (by rw[hl];exact b4.1) (fun i _=> .inr ⟨id,hi,rfl⟩) (fun i v hv=> ?_) (fun i v d hv hd=> ?_)
 ·rw[cell_of_row w _ i _ T (0,0) b3];simpa using hv
 ·have eX:i<cs.length:=by rw[←hl];exact(ai.1 hd).1
  exact h i _ v d (av eX) (b4.2 i _ v (av eX) hv) hd
theorem yA: ∀{cs:List SC} {es:List E} {ts:List Ty},eQ cs=some (es,ts)→es.length=cs.length∧ts.length=cs.length∧ ∀(i:Nat) c,cs[i]? =some c→ ∃e t,es[i]? =some e∧ts[i]? =some t∧asData c=some (e,t)
 | [],es,ts,h=>by simp only[eQ,Option.some.injEq,Prod.mk.injEq]at h;obtain⟨rfl,rfl⟩:=h;exact⟨rfl,rfl,by intro i c hi;simp at hi⟩
 |c::r,es,ts,h=>by
  simp only[eQ]at h
  split at h
  ·rename_i e t tg Tj h1 h2
   injection h with h;simp only[Prod.mk.injEq]at h;obtain⟨rfl,rfl⟩:=h
   obtain⟨q1,q2,q3⟩:=yA h2
   refine⟨by simp[q1],by simp[q2],fun i c' hi=> ?_⟩
   cases i with
   |zero=>simp at hi;subst hi;exact⟨e,t,rfl,rfl,h1⟩
   |succ i=>
    obtain⟨e',t',k1,k2,k3⟩:=q3 i c' (by simpa using hi)
    exact⟨e',t',by simpa using k1,by simpa using k2,k3⟩
  ·cases h
theorem Dl(hm:cJ w0 S0 C G σ w): ∀{cs:List SC} {es:List E} {ts:List Ty} {ids:List Nat},tl σ cs=some (es,ts,ids)→es.length=cs.length∧ts.length=cs.length∧(∀id∈ids,∃x,σ.hp id=some x)∧
  ∀(i:Nat) c,cs[i]? =some c→ ∃e t,es[i]? =some e∧ts[i]? =some t∧(∀v,pX C w G c v→ ∀qh,(∀j∈ids,j∈qh)→bj w (yd G qh) v (den C.ρ e)∧Has t (den C.ρ e))
 | [],es,ts,ids,h=>by simp only[tl,Option.some.injEq,Prod.mk.injEq]at h;obtain⟨rfl,rfl,rfl⟩:=h;exact⟨rfl,rfl,by simp,by intro i c hi;simp at hi⟩
 |c::r,es,ts,ids,h=>by
  simp only[tl]at h
  split at h
  ·rename_i tg Tj qh h1
   obtain⟨q1,q2,q3,q4⟩:=Dl hm h1
   split at h
   ·rename_i e t hd
    injection h with h;simp only[Prod.mk.injEq]at h;obtain⟨rfl,rfl,rfl⟩:=h
    refine⟨by simp[q1],by simp[q2],q3,fun i c' hi=> ?_⟩
    cases i with
    |zero=>
     simp at hi;subst hi
     refine⟨e,t,rfl,rfl,fun v hv qh _=> ?_⟩
     obtain⟨_,k2,k3⟩:=jw hd hv
     exact⟨k2.keep (fun _ _ h=> .inl h) (fun _ _ _=>rfl),k3⟩
    |succ i=>
     obtain⟨e',t',k1,k2,k3⟩:=q4 i c' (by simpa using hi)
     exact⟨e',t',by simpa using k1,by simpa using k2,k3⟩
   ·split at h
    ·rename_i id _
     split at h
     ·rename_i ro Zo cU
      split at h
      ·rename_i ds us oa
       injection h with h;simp only[Prod.mk.injEq]at h;obtain⟨rfl,rfl,rfl⟩:=h
       refine⟨by simp[q1],by simp[q2],fun j hj=> ?_,fun i c' hi=> ?_⟩
       ·rcases List.mem_cons.1 hj with rfl|hj
        ·exact⟨_,cU⟩
        ·exact q3 j hj
       ·cases i with
        |zero=>
         simp at hi;subst hi
         obtain⟨r1,r2,r3⟩:=yA oa
         refine⟨_,_,rfl,rfl,fun v hv Gg gG=> ?_⟩
         obtain⟨_,rfl⟩:=hv
         have dC:den C.ρ (.un .pj (.bQ ds))= .ptr (ds.map (den C.ρ)):=by simp only[den,U.den,dG,D.ak]
         rw[dC]
         refine⟨Hb hm cU (fS oa) (by simp[r1]) (gG id (by simp)) (fun i c v d hc hv hd=> ?_),fA.2 ⟨_,rfl,fK (by simp[r1,r2]) (fun j u x hj hx=> ?_)⟩⟩
         ·obtain⟨e,t,k1,_,k3⟩:=r3 i c hc
          simp only[List.getElem?_map,k1,Option.map_some,Option.some.injEq]at hd
          subst hd
          exact(jw k3 hv).2.1.keep (fun _ _ h=> .inl h) (fun _ _ _=>rfl)
         ·have jh:j<Zo.length:=by rw[←r2];exact(ai.1 hj).1
          obtain⟨e,t,k1,k2,k3⟩:=r3 j _ (av jh)
          rw[hj]at k2
          injection k2 with k2
          subst k2
          simp only[List.getElem?_map,k1,Option.map_some,Option.some.injEq]at hx
          subst hx
          obtain⟨_,_,dq,_⟩:=hm.box _ _ _ cU
          obtain⟨vs,T,b3,b4⟩:=dq.cells (fS oa)
          have tE:j<vs.length:=by rw[b4.1];exact jh
          exact(jw k3 (b4.2 j _ _ (av jh) (av tE))).2.2
        |succ i=>
         obtain⟨e',t',k1,k2,k3⟩:=q4 i c' (by simpa using hi)
         exact⟨e',t',by simpa using k1,by simpa using k2,fun v hv Gg gG=>k3 v hv Gg (fun j hj=>gG j (by simp[hj]))⟩
      ·cases h
     ·cases h
    ·cases h
  ·cases h
theorem vZ{cs:List SC}{x:List E×List Ty×List Nat}(h:tl σ cs=some x):mapOf cs=none:=by
 unfold mapOf
 split
 ·simp[tl,asData]at h
 ·rfl
theorem VV(hs:er n w0 S0 C G σ a w)(bY:aq C.ρ pc=true){x:Operand}{t:TypeId}{e:E}{ty:Ty}{ids:List Nat}(h:MO P σ pc x t=some (e,ty,ids)):(∀id∈ids,∃z,σ.hp id=some z)∧
  ∀qh,(∀j∈ids,j∈qh)→bj w (yd G qh) (a.eval x) (den C.ρ e)∧Has ty (den C.ρ e):=by
 unfold MO at h
 split at h
 ·rename_i e' ty' hd
  injection h with h;simp only[Prod.mk.injEq]at h;obtain⟨rfl,rfl,rfl⟩:=h
  obtain⟨_,k2,k3⟩:=bT hs.t bY hd
  exact⟨by simp,fun qh _=>⟨k2.keep (fun _ _ h=> .inl h) (fun _ _ _=>rfl),k3⟩⟩
 ·split at h
  ·rename_i id hx
   split at h
   ·rename_i ro Zo cU
    split at h
    ·rename_i es ts Gg hl
     injection h with h;simp only[Prod.mk.injEq]at h;obtain⟨rfl,rfl,rfl⟩:=h
     obtain⟨q1,q2,q3,q4⟩:=Dl hs.m hl
     obtain⟨_,hv⟩:=bg hs.t bY hx
     refine⟨fun j hj=> ?_,fun qh gG=> ?_⟩
     ·rcases List.mem_cons.1 hj with rfl|hj
      ·exact⟨_,cU⟩
      ·exact q3 j hj
     ·have dC:den C.ρ (.un .pj (.bQ es))= .ptr (es.map (den C.ρ)):=by simp only[den,U.den,dG,D.ak]
      rw[dC,hv]
      obtain⟨_,_,dq,_⟩:=hs.m.box _ _ _ cU
      obtain⟨vs,T,b3,b4⟩:=dq.cells (vZ hl)
      refine⟨Hb hs.m cU (vZ hl) (by simp[q1]) (gG id (by simp)) (fun i c v d hc hv hd=> ?_),fA.2 ⟨_,rfl,fK (by simp[q1,q2]) (fun j u y hj hy=> ?_)⟩⟩
      ·obtain⟨e,t,k1,_,k3⟩:=q4 i c hc
       simp only[List.getElem?_map,k1,Option.map_some,Option.some.injEq]at hd
       subst hd
       exact(k3 v hv qh (fun j hj=>gG j (by simp[hj]))).1
      ·have jh:j<Zo.length:=by rw[←q2];exact(ai.1 hj).1
       obtain⟨e,t,k1,k2,k3⟩:=q4 j _ (av jh)
       rw[hj]at k2
       injection k2 with k2
       subst k2
       simp only[List.getElem?_map,k1,Option.map_some,Option.some.injEq]at hy
       subst hy
       have tE:j<vs.length:=by rw[b4.1];exact jh
       exact(k3 _ (b4.2 j _ _ (av jh) (av tE)) Gg (fun _ h=>h)).2
    ·cases h
   ·cases h
  ·cases h
theorem Hq(hs:er n w0 S0 C G σ a w)(bY:aq C.ρ pc=true): ∀{l:List Operand} {ts:List TypeId} {es:List (E×Ty)} {ids:List Nat},yb P σ pc l ts=some (es,ids)→
  es.length=l.length∧(∀id∈ids,∃z,σ.hp id=some z)∧ ∀(i:Nat) x e,l[i]? =some x→es[i]? =some e→ ∀qh,(∀j∈ids,j∈qh)→bj w (yd G qh) (a.eval x) (den C.ρ e.1)∧Has e.2 (den C.ρ e.1)
 | [],[],es,ids,h=>by simp only[yb,Option.some.injEq,Prod.mk.injEq]at h;obtain⟨rfl,rfl⟩:=h;exact⟨rfl,by simp,by intro i x e hi;simp at hi⟩
 |y::l,t::ts,es,ids,h=>by
  simp only[yb]at h
  split at h
  ·rename_i e ty i1 tg qh h1 h2
   injection h with h;simp only[Prod.mk.injEq]at h;obtain⟨rfl,rfl⟩:=h
   obtain⟨p1,p2⟩:=VV hs bY h1
   obtain⟨k1,k2,k3⟩:=Hq hs bY h2
   refine⟨by simp[k1],fun j hj=>(List.mem_append.1 hj).elim (p1 j) (k2 j),fun i x e' hi he Gg gG=> ?_⟩
   cases i with
   |zero=>simp at hi he;subst hi;subst he;exact p2 Gg (fun j hj=>gG j (List.mem_append_left _ hj))
   |succ i=>exact k3 i x e' (by simpa using hi) (by simpa using he) Gg (fun j hj=>gG j (List.mem_append_right _ hj))
  ·cases h
 | [],_::_,_,_,h=>by cases h
 |_::_,[],_,_,h=>by cases h
theorem CB{ops:Array Oper}{k:Nat}{e:E}{sig:bS}{rd:List Nat}(hs:er n w0 S0 C G σ a w)(hp: ¬C.M p)(uF:p<C.N)(hg:guardOf ops σ o=some pc)(h:nw P cs σ pc o=some (k,e,sig,rd))
  (fb: ∀k sig,lk cs.l k=some sig→ax P k sig (Pre k) (Φ k)) (eC:ct C Φ Pre (.call p k e pc)) (aL:(ke pc.isEmpty p sig.res).lt C.N=true) (cp: ∀d,o.dst=some d→d<n) (items:List Item) (nK: ¬S0.fr) (jg: ¬S0.wz):
  c9 P n w0 S0 C ((⟨o.dst,(pc,ke pc.isEmpty p sig.res),[],if pc.isEmpty then eF p sig.res else [],rd,items⟩:fD).app σ) p ops a w o:=by
 intro K Q hK
 obtain⟨hw,hc⟩:=dr hs.t hg
 rw[hw]
 have aaZ:aq C.ρ pc=false→pc.isEmpty=false:=by intro h;cases pc<;>first|rfl|(simp[aq]at h)
 cases bY:aq C.ρ pc with
 |false=>
  simp only[Bool.false_eq_true,if_false]
  have hm:cJ w0 S0 (C.add p) G ((⟨o.dst,(pc,ke pc.isEmpty p sig.res),[],if pc.isEmpty then eF p sig.res else [],rd,items⟩:fD).app σ) w:=
   (hs.m.mF p).congr (bK _) (by simp only[fD.app,aaZ bY,Bool.false_eq_true,if_false];exact bK _)
  exact hK _ _ _ (hs.step (o:=o) (e:=⟨o.dst,(pc,ke pc.isEmpty p sig.res),[],if pc.isEmpty then eF p sig.res else [],rd,items⟩) (bO.mF C w G p) hm rfl aL hc
   (by intro _;simp only[bY,Bool.false_eq_true,if_false]) cp)
 |true=>
 simp only[if_true]
 unfold nw at h
 split at h
 ·rename_i f args argTypes ho
  split at h
  ·rename_i fe k' es ids hf pe
   split at h
   ·rename_i jE lV
    split at h
    ·rename_i iT
     obtain⟨dw,fV,qq,EB,GB,hnx⟩:=iT
     injection h with h;simp only[Prod.mk.injEq]at h;obtain⟨rfl,hE,rfl,rfl⟩:=h
     obtain⟨f1,f2,f3⟩:=bg hs.t (pc:=[]) rfl hf
     obtain⟨fl,sZ,KK⟩:=jl.1 f3
     have D8:fl=[] :=bE.1 KK
     subst D8
     obtain⟨Ia,Mf,qM,_⟩:=(sZ▸f2).tW
     have D9:Ia=[] :=List.eq_nil_of_length_eq_zero qM
     subst D9
     obtain⟨k1,kh,k2⟩:=Hq hs bY pe
     have eR:=fb _ _ lV
     have dC:(den C.ρ e).ak=es.map fun x=>den C.ρ x.1:=by
      rw[←hE,dG]
      simp only[D.ak,List.map_map]
      rfl
     have cM:(execOp a.eval o).run P w= .ok (.enter k' (args.toList.map a.eval).toArray) w:=by
      have e1:(args.toList.map a.eval).toArray=args.map a.eval:=by apply Array.ext';simp
      unfold execOp;simp only[ho,resolve,Mf,Deferred.ofValue,e1]
      have:=eR.enter (args.map a.eval) w
      simpa [invoke]using this
     unfold Oper.wp
     rw[cM]
     have akG: ∀b o,yd G ids b o→b<w.heap.size:=by
      rintro b o (hb|⟨id,cU,rfl⟩)
      ·exact hs.m.bL b o hb
      ·obtain⟨z,hz⟩:=kh id cU
       exact hs.m.jR hz
     have mS: ∀(i:Nat) v d,(args.toList.map a.eval)[i]? =some v→(es.map fun x=>den C.ρ x.1)[i]? =some d→bj w (yd G ids) v d:=by
      intro i v d hv hd
      simp only[List.getElem?_map,br]at hv hd
      obtain⟨x,hx,rfl⟩:=hv
      obtain⟨y,hy,rfl⟩:=hd
      exact(k2 i x y hx hy ids (fun _ h=>h)).1
     have eS:bV (.bQ jE.params) (es.map fun x=>den C.ρ x.1):=by
      rw[←fV]
      refine fK (by simp) fun j u x hj hx=> ?_
      simp only[List.getElem?_map,br]at hj hx
      obtain⟨y,hy,rfl⟩:=hj
      obtain⟨y',kU,rfl⟩:=hx
      rw[hy]at kU;injection kU with kU;subst kU
      have hlen:j<args.toList.length:=by rw[←k1];exact(ai.1 hy).1
      exact(k2 j _ y (av hlen) hy ids (fun _ h=>h)).2
     obtain⟨_,_,sW,gE⟩:=eC
     have iV:=gE bY
     rw[dC]at sW iV
     refine(eR.calls (by simpa using dw) w (yd G ids) _ _ akG (by simp[k1]) mS eS iV).mono ?_
     rintro e' w' ⟨v,S1,Oo,rfl,iM,hS1,akF,arG,Xq,Ay,Qu,_⟩
     simp only
     rw[←sW]at Xq
     obtain⟨S',TJ⟩: ∃S':aO,∀b o,S' b o↔S1 b o∧(G.S b o∨w.heap.size≤b):=⟨fun b o=>S1 b o∧(G.S b o∨w.heap.size≤b),fun _ _=>Iff.rfl⟩
     have Gv:eN w' 0 S' Oo jE.res v (C.ρ p):=Xq.bare GB (fun j b hj hb o=>by
      rw[TJ]
      exact⟨fun h=>h.1,fun h=>⟨h, .inr (Ay j b hj hb)⟩⟩)
     have hS: ∀b o,G.S b o→S' b o:=fun b o h=>(TJ b o).2 ⟨hS1 b o (.inl h), .inl h⟩
     have yW: ∀b o,S' b o→b<w'.heap.size:=fun b o h=>akF b o ((TJ b o).1 h).1
     have GC: ∀b o,S' b o→G.S b o∨w.heap.size≤b:=fun b o h=>((TJ b o).1 h).2
     obtain⟨τ',Mt⟩: ∃τ',τ'=nQ jE.res Oo:=⟨_,rfl⟩
     have gY: ∀j,j∈bk jE.res→τ' j=Oo j:=fun j hj=>by rw[Mt];exact if_pos hj
     have cw:=Gv.af9
     rw[←Mt]at cw
     have Ae: ∀j b,j∈bk jE.res→(τ' j).ownBlock=some b→w.heap.size≤b:=fun j b hj hb=>Ay j b hj (by rw[←gY j hj];exact hb)
     have Cp: ∀j k b,j∈bk jE.res→k∈bk jE.res→(τ' j).ownBlock=some b→(τ' k).ownBlock=some b→j=k:=fun j k b hj hk h1 h2=>Qu j k b hj hk (by rw[←gY j hj];exact h1) (by rw[←gY k hk];exact h2)
     let G':Gh:={S:=S',β:=G.β,τ:=fun g=>if g.1=p then τ' g.2 else G.τ g}
     have eJ: ∀j,G'.τ (p,j)=τ' j:=fun j=>if_pos rfl
     have hM:(C.add p).M p:= .inr rfl
     have nk:eN w' 0 G'.S τ' jE.res v ((C.add p).ρ p):=cw
     have bf:=ub (C:=C.add p) (G:=G') nk hM uF eJ
     obtain⟨aU,hm⟩:=hs.m.called hp (τ':=τ') iM hS yW GC (cG σ.live (if pc.isEmpty then eF p jE.res else [])) G' rfl
      (by
       intro g x hx
       unfold cG at hx
       split at hx
       ·rename_i y hy
        have jH:=fF hy
        cases Mb:pc.isEmpty with
        |false=>rw[Mb]at jH;simp at jH
        |true=>
        rw[Mb]at jH;simp only[if_true]at jH
        obtain⟨q1,q2,e1,T1,t1,q3,q4⟩:=bf _ jH
        simp only at q1 q3 q4
        rw[q3]at hx;injection hx with hx;subst hx
        refine .inr ⟨q1,q4.I8 (fun b hb=>Ae g.2 b q2 ?_)⟩
        have e:G'.τ g=τ' g.2:=if_pos q1
        rw[←e];exact hb
       ·exact .inl ⟨da hs.m hp hx,hx⟩)
      (by
       intro j1 j2 x y b hx hy tH tG
       have key: ∀j x,cG σ.live (if pc.isEmpty then eF p jE.res else []) (p,j)=some x→j∈bk jE.res:=by
        intro j x hx
        unfold cG at hx
        split at hx
        ·rename_i y hy
         have jH:=fF hy
         cases Mb:pc.isEmpty with
         |false=>rw[Mb]at jH;simp at jH
         |true=>
         rw[Mb]at jH;simp only[if_true]at jH
         exact(bf _ jH).2.1
        ·exact absurd rfl (da hs.m hp hx)
       exact Cp j1 j2 b (key j1 x hx) (key j2 y hy) tH tG)
      (fun iQ=>absurd iQ nK) jg
     exact hK _ _ _ (hs.step (o:=o) (e:=⟨o.dst,(pc,ke pc.isEmpty p jE.res),[],if pc.isEmpty then eF p jE.res else [],ids,items⟩) aU (hm.congr (bK _) rfl) rfl aL hc
      (by intro _;simp only[bY,if_true];exact vE (C:=C.add p) (G:=G') nk hM uF eJ _ (by simpa using hnx)) cp)
    ·cases h
   ·cases h
  ·cases h
 ·cases h
end
theorem vW{α:Type}(l:List α): ∀(n i j:Nat),i<n→j<l.length→(List.replicate n l).flatten[i*l.length+j]? =l[j]?
 |0,i,j,h,_=>by omega
 |n+1,0,j,_,hj=>by simp only[List.replicate_succ,List.flatten_cons,Nat.zero_mul,Nat.zero_add];rw[List.getElem?_append_left hj]
 |n+1,i+1,j,h,hj=>by
  simp only[List.replicate_succ,List.flatten_cons]
  rw[List.getElem?_append_right (by rw[Nat.add_mul];omega)]
  have:=vW l n i j (by omega) hj
  rw[←this]
  congr 1
  rw[Nat.add_mul];omega
theorem gv(agg:Bool)(size:Nat): ∀(n:Nat) (es:List E),(py agg size es n).length=n
 |0,_=>rfl
 |n+1,es=>by simp[py,gv agg size n]
theorem mW(agg:Bool)(size:Nat): ∀(n i:Nat) (es:List E),i<n→(py agg size es n)[i]? =some (if agg then .un .agg (.bQ ((es.drop (i*size)).take size)) else(es.drop (i*size)).headD .nil)
 |0,i,_,h=>by omega
 |n+1,0,es,_=>by simp[py]
 |n+1,i+1,es,h=>by
  simp only[py,List.getElem?_cons_succ]
  rw[mW agg size n i _ (by omega)]
  rw[List.drop_drop,Nat.add_mul,Nat.one_mul,Nat.add_comm size]
theorem za{P:Program}(w:World)(t e:TypeId)(len:Nat)(parts:Array (Nat×Value))(cells:Array Value)(ie:TypeInfo)(z:Value)
  (hu:P.underlying t=some (.slice e)) (qm:P.info? e=some ie) (hz:ie.zero=some z) (Ax: ¬len*ie.size>2 ^ 24)
  (h:Instr.fill (fun i=>some (i*ie.size,ie.size)) ((Array.range (len*ie.size)).map (z.cells[· % z.cells.size]!)) parts.toList=some cells):
  (Instr.buildSlice t len parts).run P w= .ok (.slice (some ⟨w.heap.size,0,none⟩) len len) (w.alloc (.cells cells e)):=by
 by_cases ev:len*ie.size=0
 ·have e0: ∀f:Nat→Value,(Array.range (len*ie.size)).map f= #[] :=fun f=>by rw[ev];simp
  rw[e0]at h
  have e3: ∀f:Nat→Value,(Array.range 0).map f= #[] :=fun f=>by simp
  simp[Instr.buildSlice,run_underlying hu,sizeOf,typeInfo,qm,newRow,ev]
  rw[e3,h]
  simp
 ·exact run_buildSlice w t e len parts cells ie z hu qm hz Ax ev h
section
variable{P:Program}{C:Cx}{w w0:World}{S0:ew}{G:Gh}{σ:St}{a:Act}{o:Oper}{pc:bI}{s:SV}{is:List Item}{Φ:Nat→List D→D}{Pre:Nat→List D→Prop}{n p:Nat}{cs:lD}
theorem Da{e:E}{T:TypeId}{t:Ty}{len:Nat}(ht:fI C w G σ.tm a)(bY:aq C.ρ pc=true)(h:p4 P σ pc o=some (e,T,t,len)):
  ∃(xs:List Value) (l:List D),(execOp a.eval o).run P w= .ok (.value (.slice (some ⟨w.heap.size,0,none⟩) len len)) (w.alloc (.cells xs.toArray T))∧e.lt C.N=true∧den C.ρ e= .list l∧l.length=len∧lP t len∧
   0<t.cells.length∧xs.length=len*t.cells.length∧(∀d∈l,Has t d)∧
   (∀(i:Nat) d (j:Nat) v c,l[i]? =some d→d.cells[j]? =some c→xs[i*t.cells.length+j]? =some v→bj w G.S v c)∧ ∀cl,pv P σ pc o=some cl→iD C w G cl xs:=by
 unfold p4 at h
 split at h
 ·rename_i tt kb parts ho
  split at h
  ·rename_i el hu
   split at h
   ·rename_i ie u ts ps qm fV sZ hps
    split at h
    ·rename_i zs sX
     obtain⟨z,hz,sX⟩: ∃z,ie.zero=some z∧kL ts z.cells.toList=some zs:=by
      cases hq:ie.zero with
      |none=>simp[hq]at sX
      |some z=>exact⟨z,rfl,by simpa [hq]using sX⟩
     split at h
     ·rename_i qf
      obtain⟨hzl,zi,ev,Ax,Cq⟩:=qf
      split at h
      ·rename_i csl XC
       split at h
       ·rename_i es us oa
        split at h
        ·rename_i L9
         have hz0:=pD (C:=C) (w:=w) (G:=G) sX
         have aqi:z.cells.size=zs.length:=by have:=hz0.1;simpa using this
         have akp:iD C w G ((List.range (kb*ie.size)).map fun j=>zs.getD (j % zs.length) (.lU .nil)) ((List.range (kb*ie.size)).map fun j=>z.cells[j % z.cells.size]!):=by
          refine⟨by simp,fun i c v hc hv=> ?_⟩
          have hi:i<kb*ie.size:=by have:=(ai.1 hc).1;simpa using this
          simp only[List.getElem?_map,List.getElem?_range hi,Option.map_some,Option.some.injEq]at hc hv
          have hm:i % zs.length<zs.length:=Nat.mod_lt _ (by omega)
          subst hc;subst hv
          rw[aqi]
          have e1:zs.getD (i % zs.length) (.lU .nil)=zs[i % zs.length] :=by simp[List.getD,hm]
          have OG:i % zs.length<z.cells.size:=by omega
          have e2:z.cells[i % zs.length]! =z.cells.toList[i % zs.length]'(by simpa using OG):=by simp[getElem!_pos,OG]
          rw[e1,e2]
          exact hz0.2 _ _ _ (av hm) (av _)
         obtain⟨k1,k2⟩:=ud ht bY _ _ _ hps
         obtain⟨xs,h1,h2⟩:=xC _ _ _ _ _ _ XC akp k1 k2
         obtain⟨m1,m2,m3,m4,m5⟩:=kJ oa h2
         have Uu: ∀cl,pv P σ pc o=some cl→iD C w G cl xs:=by
          intro cl gz
          have hb:(ie.zero.bind fun z=>kL ts z.cells.toList)=some zs:=by rw[hz];exact sX
          unfold pv at gz
          simp only[ho,hu,qm,sZ,hps,hb]at gz
          rw[XC]at gz
          injection gz with gz
          rw[←gz];exact h2
         have pT:xs.length=kb*ie.size:=by
          rw[←m3,L9.1];simp[zi]
         have cM: ∀{T},el=T→(execOp a.eval o).run P w= .ok (.value (.slice (some ⟨w.heap.size,0,none⟩) kb kb)) (w.alloc (.cells xs.toArray T)):=by
          rintro T rfl
          have:=za (P:=P) w tt el kb (parts.map fun(i,x)=>(i,a.eval x)) xs.toArray ie z hu qm hz (by rw[show(2:Nat) ^ 24=16777216 from rfl];omega)
           (by
            rw[Array.toList_map]
            have e1:(Array.range (kb*ie.size)).map (fun x=>z.cells[x % z.cells.size]!)=((List.range (kb*ie.size)).map fun j=>z.cells[j % z.cells.size]!).toArray:=by apply Array.ext';simp
            rw[e1];exact h1)
          unfold execOp;simp only[ho,Sem.run_bind]
          rw[this];rfl
         have Gk:kb≤maxLen:=by
          have:kb≤kb*ie.size:=Nat.le_mul_of_pos_right _ ev
          have h9:(16777216:Nat)≤maxLen:=by decide
          omega
         have Co:es.length=kb*ie.size:=by rw[m2,pT]
         have Xw: ∀e∈es,e.lt C.N=true:=(qS es).1 m1
         have aho: ∀(i j:Nat) (ty:Ty) (x:E),i<kb→j<ie.size→u.cells[j]? =some ty→es[i*ie.size+j]? =some x→Has ty (den C.ρ x):=by
          intro i j ty x hi hj fV hx
          have F1:=bX m5 (i*ie.size+j) ty (by rw[Ty.cC,L9.1,←zi,vW _ _ _ _ hi (by omega)];exact fV)
          obtain⟨d,hd,hhd⟩:=F1
          simp only[List.getElem?_map,hx,Option.map_some,Option.some.injEq]at hd
          subst hd;exact hhd
         have arF: ∀{i j:Nat},i<kb→j<ie.size→i*ie.size+j<kb*ie.size:=by
          intro i j hi hj
          have:(i+1)*ie.size≤kb*ie.size:=Nat.mul_le_mul_right _ hi
          rw[Nat.add_mul]at this;omega
         split at h
         ·rename_i fs ah1
          injection h with h;simp only[Prod.mk.injEq]at h;obtain⟨rfl,rfl,rfl,rfl⟩:=h
          have gz:(Ty.agg (.bQ fs.ak)).cells=fs.ak:=by simp[Ty.cells,Ty.cC]
          have aaV:fs.ak.length=ie.size:=zi
          have elem: ∀i,i<kb→den C.ρ (.un .agg (.bQ ((es.drop (i*ie.size)).take ie.size)))= .agg (((es.drop (i*ie.size)).take ie.size).map (den C.ρ)):=by
           intro i _;simp only[den,dG,U.den,D.ak]
          refine⟨xs,_,cM rfl,?_,dG _ _,by simp[gv],⟨Gk,by rw[Ty.NY];exact Cq⟩,by rw[gz];omega,by rw[gz,aaV];exact pT,?_,?_,Uu⟩
          ·rw[qS]
           intro e he
           obtain⟨i,hi⟩:=List.getElem?_of_mem he
           have eX:i<kb:=by have:=(ai.1 hi).1;rwa [gv]at this
           rw[mW _ _ _ _ _ eX]at hi
           simp only[if_true,Option.some.injEq]at hi
           subst hi
           simp only[E.lt]
           rw[qS]
           exact fun e he=>Xw e (List.mem_of_mem_drop (List.mem_of_mem_take he))
          ·intro d hd
           obtain⟨i,hi⟩:=List.getElem?_of_mem hd
           simp only[List.getElem?_map,br]at hi
           obtain⟨x,hx,rfl⟩:=hi
           have eX:i<kb:=by have:=(ai.1 hx).1;rwa [gv]at this
           rw[mW _ _ _ _ _ eX]at hx
           simp only[if_true,Option.some.injEq]at hx
           subst hx
           rw[elem i eX]
           have hbound:(i+1)*ie.size≤kb*ie.size:=Nat.mul_le_mul_right _ eX
           rw[Nat.add_mul]at hbound
           refine cu.2 ⟨_,rfl,fK (by simp[Co];omega) fun j ty x hj hx=> ?_⟩
           have hjs:j<ie.size:=by rw[←aaV];exact(ai.1 hj).1
           simp only[List.getElem?_map,br,List.getElem?_take,if_pos hjs,List.getElem?_drop]at hx
           obtain⟨y,hy,rfl⟩:=hx
           exact aho i j ty y eX hjs hj hy
          ·intro i d j v c hd hc hv
           simp only[List.getElem?_map,br]at hd
           obtain⟨x,hx,rfl⟩:=hd
           have eX:i<kb:=by have:=(ai.1 hx).1;rwa [gv]at this
           rw[mW _ _ _ _ _ eX]at hx
           simp only[if_true,Option.some.injEq]at hx
           subst hx
           rw[elem i eX]at hc
           simp only[D.cells,List.getElem?_map,br,List.getElem?_take]at hc
           obtain⟨y,hy,rfl⟩:=hc
           split at hy
           ·rw[List.getElem?_drop]at hy
            rw[gz,aaV]at hv
            exact m4 _ v y hv hy
           ·cases hy
         ·rename_i u _ _ ah1
          split at h
          ·rename_i fX
           injection h with h;simp only[Prod.mk.injEq]at h;obtain⟨rfl,rfl,rfl,rfl⟩:=h
           have jC:u.scalar=true:=by
            rcases L9.2 with h|h
            ·rw[ah1]at h;cases h
            ·exact h
           have BV:u.cells=[u] :=by cases u<;>first|rfl|cases jC
           have elem: ∀i x,i<kb→(py false 1 es kb)[i]? =some x→es[i]? =some x:=by
            intro i x hi hx
            rw[mW _ _ _ _ _ hi]at hx
            simp only[Bool.false_eq_true,if_false,Option.some.injEq,Nat.mul_one]at hx
            have eX:i<es.length:=by rw[Co,fX];omega
            rw[←hx,av eX,List.drop_eq_getElem_cons eX];rfl
           have akX: ∀d,Has u d→d.cells=[d] :=by
            intro d hd
            have:=(bp hd)
            rw[BV]at this
            cases d<;>first|rfl|(rename_i l;exfalso;cases u<;>simp[Ty.scalar]at jC<;>simp[bF,bA,kP,aD,fA,jV,jl]at hd)
           have ah0: ∀i x,i<kb→es[i]? =some x→Has u (den C.ρ x):=by
            intro i x hi hx
            exact aho i 0 u x hi (by omega) (by rw[BV];rfl) (by rw[fX,Nat.mul_one,Nat.add_zero];exact hx)
           refine⟨xs,_,cM rfl,?_,dG _ _,by simp[gv],⟨Gk,Cq⟩,by rw[BV];simp,by rw[BV];simpa [fX]using pT,?_,?_,Uu⟩
           ·rw[qS]
            intro e he
            obtain⟨i,hi⟩:=List.getElem?_of_mem he
            have eX:i<kb:=by have:=(ai.1 hi).1;rwa [gv]at this
            exact Xw e (aS (elem i e eX hi))
           ·intro d hd
            obtain⟨i,hi⟩:=List.getElem?_of_mem hd
            simp only[List.getElem?_map,br]at hi
            obtain⟨x,hx,rfl⟩:=hi
            have eX:i<kb:=by have:=(ai.1 hx).1;rwa [gv]at this
            exact ah0 i x eX (elem i x eX hx)
           ·intro i d j v c hd hc hv
            simp only[List.getElem?_map,br]at hd
            obtain⟨x,hx,rfl⟩:=hd
            have eX:i<kb:=by have:=(ai.1 hx).1;rwa [gv]at this
            have hex:=elem i x eX hx
            rw[akX _ (ah0 i x eX hex)]at hc
            cases j with
            |succ j=>simp at hc
            |zero=>
             simp at hc;subst hc
             rw[BV]at hv
             simp only[List.length_cons,List.length_nil,Nat.zero_add,Nat.mul_one,Nat.add_zero]at hv
             exact m4 i v x hv hex
          ·cases h
         ·cases h
        ·cases h
       ·cases h
      ·cases h
     ·cases h
    ·cases h
   ·cases h
  ·cases h
 ·cases h
theorem yg{ops:Array Oper}{e:E}{T:TypeId}{t:Ty}{len:Nat}(hs:er n w0 S0 C G σ a w)(hp: ¬C.M p)(hg:guardOf ops σ o=some pc)(h:p4 P σ pc o=some (e,T,t,len))(own:Bool)(bw:own=true→pc=[])
  (aL:e.lt C.N=true) (cp: ∀d,o.dst=some d→d<n) (j6:S0.fr→uM P cs σ pc o=true) (jg: ¬S0.wz):
  c9 P n w0 S0 C ((⟨o.dst,(pc,if own then .one (.own (p,0) e t) else .one (.eV e (.list t))),[],if own then [((p,0),some (e,T,t))] else [],[],[]⟩:fD).app σ) p ops a w o:=by
 intro K Q hK
 obtain⟨hw,hc⟩:=dr hs.t hg
 have iR:(if own then SV.one (.own (p,0) e t) else SV.one (.eV e (.list t))).lt C.N=true:=by cases own<;>simpa [SV.lt,SC.lt]using aL
 rw[hw]
 cases bY:aq C.ρ pc with
 |false=>
  simp only[Bool.false_eq_true,if_false]
  have ho:own=false:=by
   cases own with
   |false=>rfl
   |true=>have:=bw rfl;subst this;simp[aq]at bY
  subst ho
  exact hK _ _ _ (hs.step (o:=o) (e:=⟨o.dst,(pc, .one (.eV e (.list t))),[],[],[],[]⟩) (bO.mF C w G p) ((hs.m.mF p).congr (bK _) (bK _)) rfl (by simpa [SV.lt,SC.lt]using aL) hc
   (by intro _;simp only[bY,Bool.false_eq_true,if_false]) cp)
 |true=>
  simp only[if_true]
  obtain⟨xs,l,cM,Po,dC,om,Gk,ev,mZ,eI,hr,Uu⟩:=Da hs.t bY h
  unfold Oper.wp
  rw[cM]
  let G':Gh:={S:=fun b o=>G.S b o∨(b=w.heap.size∧o<xs.length),β:=G.β,τ:=fun g=>if g.1=p then .slice (some ⟨w.heap.size,0,none⟩) len len else G.τ g}
  have jM: ∀b o,G.S b o→(w.alloc (.cells xs.toArray T)).cell? ⟨b,o,none⟩=w.cell? ⟨b,o,none⟩:=fun b o sY=>World.cell?_alloc_lt w _ _ (hs.m.bL b o sY)
  have eS:Has (.list t) (den C.ρ e):=by rw[dC];exact aD.2 ⟨l,rfl,by rw[om];exact Gk,eI⟩
  have bM:gh (C.add p) (w.alloc (.cells xs.toArray T)) w.heap.size G' (p,0) e T t:=by
   refine⟨.inr rfl,Po,eS,xs,l,dC,?_,?_,?_⟩
   ·show(w.alloc _).ownsRow _ _ _ (if p=p then _ else _) _ _
    rw[if_pos rfl,om]
    exact⟨mZ, .inr ⟨w.heap.size,len,xs.toArray,rfl,Nat.le_refl _,heap_alloc_new w _,Nat.le_refl _,Gk.1,by simpa using mZ,by simp[←mZ]⟩⟩
   ·intro b hb o
    have fu:b=w.heap.size:=by simp[G',Value.ownBlock]at hb;exact hb.symm
    constructor
    ·rintro(h|⟨_,h⟩)
     ·have:=hs.m.bL b o h;omega
     ·exact⟨rfl,h⟩
    ·intro ho;exact .inr ⟨fu,ho.2⟩
   ·intro i d j v c h1 h2 h3
    exact(hr i d j v c h1 h2 h3).keep (fun _ _ h=> .inl h) jM
  obtain⟨aU,hm⟩:=hs.m.called hp (S':=G'.S) (τ':=fun _=> .slice (some ⟨w.heap.size,0,none⟩) len len) ((Below.refl _ _).alloc (Nat.le_refl _) _) (fun _ _ h=> .inl h)
   (by
    rintro b o (h|⟨rfl,_⟩)
    ·have:=hs.m.bL b o h;simp;omega
    ·simp)
   (by
    rintro b o (h|⟨rfl,_⟩)
    ·exact .inl h
    ·exact .inr (Nat.le_refl _))
   (cG σ.live (if own then [((p,0),some (e,T,t))] else [])) G' rfl
   (by
    intro g x hx
    cases own with
    |false=>simp only[Bool.false_eq_true,if_false,bK]at hx;exact .inl ⟨da hs.m hp hx,hx⟩
    |true=>
     simp only[if_true,cG,lk]at hx
     by_cases he:g=(p,0)
     ·rw[if_pos he]at hx;simp only[Option.some.injEq]at hx;subst hx;subst he;exact .inr ⟨rfl,bM⟩
     ·rw[if_neg he]at hx;exact .inl ⟨da hs.m hp hx,hx⟩)
   (by
    intro j k x y b hx hy _ _
    have key: ∀j x,cG σ.live (if own then [((p,0),some (e,T,t))] else []) (p,j)=some x→j=0:=by
     intro j x hx
     cases own with
     |false=>simp only[Bool.false_eq_true,if_false,bK]at hx;exact absurd rfl (da hs.m hp hx)
     |true=>
      simp only[if_true,cG,lk]at hx
      by_cases he:(p,j)=(p,0)
      ·simpa using he
      ·rw[if_neg he]at hx;exact absurd rfl (da hs.m hp hx)
    rw[key j x hx,key k y hy])
   (fun iQ _=>by
    have h1:=j6 iQ
    obtain⟨cl,gz,arc⟩: ∃cl,pv P σ pc o=some cl∧(cl.all EY)=true:=by
     unfold p4 at h
     split at h
     ·rename_i ho
      unfold uM at h1
      simp only[ho]at h1
      cases hl:pv P σ pc o with
      |none=>rw[hl]at h1;cases h1
      |some cl=>rw[hl]at h1;exact⟨cl,rfl,h1⟩
     ·cases h
    have mB:=Uu cl gz
    have aj3: ∀u∈xs,k9 (zn (gH w0 S0) w G.S) u:=by
     intro u hu
     obtain⟨i,hi⟩:=List.getElem?_of_mem hu
     have eX:i<cl.length:=by rw[←mB.1];exact(ai.1 hi).1
     exact ru (C:=C) (aV.1 arc _ (List.getElem_mem eX)) (hs.m.fresh iQ) (mB.2 i _ u (av eX) hi)
    intro a0 n0 Py CO
    by_cases hlen:len=0
    ·exact .inl hlen
    ·have aj2:0<xs.length:=by rw[mZ];exact Nat.mul_pos (by omega) ev
     refine .inr ⟨w.heap.size,0,rfl,fun b=>zn (gH w0 S0) w G.S b∨b=w.heap.size,?_, .inr rfl⟩
     rintro b (hb|rfl)
     ·obtain⟨h3,⟨o1,h4⟩,⟨UE,T0,h7⟩,h5⟩:=zn.set _ _ _ b hb
      refine⟨h3,⟨o1, .inl h4⟩,⟨UE,T0,(Below.heap_alloc w _ _ (hs.m.bL _ _ h4)).trans h7⟩,fun o2 u xP hu=> ?_⟩
      rcases xP with xP|⟨rfl,_⟩
      ·exact(h5 o2 u xP (by rw[←jM b o2 xP];exact hu)).mono fun _ h=> .inl h
      ·have:=hs.m.bL _ _ h4;omega
     ·refine⟨.inl hs.m.rS,⟨0, .inr ⟨rfl,aj2⟩⟩,⟨_,_,heap_alloc_new w _⟩,fun o2 u xP hu=> ?_⟩
      rcases xP with xP|⟨_,xQ⟩
      ·have:=hs.m.bL _ _ xP;omega
      ·have h6:(w.alloc (.cells xs.toArray T)).heap[w.heap.size]? =some (.cells xs.toArray T (0,0)):=heap_alloc_new w _
       rw[cell_of_row _ _ o2 _ T (0,0) h6]at hu
       simp only[List.getElem?_toArray]at hu
       exact(aj3 u (aS hu)).mono fun _ h=> .inl h) jg
  refine hK _ _ _ (hs.step (o:=o) (e:=⟨o.dst,(pc,if own then .one (.own (p,0) e t) else .one (.eV e (.list t))),[],if own then [((p,0),some (e,T,t))] else [],[],[]⟩) aU (hm.congr (bK _) rfl) rfl iR hc ?_ cp)
  intro _
  simp only[bY,if_true]
  have fa:=bM.rep ev
  have eJ:G'.τ (p,0)= .slice (some ⟨w.heap.size,0,none⟩) len len:=if_pos rfl
  rw[eJ]at fa
  cases own with
  |true=>exact⟨.inr rfl,Po,fa,eS,eJ.symm⟩
  |false=>exact⟨Po,fa,eS⟩
theorem JZ{e:E}{T:TypeId}{t:Ty}{len:Nat}(ht:fI C w G σ.tm a)(h:xb P σ o=some (e,T,t,len)):
  ∃(xs:List Value) (l:List D),(execOp a.eval o).run P w= .ok (.value (.slice (some ⟨w.heap.size,0,none⟩) len len)) (w.alloc (.cells xs.toArray T))∧e.lt C.N=true∧den C.ρ e= .list l∧l.length=len∧lP t len∧
   0<t.cells.length∧xs.length=len*t.cells.length∧(∀d∈l,Has t d)∧
   (∀(i:Nat) d (j:Nat) v c,l[i]? =some d→d.cells[j]? =some c→xs[i*t.cells.length+j]? =some v→bj w G.S v c):=by
 unfold xb at h
 split at h
 ·rename_i e' T' t' n' hl
  injection h with h;simp only[Prod.mk.injEq]at h;obtain⟨rfl,rfl,rfl,rfl⟩:=h
  obtain⟨xs,l,h1,h2,h3,h4,h5,h6,h7,h8,h9,_⟩:=Da ht (pc:=[]) rfl hl
  exact⟨xs,l,h1,h2,h3,h4,h5,h6,h7,h8,h9⟩
 ·unfold WK at h
  split at h
  ·rename_i tt kl n kc m ho
   split at h
   ·rename_i el hu
    split at h
    ·rename_i ie k qm fV
     split at h
     ·rename_i hc
      obtain⟨rfl,ev,Ts,fo,hz,hby⟩:=hc
      have hz:=UI hz
      injection h with h;simp only[Prod.mk.injEq]at h;obtain⟨rfl,rfl,rfl,rfl⟩:=h
      have cM:=run_make (P:=P) (w:=w) tt el ie (.int k 0) hu qm hz kl kc n n (by omega) (Int.le_refl _) (by
       have:(ie.bytes:Int)*n≤8*1000:=Int.mul_le_mul (by omega) Ts (by omega) (by omega)
       omega) (by omega)
      have dC: ∀q:Nat,den C.ρ (.bQ (List.replicate q (E.ao k 0)))= .list (List.replicate q (D.int k 0)):=fun q=>by rw[dG];simp[den]
      have h0:kr k 0:=by cases k<;>exact⟨by decide,by decide⟩
      refine⟨List.replicate n.toNat (.int k 0),List.replicate n.toNat (.int k 0),?_,?_,dC _,by simp,⟨?_,?_⟩,by simp[Ty.cells],by simp[Ty.cells],?_,?_⟩
      ·have e1:madeCells (Value.int k 0).cells (n.toNat*ie.size)=(List.replicate n.toNat (Value.int k 0)).toArray:=by
        rw[fo,Nat.mul_one]
        unfold madeCells
        apply Array.ext'
        rw[Array.toList_map]
        apply List.ext_getElem
        ·simp
        ·intro i h1 h2
         simp[Value.cells,Nat.mod_one]
       rw[←e1]
       unfold execOp;simp only[ho,Sem.run_bind]
       rw[show a.eval (.const (.int kl n))= .int kl n from rfl,show a.eval (.const (.int kc n))= .int kc n from rfl,cM];rfl
      ·rw[qS];intro e he;rw[List.eq_of_mem_replicate he];rfl
      ·have h9:(16777216:Nat)≤maxLen:=by decide
       omega
      ·have:(Ty.int k).bytes≤8:=by cases k<;>decide
       have:n.toNat*(Ty.int k).bytes≤1000*8:=Nat.mul_le_mul (by omega) this
       omega
      ·intro d hd;rw[List.eq_of_mem_replicate hd];exact⟨0,rfl,h0⟩
      ·intro i d j v c h1 h2 h3
       have hd:=List.eq_of_mem_replicate (aS h1)
       subst hd
       have hv:=List.eq_of_mem_replicate (aS h3)
       subst hv
       cases j with
       |zero=>simp[D.cells]at h2;subst h2;exact .int _ _
       |succ j=>simp[D.cells]at h2
     ·cases h
    ·cases h
   ·cases h
  ·cases h
theorem E6{ops:Array Oper}{e:fD}(hs:er n w0 S0 C G σ a w)(hp: ¬C.M p)(hg:guardOf ops σ o=some [])(h:TP P σ p o=some e)(cp: ∀d,o.dst=some d→d<n)(nK: ¬S0.fr)(jg: ¬S0.wz):
  c9 P n w0 S0 C (e.app σ) p ops a w o:=by
 unfold TP at h
 split at h
 ·rename_i ee T t len hl
  injection h with h;subst h
  intro K Q hK
  obtain⟨hw,hc⟩:=dr hs.t hg
  rw[hw,if_pos (show aq C.ρ [] =true from rfl)]
  obtain⟨xs,l,cM,Po,dC,om,Gk,ev,mZ,eI,hr⟩:=JZ hs.t hl
  unfold Oper.wp
  rw[cM]
  let G':Gh:={S:=G.S,β:=G.β,τ:=fun g=>if g.1=p then .slice (some ⟨w.heap.size,0,none⟩) len len else G.τ g}
  have jM: ∀b o,G.S b o→(w.alloc (.cells xs.toArray T)).cell? ⟨b,o,none⟩=w.cell? ⟨b,o,none⟩:=fun b o sY=>World.cell?_alloc_lt w _ _ (hs.m.bL b o sY)
  have eS:Has (.list t) (den C.ρ ee):=by rw[dC];exact aD.2 ⟨l,rfl,by rw[om];exact Gk,eI⟩
  have bM:gh (C.add p) (w.alloc (.cells xs.toArray T)) w.heap.size G' (p,1000) ee T t:=by
   refine⟨.inr rfl,Po,eS,xs,l,dC,?_,?_,?_⟩
   ·show(w.alloc _).ownsRow _ _ _ (if p=p then _ else _) _ _
    rw[if_pos rfl,om]
    exact⟨mZ, .inr ⟨w.heap.size,len,xs.toArray,rfl,Nat.le_refl _,heap_alloc_new w _,Nat.le_refl _,Gk.1,by simpa using mZ,by simp[←mZ]⟩⟩
   ·intro b hb o
    have fu:b=w.heap.size:=by simp[G',Value.ownBlock]at hb;exact hb.symm
    constructor
    ·intro h
     have:=hs.m.bL b o h;omega
    ·intro ho;exact Bool.noConfusion ho.1
   ·intro i d j v c h1 h2 h3
    exact(hr i d j v c h1 h2 h3).keep (fun _ _ h=>h) jM
  have ahQ: ∀j x,cG σ.live [((p,1000),some (ee,T,t))] (p,j)=some x→j=1000:=by
   intro j x hx
   simp only[cG,lk]at hx
   by_cases he:(p,j)=(p,1000)
   ·simpa using he
   ·rw[if_neg he]at hx;exact absurd rfl (da hs.m hp hx)
  obtain⟨aU,hm⟩:=hs.m.called hp (S':=G'.S) (τ':=fun _=> .slice (some ⟨w.heap.size,0,none⟩) len len) ((Below.refl _ _).alloc (Nat.le_refl _) _) (fun _ _ h=>h)
   (by
    intro b o h
    have:=hs.m.bL b o h;simp;omega)
   (fun b o h=> .inl h)
   (cG σ.live [((p,1000),some (ee,T,t))]) G' rfl
   (by
    intro g x hx
    simp only[cG,lk]at hx
    by_cases he:g=(p,1000)
    ·rw[if_pos he]at hx;simp only[Option.some.injEq]at hx;subst hx;subst he;exact .inr ⟨rfl,bM⟩
    ·rw[if_neg he]at hx;exact .inl ⟨da hs.m hp hx,hx⟩)
   (by
    intro j k x y b hx hy _ _
    rw[ahQ j x hx,ahQ k y hy])
   (fun iQ=>absurd iQ nK) jg
  refine hK _ _ _ (hs.step (o:=o) (e:=⟨o.dst,([], .one (.xo (p,1000) t)),[],[((p,1000),some (ee,T,t))],[],[]⟩) aU (hm.congr (bK _) rfl) rfl rfl hc ?_ cp)
  intro _
  simp only[aq,List.all_nil,if_true]
  have eJ:G'.τ (p,1000)= .slice (some ⟨w.heap.size,0,none⟩) len len:=if_pos rfl
  exact⟨.inr rfl,eJ.symm,_,_,_,rfl⟩
 ·cases h
theorem sj{ops:Array Oper}{e:fD}(hs:er n w0 S0 C G σ a w)(he:pz P cs ops σ p o=some e)(hp: ¬C.M p)(uF:p<C.N)(fb: ∀k sig,lk cs.l k=some sig→ax P k sig (Pre k) (Φ k))
  (aL:e.uz.2.lt C.N=true) (eC: ∀it∈e.items,ct C Φ Pre it) (cp: ∀d,o.dst=some d→d<n) (j6:S0.fr→ ∀pc,guardOf ops σ o=some pc→uM P cs σ pc o=true) (hwz:S0.wz→Ja o.op<3) (hE:IZ P cs S0 Φ Pre):c9 P n w0 S0 C (e.app σ) p ops a w o:=by
 unfold pz at he
 split at he
 ·cases he
 ·rename_i pc hg
  split at he
  ·split at he
   ·rename_i l hl
    split at he
    ·rename_i hc
     obtain⟨rfl,jC⟩:=hc
     injection he with he;subst he
     exact Hw hs hp hg hl jC cp
    ·cases he
   ·cases he
  ·split at he
   ·rename_i id l hl
    split at he
    ·rename_i hc
     obtain⟨rfl,jC,hd⟩:=hc
     injection he with he;subst he
     exact Cz hs hg hl jC hd
    ·cases he
   ·cases he
  ·split at he
   ·rename_i e' t fz hf
    injection he with he;subst he
    exact JP hs hg hf (by simpa [SV.lt,SC.lt]using aL) cp
   ·cases he
  ·rename_i hkd
   have jg: ¬S0.wz:=fun hw=>by have:=hwz hw;omega
   split at he
   ·rename_i k e' sig hc
    injection he with he;subst he
    exact E8 hs hp uF hg hc fb (eC _ (by simp)) aL cp _ (fun iQ=>j6 iQ _ hg) jg
   ·split at he
    ·rename_i x hx
     split at he
     ·rename_i bY
      subst bY
      injection he with he;subst he
      refine nT hs hp uF hg rfl hx fb (eC _ (by simp[nr.DU])) aL cp (fun iQ=> ?_) jg
      have h1:=j6 iQ _ hg
      unfold fJ at hx
      split at hx
      ·rename_i f args argTypes ho
       split at hx
       ·rename_i fe k' hf
        split at hx
        ·rename_i sig lV
         split at hx
         ·rename_i ob dw
          unfold uM at h1
          have h2:CR cs o.dst k'=some sig:=by
           unfold CR
           rw[lV]
           simp[dw]
          simp only[ho,hf,h2,dw,aw]at h1
          simp at h1
         ·cases hx
        ·cases hx
       ·cases hx
      ·cases hx
     ·cases he
    ·split at he
     ·rename_i k e' sig rd hl
      split at he
      ·rename_i hc
       have s9:=hc
       injection he with he;subst he
       exact CB hs hp uF hg hl fb (eC _ (by simp)) aL cp _ (fun iQ=>by have:=hE.1 iQ;omega) jg
      ·cases he
     ·cases he
  ·rename_i hkd
   have jg: ¬S0.wz:=fun hw=>by have:=hwz hw;omega
   split at he
   ·rename_i e1 e2 T t b ha
    split at he
    ·rename_i bY
     subst bY
     injection he with he;subst he
     exact y9 hs hp hg ha (eC _ (by simp)) (eC _ (by simp)) cp _ (fun iQ=>j6 iQ _ hg) jg
    ·cases he
   ·split at he
    ·rename_i g e1 e2 T t b ha
     split at he
     ·rename_i bY
      subst bY
      injection he with he;subst he
      exact BK hs hp hg ha (eC _ (by simp)) cp _ (fun iQ=>j6 iQ _ hg) jg
     ·cases he
    ·cases he
  ·rename_i hkd
   have jg: ¬S0.wz:=fun hw=>by have:=hwz hw;omega
   split at he
   ·rename_i e' T t len hl
    split at he
    ·rename_i Mb
     injection he with he;subst he
     have:=yg (p:=p) hs hp hg hl true (fun _=>by simpa using Mb) (by simpa [SV.lt,SC.lt]using aL) cp (fun iQ=>j6 iQ _ hg) jg
     simpa using this
    ·injection he with he;subst he
     have:=yg (p:=p) hs hp hg hl false (fun h=>by cases h) (by simpa [SV.lt,SC.lt]using aL) cp (fun iQ=>j6 iQ _ hg) jg
     simpa using this
   ·cases he
  ·split at he
   ·rename_i s is rd tF
    injection he with he;subst he
    exact CA hs hg tF aL eC cp hE.prog
   ·cases he
theorem Su{ops:Array Oper}{e:fD}(hs:er n w0 S0 C G σ a w)(he:C0 P cs ops σ p o=some e)(hp: ¬C.M p)(uF:p<C.N)(fb: ∀k sig,lk cs.l k=some sig→ax P k sig (Pre k) (Φ k))
  (aL:e.uz.2.lt C.N=true) (eC: ∀it∈e.items,ct C Φ Pre it) (cp: ∀d,o.dst=some d→d<n) (nK: ¬S0.fr) (jg: ¬S0.wz) (hE:IZ P cs S0 Φ Pre):c9 P n w0 S0 C (e.app σ) p ops a w o:=by
 unfold C0 at he
 split at he
 ·rename_i k DS hk
  have hg:guardOf ops σ o=some [] :=by unfold guardOf;rw[DS]
  unfold Pv at he
  split at he
  ·exact Cw hs DS he aL cp
  ·exact BH hs DS he
  ·exact E7 hs DS he aL cp
  ·exact BI hs DS he eC aL cp
  ·unfold EK at he
   split at he
   ·rename_i g e1 e2 T t b ha
    injection he with he;subst he
    exact E9 hs hp hg ha (eC _ (by simp)) cp _ nK jg
   ·cases he
  ·exact E6 hs hp hg he cp nK jg
  ·exact Cy hs hp uF hg he fb eC aL cp nK jg
 ·split at he
  ·rename_i pc hg
   split at he
   ·exact BJ hs hp uF hg he fb eC aL cp nK jg
   ·exact sj hs he hp uF fb aL eC cp (fun iQ=>absurd iQ nK) (fun hw=>absurd hw jg) hE
  ·cases he
 ·exact sj hs he hp uF fb aL eC cp (fun iQ=>absurd iQ nK) (fun hw=>absurd hw jg) hE
def zt(P:Program)(cs:lD)(σ:St)(o:Oper):Option bS:=
 match o.op with
 | .call {callee:= .value f, .. }=>
  match dz P σ [] f 0 with
  |some (.one (.eV _ (.fn k .nil)))=>lk cs.l k
  |_=>none
 |_=>none
def O4(cs:lD)(o:Oper):Option (Nat×bS×Ty):=
 match o.op,o.guard with
 | .call {callee:= .value (.func k), .. },none=>match lk cs.et k with
  |some sg=>sg.nn.map fun y=>(k,y)
  |none=>none
 |_,_=>none
def nnX(P:Program)(σ:St)(o:Oper)(y:Nat×bS×Ty):Option nr:=
 match fJ P ⟨[(y.1,y.2.1)],[],0,[],[]⟩ σ [] o with
 |some x=>if x.k=y.1∧x.ob.new=true∧x.ob.ba=[] ∧x.ids=[] ∧x.own=[] then some x else none
 |none=>none
def L4(p:Nat):E:= .un .Aa (.un (.cell 0) (.var p))
def xX(x:nr)(t:Ty)(p:Nat)(dst:Option Nat):Bool→fD
 |true=>{x.DU p dst with items:=[.KP [(L4 p,false)] true, .call p x.k x.args []]}
 |false=>⟨dst,([], .one (.eV .eW t)),[],[],[],[.KP [(L4 p,true)] true, .call p x.k x.args []]⟩
def iO(d:Option Bool)(P:Program)(cs:lD)(ops:Array Oper)(σ:St)(p:Nat)(o:Oper):Option fD:=
 match d,O4 cs o with
 |none,_=>xg P cs ops σ p o
 |some b,some y=>if cs.fr !=0 then none else match y.2.2 with
  | .ptr fs=>(nnX P σ o y).map fun x=>xX x (.ptr fs) p o.dst b
  |_=>none
 |some true,none=>if cs.fr !=0 then none else match guardOf ops σ o with
  |some pc=>match fJ P cs σ pc o with
   |some x=>some {x.DU p o.dst with items:=[.KP pc true, .call p x.k x.args []]}
   |none=>none
  |none=>none
 |some false,none=>match guardOf ops σ o,zt P cs σ o with
  |some pc,some sig=>some ⟨o.dst,(pc,tU false p (.un (.cell 0) (.var p)) sig.res),[],[],[],[.KP pc false]⟩
  |_,_=>none
theorem Rk{y:Nat×bS×Ty}{x:nr}(h:nnX P σ o y=some x):fJ P ⟨[(y.1,y.2.1)],[],0,[],[]⟩ σ [] o=some x∧x.k=y.1∧x.ob.new=true∧x.ob.ba=[] ∧x.ids=[] ∧x.own=[] :=by
 unfold nnX at h
 split at h
 ·rename_i x' hx
  split at h
  ·rename_i hc;injection h with h;subst h;exact⟨hx,hc⟩
  ·cases h
 ·cases h
theorem Vp{y:Nat×bS×Ty}(h:O4 cs o=some y):o.guard=none∧(∃args argTypes,o.op= .call {callee:= .value (.func y.1),args,argTypes})∧ ∃sg,lk cs.et y.1=some sg∧sg.nn=some y.2:=by
 unfold O4 at h
 split at h
 ·rename_i k args argTypes ho hg
  split at h
  ·rename_i sg hsg
   simp only[br]at h
   obtain⟨z,hz,rfl⟩:=h
   exact⟨hg,⟨_,_,ho⟩,sg,hsg,hz⟩
  ·cases h
 ·cases h
theorem Rm{α β:Type}[DecidableEq α]{a k:α}{b v:β}(h:lk [(a,b)] k=some v):k=a∧v=b:=by
 simp only[lk]at h
 split at h
 ·injection h with h;exact⟨by assumption,h.symm⟩
 ·cases h
theorem JO{ops:Array Oper}{y:Nat×bS×Ty}{x:nr}{fs:Ty}{b:Bool}(hs:er n w0 S0 C G σ a w)(hp: ¬C.M p)(uF:p<C.N)(hy:O4 cs o=some y)(hx:nnX P σ o y=some x)
  (aL:(xX x (.ptr fs) p o.dst b).uz.2.lt C.N=true) (eC: ∀it∈(xX x (.ptr fs) p o.dst b).items,ct C Φ Pre it) (cp: ∀d,o.dst=some d→d<n) (s9:IZ P cs S0 Φ Pre) (nK: ¬S0.fr) (jg: ¬S0.wz):
  c9 P n w0 S0 C ((xX x (.ptr fs) p o.dst b).app σ) p ops a w o:=by
 obtain⟨Zh,⟨args,argTypes,ho⟩,sg,hsg,OD⟩:=Vp hy
 obtain⟨h1,hk,fM,ku,gG,bw⟩:=Rk hx
 have hN:=s9.nn _ _ _ _ hsg OD
 have hg:guardOf ops σ o=some [] :=by unfold guardOf;rw[Zh]
 have ari:aq C.ρ [(L4 p,!b)] =true:=by
  cases b with
  |true=>exact eC (.KP [(L4 p,false)] true) (by simp[xX])
  |false=>exact eC (.KP [(L4 p,true)] true) (by simp[xX])
 have Qx:ct C Φ Pre (.call p x.k x.args []):=eC _ (by cases b<;>simp[xX])
 have Uw:((Φ x.k (den C.ρ x.args).ak).ak.getD 0 .top).dT= !b:=by
  obtain⟨_,_,h3,_⟩:=Qx
  have h4:C.ρ p=Φ x.k (den C.ρ x.args).ak:=h3
  rw[←h4]
  simpa [aq,L4,den,U.den,D.eh]using ari
 cases b with
 |true=>
  refine nT (cs:=⟨[(y.1,y.2.1)],[],0,[],[]⟩) (Φ:=Φ) (Pre:=fun k ds=>Pre k ds∧((Φ k ds).ak.getD 0 .top).dT=false) hs hp uF hg rfl h1 ?_ ?_ aL cp nK jg
  ·intro k' jE hl
   obtain⟨rfl,rfl⟩:=Rm hl
   exact hN.new
  ·obtain⟨c1,c2,c3,c4⟩:=Qx
   exact⟨c1,c2,c3,fun hc=>⟨c4 hc,Uw⟩⟩
 |false=>
  intro K Q hK
  obtain⟨hw,hc⟩:=dr hs.t hg
  rw[hw,if_pos (show aq C.ρ [] =true from rfl)]
  unfold fJ at h1
  simp only[ho]at h1
  split at h1
  ·rename_i fe k' hf
   split at h1
   ·rename_i sig lV
    obtain⟨rfl,rfl⟩:=Rm lV
    split at h1
    ·rename_i ob dw
     split at h1
     ·rename_i es O7 pe
      split at h1
      ·rename_i wK l kY
       split at h1
       ·rename_i iT
        injection h1 with h1;subst h1
        simp only at ku gG bw Uw hk fM
        obtain⟨fV,_,_,_,_,_,_,zX,_,_⟩:=iT
        obtain⟨f1,f2,f3⟩:=bg hs.t (pc:=[]) rfl hf
        obtain⟨fl,sZ,KK⟩:=jl.1 f3
        have D8:fl=[] :=bE.1 KK
        subst D8
        obtain⟨Ia,Mf,qM,_⟩:=(sZ▸f2).tW
        have D9:Ia=[] :=List.eq_nil_of_length_eq_zero qM
        subst D9
        have akq:O7=[] :=by
         cases O7 with
         |nil=>rfl
         |cons i r=>
          have:=Dk (σ:=σ) (ob:=ob) (ids:=i::r) (i:=0) (id:=i) rfl
          rw[gG]at this;cases this
        subst akq
        have aq5:wK=[] :=by
         rw[gG,ku]at kY
         simp only[tk,Option.some.injEq,Prod.mk.injEq]at kY
         exact kY.1.symm
        subst aq5
        obtain⟨cZ,Qs⟩:=vL (k:=0) (β:=G.β) hs.t (pc:=[]) rfl pe (fun i id hi=>by simp at hi)
        have dC:(den C.ρ (.bQ (es.map (·.1)++([] :List (List E)).flatten))).ak=(es.map fun x=>den C.ρ x.1)++([] :List (List D)).flatten:=by
         rw[dG]
         simp only[D.ak,List.map_append,List.map_map,List.flatten_nil,List.map_nil,List.append_nil]
         rfl
        obtain⟨_,_,_,gE⟩:=Qx
        have iV:=gE rfl
        rw[dC]at iV Uw
        have gY:C5 w G.S ob G.β (fun _=> .nilIface) (args.toList.map a.eval) (es.map fun x=>den C.ρ x.1) [] :=by
         refine⟨hs.m.bL,cZ,by rw[ku];rfl,?_,?_,?_,?_,?_⟩
         ·intro o rc cells hi;rw[ku]at hi;simp at hi
         ·intro i j hi;rw[ku]at hi;simp at hi
         ·intro j k b hj;unfold Ob.ia at hj;rw[ku]at hj;simp at hj
         ·intro j o b hj;unfold Ob.ia at hj;rw[ku]at hj;simp at hj
         ·intro hh;rw[ku]at hh;simp at hh
        have eS:bV (.bQ y.2.1.params) ((es.map fun x=>den C.ρ x.1)++([] :List (List D)).flatten):=by
         rw[←fV,ku]
         simpa using Qs
        have cM:(execOp a.eval o).run P w= .ok (.enter y.1 (args.toList.map a.eval).toArray) w:=by
         have e1:(args.toList.map a.eval).toArray=args.map a.eval:=by apply Array.ext';simp
         unfold execOp;simp only[ho,resolve,Mf,Deferred.ofValue,e1]
         have:=hN.new.enter (args.map a.eval) w
         simpa [invoke]using this
        unfold Oper.wp
        rw[cM]
        refine(hN.nil ob dw w G.S G.β (fun _=> .nilIface) _ _ _ gY eS iV Uw).mono ?_
        rintro e' w' ⟨rfl,iM⟩
        simp only
        obtain⟨aU,hm⟩:=hs.m.called hp (S':=G.S) (τ':=fun _=> .nilIface) iM (fun _ _ h=>h) (fun b o hb=>Nat.lt_of_lt_of_le (hs.m.bL b o hb) iM.size) (fun _ _ h=> .inl h) σ.live _ rfl
         (fun g z hz=> .inl ⟨fun e=>hp (by rw[←e];exact(hs.m.own g z.1 z.2.1 z.2.2 hz).m),hz⟩) (fun j k z u b hz=>absurd ((hs.m.own (p,j) z.1 z.2.1 z.2.2 hz).m) hp) (fun h=>absurd h nK) jg
        refine hK _ _ _ (hs.step (o:=o) (e:=xX _ (.ptr fs) p o.dst false) aU (hm.congr (bK _) (bK _)) rfl aL (by intro x hx;cases hx) ?_ cp)
        intro _
        refine(if_pos (show aq C.ρ ([] :bI)=true from rfl)).mpr ?_
        exact⟨rfl, .eW,jV.2 (.inl rfl)⟩
       ·cases h1
      ·cases h1
     ·cases h1
    ·cases h1
   ·cases h1
  ·cases h1
theorem xD{d:Option Bool}{ops:Array Oper}{e:fD}(hs:er n w0 S0 C G σ a w)(he:iO d P cs ops σ p o=some e)(hp: ¬C.M p)(uF:p<C.N)(fb: ∀k sig,lk cs.l k=some sig→ax P k sig (Pre k) (Φ k))
  (aL:e.uz.2.lt C.N=true) (eC: ∀it∈e.items,ct C Φ Pre it) (cp: ∀d,o.dst=some d→d<n) (s9:IZ P cs S0 Φ Pre):c9 P n w0 S0 C (e.app σ) p ops a w o:=by
 unfold iO at he
 split at he
 ·unfold xg at he
  split at he
  ·rename_i hf
   exact Su hs he hp uF fb aL eC cp (fun iQ=>by have:=s9.1 iQ;omega) (fun iQ=>by have:=s9.2 iQ;omega) s9
  ·rename_i hf
   split at he
   ·rename_i pc hg
    split at he
    ·rename_i bM
     exact sj hs he hp uF fb aL eC cp (fun _ pc' wO=>by rw[hg]at wO;injection wO with wO;subst wO;exact bM) (fun iQ=>by have:=s9.2 iQ;omega) s9
    ·cases he
   ·cases he
  ·rename_i hf0 Im
   split at he
   ·rename_i hk
    exact sj hs he hp uF fb aL eC cp (fun iQ=>absurd (s9.1 iQ) Im) (fun _=>hk) s9
   ·cases he
 ·rename_i b y hy
  split at he
  ·cases he
  ·rename_i hf
   have hf':cs.fr=0:=by simpa using hf
   split at he
   ·rename_i fs hfs
    simp only[br]at he
    obtain⟨x,hx,rfl⟩:=he
    exact JO hs hp uF hy hx aL eC cp s9 (fun iQ=>by have:=s9.1 iQ;omega) (fun iQ=>by have:=s9.2 iQ;omega)
   ·cases he
 ·split at he
  ·cases he
  ·rename_i hf
   have hf':cs.fr=0:=by simpa using hf
   split at he
   ·rename_i pc hg
    split at he
    ·rename_i x hx
     injection he with he;subst he
     exact nT hs hp uF hg (eC (.KP pc true) (by simp)) hx fb (eC _ (by simp)) aL cp (fun iQ=>by have:=s9.1 iQ;omega) (fun iQ=>by have:=s9.2 iQ;omega)
    ·cases he
   ·cases he
 ·split at he
  ·rename_i pc sig hg hx
   injection he with he;subst he
   intro K Q hK
   obtain⟨hw,hc⟩:=dr hs.t hg
   have bY:aq C.ρ pc=false:=eC (.KP pc false) (by simp)
   rw[hw,bY]
   simp only[Bool.false_eq_true,if_false]
   refine hK _ _ _ (hs.step (o:=o) (bO.mF C w G p) ((hs.m.mF p).congr (bK _) (bK _)) rfl aL hc (by intro _;simp only[bY,Bool.false_eq_true,if_false]) cp)
  ·cases he
end
section
variable{P:Program}{σ σ':St}{o:Oper}{pc:bI}
def eB(P:Program)(σ σ':St)(xs:List Operand):Prop:= ∀x∈xs,∀(q:bI) (hint:TypeId),dz P σ' q x hint=dz P σ q x hint
theorem Vv{t:Nat}(h:σ'.tm t=σ.tm t)(q:bI)(hint:TypeId):dz P σ' q (.tmp t) hint=dz P σ q (.tmp t) hint:=by
 simp only[dz,Ch,h]
theorem rV{xs:List Operand}(h: ∀t,Operand.tmp t∈xs→σ'.tm t=σ.tm t):eB P σ σ' xs:=by
 intro x hx q hint
 cases x with
 |tmp t=>exact Vv (h t hx) q hint
 |const v=>cases v<;>simp only[dz,Ch]
 |global g=>simp only[dz,Ch]
 |func f=>simp only[dz,Ch]
theorem eB.d{xs:List Operand}(h:eB P σ σ' xs){x:Operand}(hx:x∈xs)(q:bI)(hint:TypeId):cV P σ' q x hint=cV P σ q x hint:=by
 unfold cV;rw[h x hx]
theorem yE: ∀{xs:List Operand} {ts:List TypeId},eB P σ σ' xs→yc P σ' pc xs ts=yc P σ pc xs ts
 | [],[],_=>rfl
 | [],_::_,_=>rfl
 |_::_,[],_=>rfl
 |x::xs,t::ts,h=>by
  simp only[yc]
  rw[h.d (List.mem_cons_self ..),yE (fun y hy=>h y (List.mem_cons_of_mem _ hy))]
theorem iZ(hint:Nat→TypeId): ∀{xs:List (Nat×Operand)},eB P σ σ' (xs.map (·.2))→kO P σ' pc hint xs=kO P σ pc hint xs
 | [],_=>rfl
 |(i,x)::xs,h=>by
  simp only[kO]
  rw[h x (by simp),iZ hint (fun y hy=>h y (by simp only[List.map_cons];exact List.mem_cons_of_mem _ hy))]
theorem rA: ∀{xs:List Operand} {es:List (E×Ty)} {fz:List (Nat×List SC)},eB P σ σ' xs→qP P σ pc xs=some (es,fz)→(∀x∈fz,σ'.hp x.1=σ.hp x.1)→qP P σ' pc xs=some (es,fz)
 | [],es,fz,_,h,_=>h
 |x::xs,es,fz,hs,h,qn=>by
  simp only[qP]at h⊢
  rw[hs x (List.mem_cons_self ..)]
  have sY:eB P σ σ' xs:=fun y hy=>hs y (List.mem_cons_of_mem _ hy)
  split at h
  ·rename_i id tg Th hg hr
   split at h
   ·rename_i ro cs cU
    split at h
    ·rename_i ds ts oa
     injection h with h;simp only[Prod.mk.injEq]at h;obtain⟨rfl,rfl⟩:=h
     rw[rA sY hr (fun y hy=>qn y (List.mem_cons_of_mem _ hy))]
     simp only[hg]
     rw[qn (id,cs) (by simp)]
     simp only[cU,oa]
    ·cases h
   ·cases h
  ·rename_i e fs tg Th hg hr
   injection h with h;simp only[Prod.mk.injEq]at h;obtain⟨rfl,rfl⟩:=h
   rw[rA sY hr qn]
   simp only[hg]
  ·cases h
theorem CE{pl:Pl}{rd:List Nat}(hs:eB P σ σ' o.op.operands.toList)(h:pC P σ pc o=some (pl,rd))(qn: ∀id∈rd,σ'.hp id=σ.hp id):pC P σ' pc o=some (pl,rd):=by
 have e: ∀{x:Option Pl} {y:Option Pl},y=x→x.map (·,([] :List Nat))=some (pl,rd)→y.map (·,([] :List Nat))=some (pl,rd):=fun h1 h2=>h1▸h2
 unfold pC at h⊢
 split at h
 ·rename_i t x ho
  rw[ho]at hs
  try simp only[ho]
  unfold Ek at h⊢
  simp only[ho]at h⊢
  rw[hs x (by simp[Op.operands])]
  split at h
  ·cases h
  ·rename_i hc
   rw[if_neg hc]
   split at h
   ·rename_i id off hx
    try simp only[hx]
    split at h
    ·rename_i ro cs cU
     have hrd:rd=[id] :=by
      split at h
      ·cases h
      split at h
      ·split at h
       ·split at h
        ·injection h with h;simp only[Prod.mk.injEq]at h;exact h.2.symm
        ·cases h
       ·cases h
      ·split at h
       ·injection h with h;simp only[Prod.mk.injEq]at h;exact h.2.symm
       ·cases h
     rw[qn id (by rw[hrd];simp),cU]
     exact h
    ·cases h
   ·rename_i hx;try simp only[hx]
    exact h
   ·rename_i hx;try simp only[hx]
    exact h
   ·rename_i hx;try simp only[hx]
    exact h
   ·cases h
 ·rename_i x ho;rw[ho]at hs;try simp only[ho]
  refine e ?_ h
  unfold Am;simp only[ho];rw[hs x (by simp[Op.operands])]
 ·rename_i x ho;rw[ho]at hs;try simp only[ho]
  refine e ?_ h
  unfold Am;simp only[ho];rw[hs x (by simp[Op.operands])]
 ·rename_i c x y ho;rw[ho]at hs;try simp only[ho]
  refine e ?_ h
  unfold Ei;simp only[ho]
  rw[hs.d (x:=c) (by simp[Op.operands])]
  have h1:=fun q hint=>hs.d (x:=x) (by simp[Op.operands]) q hint
  have h2:=fun q hint=>hs.d (x:=y) (by simp[Op.operands]) q hint
  simp only[h1,h2]
 ·rename_i op xt x y yt ho;rw[ho]at hs;try simp only[ho]
  refine e ?_ h
  unfold El vK KY;simp only[ho]
  rw[hs.d (x:=x) (by simp[Op.operands]),hs.d (x:=y) (by simp[Op.operands]),hs x (by simp[Op.operands])]
 ·rename_i op xt x ho;rw[ho]at hs;try simp only[ho]
  refine e ?_ h
  have h1:=fun q hint=>hs.d (x:=x) (by simp[Op.operands]) q hint
  unfold O2;simp only[ho]
  cases op<;>simp only[h1]
 ·rename_i s d x ho;rw[ho]at hs;try simp only[ho]
  refine e ?_ h
  unfold O2;simp only[ho]
  rw[hs.d (x:=x) (by simp[Op.operands])]
 ·rename_i x j ho;rw[ho]at hs;try simp only[ho]
  refine e ?_ h
  unfold r8;simp only[ho];rw[hs x (by simp[Op.operands])]
 ·rename_i t x f ho;rw[ho]at hs;try simp only[ho]
  refine e ?_ h
  unfold nG;simp only[ho];rw[hs x (by simp[Op.operands])]
 ·rename_i t x f ho;rw[ho]at hs;try simp only[ho]
  refine e ?_ h
  unfold zu;simp only[ho];rw[hs x (by simp[Op.operands])]
 ·rename_i t x i ho;rw[ho]at hs;try simp only[ho]
  refine e ?_ h
  have h1:=fun q hint=>hs x (by simp[Op.operands]) q hint
  have h2:=fun q hint=>hs.d (x:=x) (by simp[Op.operands]) q hint
  have h3:=fun q hint=>hs.d (x:=i) (by simp[Op.operands]) q hint
  have e1:mq P σ' pc o=mq P σ pc o:=by
   unfold mq;simp only[ho]
   rw[h2,h3]
  have e3:jA P σ' pc o=jA P σ pc o:=by
   unfold jA;simp only[ho]
   rw[h1,h3]
  have e2:kF P σ' pc o=kF P σ pc o:=by
   unfold kF;simp only[ho]
   split
   ·rename_i B4;injection B4 with q1 q2 q3;subst q1;subst q2;rw[h1]
   ·rfl
  unfold nF;rw[e1,e2,e3]
 ·rename_i x ho;rw[ho]at hs;try simp only[ho]
  refine e ?_ h
  unfold KX;simp only[ho];rw[hs x (by simp[Op.operands])]
 ·rename_i t x lo hi ho;rw[ho]at hs;try simp only[ho]
  refine e ?_ h
  unfold zr;simp only[ho]
  have h1:=fun q hint=>hs.d (x:=x) (by simp[Op.operands]) q hint
  have h2:=fun y (hy:y∈lo.toArray) q hint=>hs.d (x:=y) (by simp[Op.operands]at hy⊢;simp[hy]) q hint
  have h3:=fun y (hy:y∈hi.toArray) q hint=>hs.d (x:=y) (by simp[Op.operands]at hy⊢;simp[hy]) q hint
  cases lo with
  |none=>cases hi with
   |none=>simp only[h1]
   |some y=>simp only[h1,h3 y (by simp)]
  |some z=>cases hi with
   |none=>simp only[h1,h2 z (by simp)]
   |some y=>simp only[h1,h3 y (by simp),h2 z (by simp)]
 ·rename_i t x lo hi mx qe ho;rw[ho]at hs;try simp only[ho]
  cases mx with
  |none=>exact absurd rfl qe
  |some m=>
   refine e ?_ h
   unfold vJ;simp only[ho]
   have h1:=fun q hint=>hs.d (x:=x) (by simp[Op.operands]) q hint
   have h3:=fun y (hy:y∈hi.toArray) q hint=>hs.d (x:=y) (by simp[Op.operands]at hy⊢;simp[hy]) q hint
   have h4:=fun q hint=>hs.d (x:=m) (by simp[Op.operands]) q hint
   cases lo with
   |some z=>rfl
   |none=>cases hi with
    |none=>rfl
    |some y=>simp only[h1,h3 y (by simp),h4]
 ·rename_i t parts ho;rw[ho]at hs;try simp only[ho]
  refine e ?_ h
  unfold zv;simp only[ho]
  have h1:=fun hint=>iZ (P:=P) (σ:=σ) (σ':=σ') (pc:=pc) hint (xs:=parts.toList) (by simpa [Op.operands]using hs)
  simp only[h1]
 ·rename_i T m x ok ho;rw[ho]at hs;try simp only[ho]
  unfold Ej at h⊢
  simp only[ho]at h⊢
  cases ok with
  |true=>cases h
  |false=>
   simp only at h⊢
   rw[hs m (by simp[Op.operands]),hs.d (x:=x) (by simp[Op.operands])]
   split at h
   ·rename_i id ek kt h1 h2
    try simp only[h1,h2]
    split at h
    ·rename_i ro cs cU
     have hrd:rd=[id] :=by
      split at h
      ·split at h
       ·injection h with h;simp only[Prod.mk.injEq]at h;exact h.2.symm
       ·cases h
      ·cases h
     rw[qn id (by rw[hrd];simp),cU]
     exact h
    ·cases h
   ·cases h
 ·rename_i args argTypes ho;rw[ho]at hs
  have h1: ∀x∈args.toList,∀q hint,cV P σ' q x hint=cV P σ q x hint:=fun x hx q hint=>hs.d (by simp[Op.operands,Call.operands];simpa using hx) q hint
  refine e ?_ h
  unfold CT;simp only[ho]
  split
  ·rename_i x t hl _
   rw[h1 x (by rw[hl];simp)]
  ·rfl
 ·rename_i args argTypes ho;rw[ho]at hs
  have h1: ∀x∈args.toList,∀q hint,cV P σ' q x hint=cV P σ q x hint:=fun x hx q hint=>hs.d (by simp[Op.operands,Call.operands];simpa using hx) q hint
  refine e ?_ h
  unfold CT;simp only[ho]
  split
  ·rename_i x y hl
   rw[h1 x (by rw[hl];simp),h1 y (by rw[hl];simp)]
  ·rfl
 ·rename_i args argTypes ho;rw[ho]at hs
  have h1: ∀x∈args.toList,∀q hint,cV P σ' q x hint=cV P σ q x hint:=fun x hx q hint=>hs.d (by simp[Op.operands,Call.operands];simpa using hx) q hint
  refine e ?_ h
  unfold CT;simp only[ho]
  split
  ·rename_i x y hl
   rw[h1 x (by rw[hl];simp),h1 y (by rw[hl];simp)]
  ·rfl
 ·cases h
theorem ja{ops:Array Oper}(h: ∀t,t∈o.looksAt ops→σ'.tm t=σ.tm t):guardOf ops σ' o=guardOf ops σ o:=by
 unfold guardOf
 split
 ·rfl
 ·rename_i j want hg
  split
  ·rename_i t ht
   rw[h t (by unfold Oper.looksAt;rw[hg];simp only[ht];simp)]
  ·rfl
theorem CC{r:aA}{c:SC}{e:E}{l:jI}(h:gQ σ r c=some (e,l))(hl: ∀j g,(j,some g)∈l→σ'.live g=σ.live g):gQ σ' r c=some (e,l):=by
 obtain⟨t,_|⟨j0,T⟩⟩:=r
 ·exact h
 ·simp only[gQ]at h⊢
  split at h
  ·exact h
  ·rename_i g e0 t'
   split at h
   ·rename_i e1 T' YQ zk
    split at h
    ·rename_i hc
     injection h with h;simp only[Prod.mk.injEq]at h;obtain⟨rfl,rfl⟩:=h
     rw[hl j0 g (by simp),zk]
     simp only[hc,and_self,if_true]
    ·cases h
   ·cases h
  ·rename_i g t'
   split at h
   ·rename_i e1 T' YQ zk
    split at h
    ·rename_i hc
     injection h with h;simp only[Prod.mk.injEq]at h;obtain⟨rfl,rfl⟩:=h
     rw[hl j0 g (by simp),zk]
     simp only[hc,and_self,if_true]
    ·cases h
   ·cases h
  ·cases h
theorem rC: ∀{rs:List aA} {cs:List SC} {es:List E} {l:jI},dY σ rs cs=some (es,l)→(∀j g,(j,some g)∈l→σ'.live g=σ.live g)→dY σ' rs cs=some (es,l)
 | [],[],es,l,h,_=>h
 | [],_::_,_,_,h,_=>by cases h
 |_::_,[],_,_,h,_=>by cases h
 |r::rs,c::cs,es,l,h,hl=>by
  simp only[dY]at h⊢
  split at h
  ·rename_i h1 h2
   injection h with h;simp only[Prod.mk.injEq]at h;obtain⟨rfl,rfl⟩:=h
   rw[CC h1 (fun j g hm=>hl j g (List.mem_append_left _ hm)),rC h2 (fun j g hm=>hl j g (List.mem_append_right _ hm))]
  ·cases h
theorem yj: ∀{rcs:List (List aA)} {ids:List Nat} {wK:List (List E)} {l:jI},tk σ rcs ids=some (wK,l)→(∀id∈ids,σ'.hp id=σ.hp id)→(∀j g,(j,some g)∈l→σ'.live g=σ.live g)→tk σ' rcs ids=some (wK,l)
 | [],[],_,_,h,_,_=>h
 | [],_::_,_,_,h,_,_=>by cases h
 |_::_,[],_,_,h,_,_=>by cases h
 |rc::r,id::ids,wK,l,h,hh,hl=>by
  simp only[tk]at h⊢
  rw[hh id (by simp)]
  split at h
  ·split at h
   ·rename_i h1 h2
    injection h with h;simp only[Prod.mk.injEq]at h;obtain⟨rfl,rfl⟩:=h
    rw[rC h1 (fun j g hm=>hl j g (List.mem_append_left _ hm)),yj h2 (fun id hi=>hh id (by simp[hi])) (fun j g hm=>hl j g (List.mem_append_right _ hm))]
   ·cases h
  ·cases h
theorem rm: ∀{sh:List Bool} {xs:List Operand} {ts:List TypeId},eB P σ σ' xs→jL P σ' pc sh xs ts=jL P σ pc sh xs ts
 | [],[],[],_=>rfl
 |false::sh,x::l,t::ts,hs=>by
  simp only[jL]
  rw[hs.d (by simp),rm (fun y hy=>hs y (by simp[hy]))]
 |true::sh,x::l,t::ts,hs=>by
  simp only[jL]
  rw[hs x (by simp),rm (fun y hy=>hs y (by simp[hy]))]
 | [],[],_::_,_=>by simp[jL]
 | [],_::_,ts,_=>by cases ts<;>simp[jL]
 |b::_,[],ts,_=>by cases b<;>cases ts<;>simp[jL]
 |b::_,_::_,[],_=>by cases b<;>simp[jL]
theorem rn: ∀{cs:List SC} {es:List E} {ts:List Ty} {ids:List Nat},tl σ cs=some (es,ts,ids)→(∀id∈ids,σ'.hp id=σ.hp id)→tl σ' cs=some (es,ts,ids)
 | [],es,ts,ids,h,_=>h
 |c::r,es,ts,ids,h,hh=>by
  simp only[tl]at h⊢
  split at h
  ·rename_i tg Tj qh h1
   split at h
   ·rename_i e t hd
    injection h with h;simp only[Prod.mk.injEq]at h;obtain⟨rfl,rfl,rfl⟩:=h
    rw[rn h1 hh]
   ·split at h
    ·rename_i id hn
     split at h
     ·rename_i ro Zo cU
      split at h
      ·rename_i ds us oa
       injection h with h;simp only[Prod.mk.injEq]at h;obtain⟨rfl,rfl,rfl⟩:=h
       rw[rn h1 (fun id hi=>hh id (by simp[hi]))]
       simp only[hh id (by simp),cU,oa]
      ·cases h
     ·cases h
    ·cases h
  ·cases h
theorem KA{x:Operand}{t:TypeId}{e:E}{ty:Ty}{ids:List Nat}(hs:eB P σ σ' [x])(h:MO P σ pc x t=some (e,ty,ids))(hh: ∀id∈ids,σ'.hp id=σ.hp id):MO P σ' pc x t=some (e,ty,ids):=by
 unfold MO at h⊢
 rw[hs.d (by simp),hs x (by simp)]
 split at h
 ·exact h
 ·split at h
  ·rename_i id hx
   split at h
   ·rename_i ro Zo cU
    split at h
    ·rename_i es ts Gg hl
     injection h with h;simp only[Prod.mk.injEq]at h;obtain⟨rfl,rfl,rfl⟩:=h
     rw[hh id (by simp),cU]
     simp only
     rw[rn hl (fun i hi=>hh i (by simp[hi]))]
    ·cases h
   ·cases h
  ·cases h
theorem yD: ∀{xs:List Operand} {ts:List TypeId} {es:List (E×Ty)} {ids:List Nat},eB P σ σ' xs→yb P σ pc xs ts=some (es,ids)→(∀id∈ids,σ'.hp id=σ.hp id)→yb P σ' pc xs ts=some (es,ids)
 | [],[],es,ids,_,h,_=>h
 |x::l,t::ts,es,ids,hs,h,hh=>by
  simp only[yb]at h⊢
  split at h
  ·rename_i e ty i1 tg qh h1 h2
   injection h with h;simp only[Prod.mk.injEq]at h;obtain⟨rfl,rfl⟩:=h
   rw[KA (fun y hy=>hs y (by simp at hy;simp[hy])) h1 (fun i hi=>hh i (List.mem_append_left _ hi)),yD (fun y hy=>hs y (by simp[hy])) h2 (fun i hi=>hh i (List.mem_append_right _ hi))]
  ·cases h
 | [],_::_,_,_,_,h,_=>by cases h
 |_::_,[],_,_,_,h,_=>by cases h
theorem CF{cs:lD}{k:Nat}{e:E}{sig:bS}{rd:List Nat}(hs:eB P σ σ' o.op.operands.toList)(h:nw P cs σ pc o=some (k,e,sig,rd))(hh: ∀id∈rd,σ'.hp id=σ.hp id):nw P cs σ' pc o=some (k,e,sig,rd):=by
 unfold nw at h⊢
 split at h
 ·rename_i f args argTypes ho
  try simp only[ho]
  rw[hs f (by rw[ho];simp[Op.operands,Call.operands])]
  split at h
  ·rename_i fe k' es ids hf pe
   split at h
   ·rename_i jE lV
    split at h
    ·rename_i iT
     injection h with h;simp only[Prod.mk.injEq]at h;obtain⟨rfl,hE,rfl,rfl⟩:=h
     simp only[hf]
     rw[yD (fun x hx=>hs x (by rw[ho];simp[Op.operands,Call.operands];right;simpa using hx)) pe hh]
     simp only[lV]
     rw[if_pos iT,hE]
    ·cases h
   ·cases h
  ·cases h
 ·cases h
theorem Fj{cs:lD}{k:Nat}{e:E}{sig:bS}{rd:List Nat}(hs:eB P σ σ' o.op.operands.toList)(h:nw P cs σ pc o=some (k,e,sig,rd)):fJ P cs σ' [] o=none:=by
 unfold nw at h
 split at h
 ·rename_i f args argTypes ho
  split at h
  ·rename_i fe k' es ids hf pe
   split at h
   ·rename_i jE lV
    split at h
    ·rename_i iT
     unfold fJ
     simp only[ho]
     rw[hs f (by rw[ho];simp[Op.operands,Call.operands])]
     simp only[hf,lV]
     have dw:=iT.1
     cases hq:jE.ob with
     |none=>rfl
     |some ob=>rw[hq]at dw;cases dw
    ·cases h
   ·cases h
  ·cases h
 ·cases h
theorem HH{ob:Ob}{ids:List Nat}(hh: ∀id∈mI σ ob ids,σ'.hp id=σ.hp id):mI σ' ob ids=mI σ ob ids:=by
 have h0: ∀id r,ids=id::r→σ'.hp id=σ.hp id:=by
  intro id r he
  refine hh id ?_
  subst he
  unfold mI
  split
  ·split
   ·rename_i h1 h2
    simp only[List.cons.injEq]at h2
    obtain⟨rfl,rfl⟩:=h2
    split<;>simp
   ·simp
  ·simp
 unfold mI
 split
 ·split
  ·rw[h0 _ _ rfl]
  ·rfl
 ·rfl
theorem Bt: ∀{rcs:List (List aA)} {ids:List Nat} {lk:Option Nat},(∀id∈ids,σ'.hp id=σ.hp id)→yR σ' rcs ids lk=yR σ rcs ids lk
 | [],_,_,_=>by simp[yR]
 |_::_,[],_,_=>by simp[yR]
 |rc::r,id::ids,none,_=>by simp[yR]
 |rc::r,id::ids,some l,h=>by
  simp only[yR]
  rw[h id (by simp),Bt (rcs:=r) (ids:=ids) (fun i hi=>h i (by simp[hi]))]
theorem nX{cs:lD}{x:nr}(hs:eB P σ σ' o.op.operands.toList)(h:fJ P cs σ pc o=some x)(hh: ∀id∈x.ids,σ'.hp id=σ.hp id)(hl: ∀j g,(j,some g)∈x.own→σ'.live g=σ.live g):
  fJ P cs σ' pc o=some x:=by
 unfold fJ at h⊢
 split at h
 ·rename_i f args argTypes ho
  try simp only[ho]
  rw[hs f (by rw[ho];simp[Op.operands,Call.operands])]
  split at h
  ·rename_i fe k' hf
   try simp only[hf]
   split at h
   ·rename_i sig lV
    try simp only[lV]
    split at h
    ·rename_i ob dw
     try simp only[dw]
     rw[rm (fun x hx=>hs x (by rw[ho];simp[Op.operands,Call.operands];right;simpa using hx))]
     split at h
     ·rename_i es ids pe
      try simp only[pe]
      split at h
      ·rename_i wK l kY
       split at h
       ·rename_i iT
        injection h with h;subst h
        rw[HH hh,yj kY hh hl]
        simp only
        rw[Bt hh]
        exact if_pos iT
       ·cases h
      ·cases h
     ·cases h
    ·cases h
   ·cases h
  ·cases h
 ·cases h
theorem zc(hs:eB P σ σ' o.op.operands.toList):mr P σ' o=mr P σ o:=by
 unfold mr
 split
 ·rename_i args argTypes ho
  split
  ·rename_i s x tt tt' cZ yV
   have m1:s∈o.op.operands.toList:=by rw[ho];simp[Op.operands,Call.operands];have:s∈args.toList:=by rw[cZ];simp
                                      simpa using this
   have m2:x∈o.op.operands.toList:=by rw[ho];simp[Op.operands,Call.operands];have:x∈args.toList:=by rw[cZ];simp
                                      simpa using this
   rw[hs s m1,hs.d m2]
  ·rfl
 ·rfl
theorem mf{cs:lD}{ops:Array Oper}{p:Nat}{e:fD}(he:pz P cs ops σ p o=some e)(uE: ∀t,t∈o.looksAt ops→σ'.tm t=σ.tm t)(qn: ∀id∈e.rd,σ'.hp id=σ.hp id)
  (bf: ∀x∈e.live,x.2=none→σ'.live x.1=σ.live x.1):pz P cs ops σ' p o=some e:=by
 have hs:eB P σ σ' o.op.operands.toList:=rV fun t ht=>uE t (by
  unfold Oper.looksAt
  exact List.mem_append_left _ (List.mem_filterMap.2 ⟨.tmp t,ht,rfl⟩))
 unfold pz at he⊢
 rw[ja uE]
 split at he
 ·cases he
 ·rename_i pc hg
  try simp only[hg]
  split at he
  ·rename_i hk
   have:z8 P σ' pc o=z8 P σ pc o:=by
    unfold z8
    split
    ·rfl
    ·rename_i t x ho
     rw[hs x (by rw[ho];simp[Op.operands])]
    ·rfl
   try simp only[hk]
   rw[this];exact he
  ·rename_i hk
   try simp only[hk]
   split at he
   ·rename_i id l hl
    have hrd:id∈e.rd:=by
     split at he
     ·injection he with he;subst he;simp
     ·cases he
    have:vm P σ' pc o=some (id,l):=by
     unfold vm at hl⊢
     split at hl
     ·rename_i t x y ho
      try simp only[ho]
      rw[hs x (by rw[ho];simp[Op.operands]),hs y (by rw[ho];simp[Op.operands])]
      split at hl
      ·rename_i Tp off pW sz h1 h2 h3
       try simp only[h1,h2,h3]
       split at hl
       ·rename_i zg cU
        split at hl
        ·rename_i hc
         injection hl with hl;simp only[Prod.mk.injEq]at hl;obtain⟨rfl,rfl⟩:=hl
         rw[qn _ hrd,cU]
         exact if_pos hc
        ·cases hl
       ·cases hl
      ·cases hl
     ·cases hl
    rw[this];exact he
   ·cases he
  ·rename_i hk
   try simp only[hk]
   split at he
   ·rename_i e' t fz hf
    injection he with he;subst he
    have:O3 P σ' pc o=some (e',t,fz):=by
     unfold O3 at hf⊢
     split at hf
     ·rename_i f first captured ho
      try simp only[ho]
      split at hf
      ·rename_i hfi
       rw[if_pos hfi]
       split at hf
       ·rename_i es Th Ld
        injection hf with hf;simp only[Prod.mk.injEq]at hf;obtain⟨h1,h2,h3⟩:=hf
        subst h3
        rw[rA (fun x hx=>hs x (by rw[ho];simp[Op.operands];right;simpa using hx)) Ld (fun x hx=>qn x.1 (by simp only[List.mem_map];exact⟨x,hx,rfl⟩))]
        simp only[h1,h2]
       ·cases hf
      ·cases hf
     ·cases hf
    rw[this]
   ·cases he
  ·rename_i hk
   try simp only[hk]
   have:xc P cs σ' pc o=xc P cs σ pc o:=by
    unfold xc
    split
    ·rename_i f args argTypes ho
     rw[hs f (by rw[ho];simp[Op.operands,Call.operands]),yE (fun x hx=>hs x (by rw[ho];simp[Op.operands,Call.operands];right;simpa using hx))]
    ·rfl
   rw[this]
   split at he
   ·exact he
   ·split at he
    ·rename_i x hx
     have:fJ P cs σ' [] o=some x:=by
      split at he
      ·injection he with he;subst he
       refine nX hs hx qn (fun j g hm=>bf (g,none) ?_ rfl)
       exact List.mem_append_left _ (List.mem_append_left _ (List.mem_filterMap.2 ⟨(j,some g),hm,rfl⟩))
      ·cases he
     rw[this];exact he
    ·split at he
     ·rename_i k e' sig rd hl
      have gG: ∀id∈rd,σ'.hp id=σ.hp id:=by
       split at he
       ·injection he with he;subst he
        exact fun id hi=>qn id hi
       ·cases he
      rw[Fj hs hl,CF hs hl gG]
      exact he
     ·cases he
  ·rename_i hk
   try simp only[hk]
   rw[zc hs]
   split at he
   ·exact he
   split at he
   ·rename_i g e1 e2 T t b ha
    have zk: ∀g',g=some g'→σ'.live g'=σ.live g':=by
     rintro g' rfl
     split at he
     ·injection he with he;subst he
      exact bf (g',none) (by simp) rfl
     ·cases he
    have:ra P σ' pc o=some (g,e1,e2,T,t,b):=by
     unfold ra at ha⊢
     split at ha
     ·rename_i args argTypes ho
      try simp only[ho]
      split at ha
      ·rename_i s x tt tt' cZ yV
       try simp only[cZ,yV]
       have m1:s∈o.op.operands.toList:=by rw[ho];simp[Op.operands,Call.operands];have:s∈args.toList:=by rw[cZ];simp
                                          simpa using this
       have m2:x∈o.op.operands.toList:=by rw[ho];simp[Op.operands,Call.operands];have:x∈args.toList:=by rw[cZ];simp
                                          simpa using this
       rw[hs s m1,hs.d m2]
       split at ha
       ·rename_i el sv ex u hu F0 hx
        try simp only[hu,F0,hx]
        split at ha
        ·rename_i ie u' qm Oz
         try simp only[qm,Oz]
         split at ha
         ·rename_i hc
          rw[if_pos hc]
          split at ha
          ·rename_i v
           exact ha
          ·rename_i g0 e0 v
           split at ha
           ·rename_i pV T' v' hl
            split at ha
            ·rename_i wH
             injection ha with ha;simp only[Prod.mk.injEq]at ha;obtain⟨rfl,rfl,rfl,rfl,rfl,rfl⟩:=ha
             try simp only[]
             rw[zk g0 rfl,hl]
             simp only[wH,and_self,if_true]
            ·cases ha
           ·cases ha
          ·cases ha
         ·cases ha
        ·cases ha
       ·cases ha
      ·cases ha
     ·cases ha
    rw[this];exact he
   ·cases he
  ·rename_i hk
   try simp only[hk]
   have:p4 P σ' pc o=p4 P σ pc o:=by
    unfold p4
    split
    ·rename_i t len parts ho
     have h1:=fun hint=>iZ (P:=P) (σ:=σ) (σ':=σ') (pc:=pc) hint (xs:=parts.toList) (by rw[ho]at hs;simpa [Op.operands]using hs)
     simp only[h1]
    ·rfl
   rw[this];exact he
  ·split at he
   ·rename_i s is rd tF
    injection he with he;subst he
    rw[CE hs tF qn]
   ·cases he
theorem jB{g:Tag}{t:Ty}(h:σ'.live g=σ.live g):p5 σ' g t=p5 σ g t:=by unfold p5;rw[h]
theorem Hv{cs:lD}(hs:eB P σ σ' o.op.operands.toList):KR P cs σ' o=KR P cs σ o:=by
 unfold KR
 split
 ·rename_i t x ho;rw[hs x (by rw[ho];simp[Op.operands])]
 ·rename_i t x y ho;rw[hs x (by rw[ho];simp[Op.operands])]
 ·rename_i t x i ho;rw[hs x (by rw[ho];simp[Op.operands])]
 ·rename_i args argTypes ho
  split
  ·rename_i x t hl ht
   have m1:x∈o.op.operands.toList:=by rw[ho];simp[Op.operands,Call.operands];have:x∈args.toList:=by rw[hl];simp
                                      simpa using this
   rw[hs x m1]
  ·rfl
 ·rename_i args argTypes ho
  split
  ·rename_i x _ t _ hl ht
   have m1:x∈o.op.operands.toList:=by rw[ho];simp[Op.operands,Call.operands];have:x∈args.toList:=by rw[hl];simp
                                      simpa using this
   rw[hs x m1]
  ·rfl
 ·rfl
 ·rfl
 ·rename_i f args argTypes ho
  have:(args.toList.zip argTypes.toList).any (C3 P σ')=(args.toList.zip argTypes.toList).any (C3 P σ):=by
   have key: ∀x∈args.toList.zip argTypes.toList,C3 P σ' x=C3 P σ x:=by
    intro x hx
    have hm:x.1∈args.toList:=(List.of_mem_zip (a:=x.1) (b:=x.2) hx).1
    unfold C3
    rw[hs x.1 (by rw[ho];simp[Op.operands,Call.operands];right;simpa using hm)]
   rw[Bool.eq_iff_iff,List.any_eq_true,List.any_eq_true]
   exact⟨fun⟨x,hx,h⟩=>⟨x,hx,key x hx▸h⟩,fun⟨x,hx,h⟩=>⟨x,hx,(key x hx).symm▸h⟩⟩
  rw[this]
 ·rfl
theorem tC{c:SC}{y:(E×Ty)×List (Tag×Option (E×TypeId×Ty))}(h:l3 σ c=some y)(hl: ∀z∈y.2,σ'.live z.1=σ.live z.1):l3 σ' c=some y:=by
 cases c with
 |xo g t=>
  simp only[l3]at h⊢
  split at h
  ·rename_i e T hx
   injection h with h;subst h
   rw[jB (hl _ (List.mem_singleton.2 rfl)),hx]
  ·cases h
 |_=>exact h
theorem rF: ∀{cl:List SC} {y:(List E×List Ty)×List (Tag×Option (E×TypeId×Ty))},iu σ cl=some y→(∀z∈y.2,σ'.live z.1=σ.live z.1)→iu σ' cl=some y
 | [],y,h,_=>h
 |c::cl,y,h,hl=>by
  simp only[iu]at h⊢
  split at h
  ·rename_i e t l es ts ls h1 h2
   injection h with h;subst h
   rw[tC h1 (fun z hz=>hl z (List.mem_append_left _ hz)),rF h2 (fun z hz=>hl z (List.mem_append_right _ hz))]
  ·cases h
theorem BR{s:SV}{y:(E×Ty)×List (Tag×Option (E×TypeId×Ty))}(h:ly σ s=some y)(hl: ∀z∈y.2,σ'.live z.1=σ.live z.1):ly σ' s=some y:=by
 cases s with
 |one c=>exact tC h hl
 |agg cl=>
  simp only[ly]at h⊢
  split at h
  ·rename_i es ts ls h1
   injection h with h;subst h
   rw[rF h1 hl]
  ·cases h
 |cW l=>cases h
theorem rB: ∀{xs:List Operand} {ts:List TypeId} {y:List (E×Ty)×List (Tag×Option (E×TypeId×Ty))},eB P σ σ' xs→p8 P σ pc xs ts=some y→(∀z∈y.2,σ'.live z.1=σ.live z.1)→p8 P σ' pc xs ts=some y
 | [],[],y,_,h,_=>h
 |x::xs,t::ts,y,hs,h,hl=>by
  simp only[p8]at h⊢
  split at h
  ·rename_i e l es ls h1 h2
   injection h with h;subst h
   rw[hs x (by simp)]
   rw[Option.bind_eq_some_iff]at h1
   obtain⟨sv,q1,q2⟩:=h1
   rw[q1,Option.bind_some,BR q2 (fun z hz=>hl z (List.mem_append_left _ hz)),rB (fun z hz=>hs z (by simp[hz])) h2 (fun z hz=>hl z (List.mem_append_right _ hz))]
  ·cases h
 | [],_::_,_,_,h,_=>by cases h
 |_::_,[],_,_,h,_=>by cases h
theorem E4(hs:eB P σ σ' o.op.operands.toList):Ee P σ' pc o=Ee P σ pc o:=by
 unfold Ee
 split
 ·rename_i f args argTypes ho
  have key: ∀x∈args.toList.zip argTypes.toList,EI P σ' pc x=EI P σ pc x:=by
   intro x hx
   have hm:x.1∈args.toList:=(List.of_mem_zip (a:=x.1) (b:=x.2) hx).1
   unfold EI
   rw[hs x.1 (by rw[ho];simp[Op.operands,Call.operands];right;simpa using hm)]
  rw[Bool.eq_iff_iff,List.any_eq_true,List.any_eq_true]
  exact⟨fun⟨x,hx,h⟩=>⟨x,hx,key x hx▸h⟩,fun⟨x,hx,h⟩=>⟨x,hx,(key x hx).symm▸h⟩⟩
 ·rfl
theorem E5{cs:lD}{p:Nat}{e:fD}(hs:eB P σ σ' o.op.operands.toList)(he:xa P cs σ pc p o=some e)(bf: ∀x∈e.live,σ'.live x.1=σ.live x.1):xa P cs σ' pc p o=some e:=by
 unfold xa at he⊢
 split at he
 ·rename_i f args argTypes ho
  try simp only[ho]
  rw[hs f (by rw[ho];simp[Op.operands,Call.operands])]
  split at he
  ·rename_i fe k' es l hf pe
   split at he
   ·rename_i sig lV
    split at he
    ·rename_i hc
     injection he with he;subst he
     rw[rB (fun x hx=>hs x (by rw[ho];simp[Op.operands,Call.operands];right;simpa using hx)) pe bf]
     simp only[hf,lV]
     exact if_pos hc
    ·cases he
   ·cases he
  ·cases he
 ·cases he
theorem Kx{cs:lD}{p k:Nat}{e:fD}(hs:eB P σ σ' o.op.operands.toList)(he:Pv P cs σ p o k=some e)(qn: ∀id∈e.rd,σ'.hp id=σ.hp id)(bf: ∀x∈e.live,σ'.live x.1=σ.live x.1):Pv P cs σ' p o k=some e:=by
 unfold Pv at he⊢
 split at he
 ·unfold KQ at he⊢
  split at he
  ·rename_i t x ho
   try simp only[ho]
   rw[hs x (by rw[ho];simp[Op.operands])]
   split at he
   ·cases he
   ·rename_i hc
    rw[if_neg hc]
    split at he
    ·rename_i g i u off hx
     try simp only[hx]
     split at he
     ·rename_i e1 T B6
      simp only[br]at he
      obtain⟨s,h1,rfl⟩:=he
      rw[jB (bf _ (List.mem_singleton.2 rfl)),B6]
      simp only[h1,Option.map_some]
     ·cases he
    ·cases he
  ·cases he
 ·unfold Ed at he⊢
  split at he
  ·rename_i t x y ho
   try simp only[ho]
   rw[hs x (by rw[ho];simp[Op.operands]),hs y (by rw[ho];simp[Op.operands])]
   split at he
   ·rename_i g i u off es ts n h1 h2 h3
    try simp only[h1,h2,h3]
    split at he
    ·rename_i e1 T B6
     split at he
     ·rename_i hc
      simp only[br]at he
      obtain⟨s,h4,rfl⟩:=he
      rw[jB (bf _ (List.mem_singleton.2 rfl)),B6]
      simp only[if_pos hc,h4,Option.map_some]
     ·cases he
    ·cases he
   ·cases he
  ·cases he
 ·unfold TQ at he⊢
  split at he
  ·rename_i args argTypes ho
   try simp only[ho]
   split at he
   ·rename_i x t hl ht
    try simp only[hl,ht]
    have m1:x∈o.op.operands.toList:=by rw[ho];simp[Op.operands,Call.operands];have:x∈args.toList:=by rw[hl];simp
                                       simpa using this
    rw[hs x m1]
    split at he
    ·rename_i g u hu hx
     try simp only[hu,hx]
     split at he
     ·rename_i e1 T B6
      injection he with he;subst he
      rw[jB (bf _ (List.mem_singleton.2 rfl)),B6]
     ·cases he
    ·cases he
   ·cases he
  ·cases he
 ·unfold Ef at he⊢
  split at he
  ·rename_i t x i ho
   try simp only[ho]
   rw[hs x (by rw[ho];simp[Op.operands]),hs.d (x:=i) (by rw[ho];simp[Op.operands])]
   split at he
   ·rename_i g u ie k hu hx hi
    try simp only[hu,hx,hi]
    split at he
    ·rename_i e1 T B6
     split at he
     ·rename_i hc
      injection he with he;subst he
      rw[jB (bf _ (List.mem_singleton.2 rfl)),B6]
      exact if_pos hc
     ·cases he
    ·cases he
   ·cases he
  ·cases he
 ·unfold EK at he⊢
  split at he
  ·rename_i g e1 e2 T t b ha
   injection he with he;subst he
   have zk: ∀g',g=some g'→σ'.live g'=σ.live g':=by
    rintro g' rfl
    exact bf (g',none) (by simp)
   have:An P σ' o=some (g,e1,e2,T,t,b):=by
    unfold An at ha⊢
    split at ha
    ·rename_i args argTypes ho
     try simp only[ho]
     split at ha
     ·rename_i s x tt tt' cZ yV
      try simp only[cZ,yV]
      have m1:s∈o.op.operands.toList:=by rw[ho];simp[Op.operands,Call.operands];have:s∈args.toList:=by rw[cZ];simp
                                         simpa using this
      have m2:x∈o.op.operands.toList:=by rw[ho];simp[Op.operands,Call.operands];have:x∈args.toList:=by rw[cZ];simp
                                         simpa using this
      rw[hs s m1,hs.d m2]
      split at ha
      ·rename_i el sv ex u hu F0 hx
       try simp only[hu,F0,hx]
       split at ha
       ·rename_i ie u' qm Oz
        try simp only[qm,Oz]
        split at ha
        ·rename_i hc
         rw[if_pos hc]
         split at ha
         ·exact ha
         ·rename_i g0 v
          split at ha
          ·rename_i pV T' B6
           split at ha
           ·rename_i wH
            injection ha with ha;simp only[Prod.mk.injEq]at ha;obtain⟨rfl,rfl,rfl,rfl,rfl,rfl⟩:=ha
            try simp only[]
            rw[jB (zk g0 rfl),B6]
            simp only[wH,and_self,if_true]
           ·cases ha
          ·cases ha
         ·cases ha
        ·cases ha
       ·cases ha
      ·cases ha
     ·cases ha
    ·cases ha
   rw[this]
  ·cases he
 ·unfold TP at he⊢
  have h0:p4 P σ' [] o=p4 P σ [] o:=by
   unfold p4
   split
   ·rename_i t len parts ho
    have h1:=fun hint=>iZ (P:=P) (σ:=σ) (σ':=σ') (pc:=[]) hint (xs:=parts.toList) (by rw[ho]at hs;simpa [Op.operands]using hs)
    simp only[h1]
   ·rfl
  have:xb P σ' o=xb P σ o:=by unfold xb;rw[h0]
  rw[this];exact he
 ·unfold KS at he⊢
  split at he
  ·rename_i f args argTypes ho
   try simp only[ho]
   rw[hs f (by rw[ho];simp[Op.operands,Call.operands])]
   split at he
   ·rename_i fe k' es l hf pe
    split at he
    ·rename_i sig lV
     split at he
     ·rename_i hc
      injection he with he;subst he
      rw[rB (fun x hx=>hs x (by rw[ho];simp[Op.operands,Call.operands];right;simpa using hx)) pe (fun z hz=>bf z (List.mem_append_left _ hz))]
      simp only[hf,lV]
      exact if_pos hc
     ·cases he
    ·cases he
   ·cases he
  ·cases he
theorem HQ{cs:lD}{ops:Array Oper}{p:Nat}{e:fD}(he:C0 P cs ops σ p o=some e)(uE: ∀t,t∈o.looksAt ops→σ'.tm t=σ.tm t)(qn: ∀id∈e.rd,σ'.hp id=σ.hp id)
  (bf: ∀x∈e.live,σ'.live x.1=σ.live x.1):C0 P cs ops σ' p o=some e:=by
 have hs:eB P σ σ' o.op.operands.toList:=rV fun t ht=>uE t (by
  unfold Oper.looksAt
  exact List.mem_append_left _ (List.mem_filterMap.2 ⟨.tmp t,ht,rfl⟩))
 unfold C0 at he⊢
 rw[Hv hs]
 split at he
 ·exact Kx hs he qn bf
 ·rw[ja uE]
  split at he
  ·rename_i pc hg
   try simp only[hg]
   rw[E4 hs]
   split at he
   ·rename_i hk
    rw[if_pos hk]
    exact E5 hs he bf
   ·rename_i hk
    rw[if_neg hk]
    exact mf he uE qn (fun x hx _=>bf x hx)
  ·cases he
 ·exact mf he uE qn (fun x hx _=>bf x hx)
theorem Fp(hs:eB P σ σ' o.op.operands.toList):pv P σ' pc o=pv P σ pc o:=by
 unfold pv
 split
 ·rename_i t len parts ho
  have h1:=fun hint=>iZ (P:=P) (σ:=σ) (σ':=σ') (pc:=pc) hint (xs:=parts.toList) (by rw[ho]at hs;simpa [Op.operands]using hs)
  simp only[h1]
 ·rfl
theorem Kr{cs:lD}(hs:eB P σ σ' o.op.operands.toList):uM P cs σ' pc o=uM P cs σ pc o:=by
 unfold uM
 split
 ·rename_i f args argTypes ho
  rw[hs f (by rw[ho];simp[Op.operands,Call.operands])]
 ·rename_i args argTypes ho
  split
  ·rename_i x y _ t hl ht
   have m1:x∈o.op.operands.toList:=by rw[ho];simp[Op.operands,Call.operands];have:x∈args.toList:=by rw[hl];simp
                                      simpa using this
   have m2:y∈o.op.operands.toList:=by rw[ho];simp[Op.operands,Call.operands];have:y∈args.toList:=by rw[hl];simp
                                      simpa using this
   rw[hs x m1,hs y m2]
  ·rfl
 ·rw[Fp hs]
 ·rfl
theorem Fx{cs:lD}{ops:Array Oper}{p:Nat}{e:fD}(he:xg P cs ops σ p o=some e)(uE: ∀t,t∈o.looksAt ops→σ'.tm t=σ.tm t)(qn: ∀id∈e.rd,σ'.hp id=σ.hp id)
  (bf: ∀x∈e.live,σ'.live x.1=σ.live x.1):xg P cs ops σ' p o=some e:=by
 have hs:eB P σ σ' o.op.operands.toList:=rV fun t ht=>uE t (by
  unfold Oper.looksAt
  exact List.mem_append_left _ (List.mem_filterMap.2 ⟨.tmp t,ht,rfl⟩))
 unfold xg at he⊢
 split at he
 ·rename_i hf
  exact HQ he uE qn bf
 ·rename_i hf
  rw[ja uE]
  split at he
  ·rename_i pc hg
   try simp only[hg]
   rw[Kr hs]
   split at he
   ·rename_i hk
    rw[if_pos hk]
    exact mf he uE qn (fun x hx _=>bf x hx)
   ·cases he
  ·cases he
 ·split at he
  ·rename_i hk
   rw[if_pos hk]
   exact mf he uE qn (fun x hx _=>bf x hx)
  ·cases he
theorem CD{cs:lD}(hs:eB P σ σ' o.op.operands.toList):zt P cs σ' o=zt P cs σ o:=by
 unfold zt
 split
 ·rename_i f args argTypes ho
  rw[hs f (by rw[ho];simp[Op.operands,Call.operands])]
 ·rfl
theorem wv{d:Option Bool}{cs:lD}{ops:Array Oper}{p:Nat}{e:fD}(he:iO d P cs ops σ p o=some e)(uE: ∀t,t∈o.looksAt ops→σ'.tm t=σ.tm t)(qn: ∀id∈e.rd,σ'.hp id=σ.hp id)
  (bf: ∀x∈e.live,σ'.live x.1=σ.live x.1):iO d P cs ops σ' p o=some e:=by
 have hs:eB P σ σ' o.op.operands.toList:=rV fun t ht=>uE t (by
  unfold Oper.looksAt
  exact List.mem_append_left _ (List.mem_filterMap.2 ⟨.tmp t,ht,rfl⟩))
 unfold iO at he⊢
 split at he
 ·exact Fx he uE qn bf
 ·rename_i b y hy
  split at he
  ·cases he
  ·rename_i hf
   rw[if_neg hf]
   split at he
   ·simp only[br]at he⊢
    obtain⟨x,hx,rfl⟩:=he
    refine⟨x,?_,rfl⟩
    obtain⟨h1,hc⟩:=Rk hx
    unfold nnX
    rw[nX hs h1 (fun id cU=>by rw[hc.2.2.2.1]at cU;simp at cU) (fun j g hm=>by rw[hc.2.2.2.2]at hm;simp at hm)]
    simp only
    rw[if_pos hc]
   ·cases he
 ·split at he
  ·cases he
  ·rename_i hf
   rw[if_neg hf,ja uE]
   split at he
   ·rename_i pc hg
    split at he
    ·rename_i x hx
     injection he with he;subst he
     have:fJ P cs σ' pc o=some x:=by
      refine nX hs hx qn (fun j g hm=>bf (g,none) ?_)
      exact List.mem_append_left _ (List.mem_append_left _ (List.mem_filterMap.2 ⟨(j,some g),hm,rfl⟩))
     simp only[this]
    ·cases he
   ·cases he
 ·rw[ja uE,CD hs]
  exact he
end
end Go.bZ
