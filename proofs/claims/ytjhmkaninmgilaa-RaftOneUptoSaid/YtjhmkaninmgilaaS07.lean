/- Part 7 of the proof of RaftOne; no condition. -/
import Derived.Test.YtjhmkaninmgilaaS06
import Derived.Test.YtjhmkaninmgilaaS05
set_option linter.unusedVariables false
set_option linter.unusedSimpArgs false
set_option maxHeartbeats 4000000
open Go.IntKind (i64)
namespace Go.Proofs.Ytjhmkaninmgilaa
open Go Go.RowKit Go.dV Go.Proofs
theorem aww:bh Try.prog 65 aku (pre 65) (cF 65):=by
 refine zO OS Try.func65 (v:=aaw) ?_
 intro ds h hp
 obtain⟨_,_,rfl,⟨f,rfl,hf⟩,_,_,rfl,⟨m,rfl,hm⟩,_,_,rfl,⟨i,rfl,hi⟩,_,_,rfl,⟨t,rfl,ht⟩,_,_,rfl,⟨l,rfl,hlen,hL⟩,rfl⟩:=h
 have hR:cF 65 [.int .i64 f,.int .i64 m,.int .i64 i,.int .i64 t,.list l] = .fx [.list (iS i l f m),yk i t l] :=rfl
 simp[aaw,fG,eE,eC,cM,eD,dE,fF,fI,fH,gJ,den,U.den,B.den,fU,aU,db,eH,eF,eG,fV,bZ,cU,pre,hR,yk]
 replace hp:okB i t=true:=hp
 rw[xd]at hf hm
 obtain⟨k1,k2,_,_⟩:=ma.1 hp
 have qq:=hlen.1
 have hb:=hlen.2
 rw[qj]at hb
 simp only[maxLen,MX]at qq k2⊢
 refine⟨?_,fun h1 h2=> ?_⟩
 ·intro h
  unfold iS
  by_cases hc:m<1∨f≤i
  ·rw[if_pos hc]
  ·rw[if_neg hc]
   have h':=h.resolve_left hc
   rw[wrap64 (n:=f-i) (by omega) (by omega),wrap64 (by omega) (by omega)]at h'
   rw[ck (by omega)];simp
 ·rw[wrap64 (n:=f-i) (by omega) (by omega),wrap64 (n:=f-i-1) (by omega) (by omega)]
  intro h3
  rw[wrap64 (n:=(l.length:Int)-(f-i-1)) (by omega) (by omega)]
  have es:iS i l f m=(l.drop (f-i-1).toNat).take m.toNat:=by unfold iS;rw[if_neg (by omega)]
  refine⟨fun h4=> ?_,fun h4=> ?_⟩
  ·rw[wrap64 (n:=f-i-1+m) (by omega) (by omega)]
   refine⟨by omega,⟨by omega,aR (az 320 (by omega)) hb⟩,?_⟩
   rw[es,List.drop_take];congr 1;omega
  ·refine⟨by omega,⟨by omega,aR (az 320 (by omega)) hb⟩,?_⟩
   rw[es,eM (by rw[bF];omega)]
theorem VM:kr Try.prog pre cF aay:=aL aww OS
theorem c53:bh Try.prog 53 s53 (pre 53) (cF 53):=by
 refine zO VM Try.func53 (v:=atx) ?_
 intro ds h hp
 have hs:=h
 obtain⟨s,rfl⟩:=gM h
 refine zH qx jv dR (y:=ij s) zK
theorem acm:kr Try.prog pre cF akb:=aL c53 VM
theorem c35:bh Try.prog 35 s35 (pre 35) (cF 35):=by
 refine zO acm Try.func35 (v:=aty) ?_
 intro ds h hp
 have hs:=h
 obtain⟨s,rfl⟩:=gM h
 refine zH qx jv dR (y:=nF s) zK
theorem acD:kr Try.prog pre cF akj:=aL c35 acm
def auz(x:D)(s:RS):Prop:=
 (true=true→((s.msgs++([aN 46 x [(1,D.int .i64 s.id),(3,D.int .i64 s.term)]] :List D)):List D).length≤maxLen∧((s.msgs++([aN 46 x [(1,D.int .i64 s.id),(3,D.int .i64 s.term)]] :List D)):List D).length*536≤140737488355328)∧(
 True)
theorem YZ(x:D)(s:RS)(hs:dK (.dJ fq) (encS s))(h:Ok s 1):auz x s:=by
 refine⟨fun _=> ?_,trivial⟩
 have:=h.nm
 simp only[an,bG,maxLen]
 omega
theorem c64:bh Try.prog 64 s64 (pre 64) (cF 64):=by
 refine zO acD Try.func64 (v:=atv) ?_
 intro ds h hp
 obtain⟨x,_,rfl,hx,h1⟩:=aj.1 h
 have hs:=h1
 obtain⟨s,rfl⟩:=gM h1
 refine zH qx jv dR (y:=fT x s) (zE (YZ x s hs hp))
theorem ace:kr Try.prog pre cF adU:=aL c64 acD
theorem c41:bh Try.prog 41 s41 (pre 41) (cF 41):=by
 refine zO ace Try.func41 (v:=ajF) ?_
 intro ds h hp
 obtain⟨_,_,rfl,⟨x,rfl,hx⟩,h1⟩:=aj.1 h
 obtain⟨_,_,rfl,⟨y,rfl,hy⟩,h2⟩:=aj.1 h1
 have hs:=h2
 obtain⟨s,rfl⟩:=gM h2
 refine zH qx jv dR (y:=l6 x y s) zK
theorem acy:kr Try.prog pre cF akh:=aL c41 ace
theorem c34:bh Try.prog 34 s34 (pre 34) (cF 34):=by
 refine zO acy Try.func34 (v:=atz) ?_
 intro ds h hp
 have hs:=h
 obtain⟨s,rfl⟩:=gM h
 refine zH Yx JP (.top,dR) (y:=fj s) zK
theorem acE:kr Try.prog pre cF ad5:=aL c34 acy
def auJ(x:D)(s:RS):Prop:=
 ((true=true→fN s.li s.lt s.le=true∧s.le.length<4294967296))∧(
 let AR:=X8 s.li s.lt s.le s.term (aN 27 x [])
 (((AR.1.2==0)=true→
  (True)∧(
  let s80:=ij ({s with li:=AR.2.1,lt:=AR.2.2.1,le:=AR.2.2.2}:RS)
  (true=true→((s80.dS++([aN 29 AR.1.1 []] :List D)):List D).length≤maxLen∧((s80.dS++([aN 29 AR.1.1 []] :List D)):List D).length*320≤140737488355328)∧(
  True))))∧(True))
theorem Y9(x:D)(s:RS)(hs:dK (.dJ fq) (encS s))(h:Ok s 1):auJ x s:=by
 refine⟨fun _=>⟨h.may,by have:=h.BR;omega⟩,fun _=>⟨trivial,fun _=> ?_,trivial⟩,trivial⟩
 have:=h.ne
 simp only[ij,an,bG,maxLen]
 omega
theorem c39:bh Try.prog 39 s39 (pre 39) (cF 39):=by
 refine zO acE Try.func39 (v:=ajG) ?_
 intro ds h hp
 obtain⟨x,_,rfl,hx,h1⟩:=aj.1 h
 have hs:=h1
 obtain⟨s,rfl⟩:=gM h1
 refine zH aoS OP ((.top,0),dR) (y:=wS x s) (zE (Y9 x s hs hp))
theorem acA:kr Try.prog pre cF ad3:=aL c39 acE
def auM(x:Int)(s:RS):Prop:=
 (((x==0)=true→
  (True)∧(
  let tS:=(iK s.li s.lt s.le)
  ((decide (s.yc≤tS.1)=true→
   (True)∧(
   let pU:=(gp (D.agg [D.list s.sv,D.list s.sl]))
   (true=true→((decide (0≤(bT (bV 0 s.BP) (s.bk.length:Int))))&&((decide ((bT (bV 0 s.BP) (s.bk.length:Int))≤(bT (i64.wrap ((bT (bV 0 s.BP) (s.bk.length:Int))+256)) (s.bk.length:Int))))&&(decide ((bT (i64.wrap ((bT (bV 0 s.BP) (s.bk.length:Int))+256)) (s.bk.length:Int))≤(s.bk.length:Int)))))=true)∧(
   (True)∧(
   let uv:=(pe ((s.bk.take ((bT (i64.wrap ((bT (bV 0 s.BP) (s.bk.length:Int))+256)) (s.bk.length:Int)):Int).toNat).drop ((bT (bV 0 s.BP) (s.bk.length:Int)):Int).toNat))
   ((true=true→Ok ({s with BP:=(bT (bV 0 s.BP) (s.bk.length:Int))}:RS) 1))∧(
   True))))))∧((decide (s.yc≤tS.1)=false→
   ((true=true→fN s.li s.lt s.le=true))∧(
   let CE:=(jM s.li s.lt s.le (i64.wrap (s.yc-1)))
   ((true=true→okB s.li s.lt=true))∧(
   let uw:=fk s.li s.lt s.le s.yc 8
   ((true=true→Ok s 1))∧(
   True))))))))∧(((x==0)=false→
  (((x==1)=true→
   (True)∧(
   let tS:=(iK s.li s.lt s.le)
   ((decide (s.xu≤tS.1)=true→
    (True)∧(
    let pU:=(gp (D.agg [D.list s.sv,D.list s.sl]))
    (true=true→((decide (0≤(bT (bV 0 s.BO) (s.bk.length:Int))))&&((decide ((bT (bV 0 s.BO) (s.bk.length:Int))≤(bT (i64.wrap ((bT (bV 0 s.BO) (s.bk.length:Int))+256)) (s.bk.length:Int))))&&(decide ((bT (i64.wrap ((bT (bV 0 s.BO) (s.bk.length:Int))+256)) (s.bk.length:Int))≤(s.bk.length:Int)))))=true)∧(
    (True)∧(
    let uv:=(pe ((s.bk.take ((bT (i64.wrap ((bT (bV 0 s.BO) (s.bk.length:Int))+256)) (s.bk.length:Int)):Int).toNat).drop ((bT (bV 0 s.BO) (s.bk.length:Int)):Int).toNat))
    ((true=true→Ok ({s with BO:=(bT (bV 0 s.BO) (s.bk.length:Int))}:RS) 1))∧(
    True))))))∧((decide (s.xu≤tS.1)=false→
    ((true=true→fN s.li s.lt s.le=true))∧(
    let CE:=(jM s.li s.lt s.le (i64.wrap (s.xu-1)))
    ((true=true→okB s.li s.lt=true))∧(
    let uw:=fk s.li s.lt s.le s.xu 8
    ((true=true→Ok s 1))∧(
    True))))))))∧(((x==1)=false→
   (((x==2)=true→
    (True)∧(
    let tS:=(iK s.li s.lt s.le)
    ((decide (s.xr≤tS.1)=true→
     (True)∧(
     let pU:=(gp (D.agg [D.list s.sv,D.list s.sl]))
     (true=true→((decide (0≤(bT (bV 0 s.BM) (s.bk.length:Int))))&&((decide ((bT (bV 0 s.BM) (s.bk.length:Int))≤(bT (i64.wrap ((bT (bV 0 s.BM) (s.bk.length:Int))+256)) (s.bk.length:Int))))&&(decide ((bT (i64.wrap ((bT (bV 0 s.BM) (s.bk.length:Int))+256)) (s.bk.length:Int))≤(s.bk.length:Int)))))=true)∧(
     (True)∧(
     let uv:=(pe ((s.bk.take ((bT (i64.wrap ((bT (bV 0 s.BM) (s.bk.length:Int))+256)) (s.bk.length:Int)):Int).toNat).drop ((bT (bV 0 s.BM) (s.bk.length:Int)):Int).toNat))
     ((true=true→Ok ({s with BM:=(bT (bV 0 s.BM) (s.bk.length:Int))}:RS) 1))∧(
     True))))))∧((decide (s.xr≤tS.1)=false→
     ((true=true→fN s.li s.lt s.le=true))∧(
     let CE:=(jM s.li s.lt s.le (i64.wrap (s.xr-1)))
     ((true=true→okB s.li s.lt=true))∧(
     let uw:=fk s.li s.lt s.le s.xr 8
     ((true=true→Ok s 1))∧(
     True))))))))∧(((x==2)=false→
    (((x==3)=true→
     (True)∧(
     let tS:=(iK s.li s.lt s.le)
     ((decide (s.xq≤tS.1)=true→
      (True)∧(
      let pU:=(gp (D.agg [D.list s.sv,D.list s.sl]))
      (true=true→((decide (0≤(bT (bV 0 s.BK) (s.bk.length:Int))))&&((decide ((bT (bV 0 s.BK) (s.bk.length:Int))≤(bT (i64.wrap ((bT (bV 0 s.BK) (s.bk.length:Int))+256)) (s.bk.length:Int))))&&(decide ((bT (i64.wrap ((bT (bV 0 s.BK) (s.bk.length:Int))+256)) (s.bk.length:Int))≤(s.bk.length:Int)))))=true)∧(
      (True)∧(
      let uv:=(pe ((s.bk.take ((bT (i64.wrap ((bT (bV 0 s.BK) (s.bk.length:Int))+256)) (s.bk.length:Int)):Int).toNat).drop ((bT (bV 0 s.BK) (s.bk.length:Int)):Int).toNat))
      ((true=true→Ok ({s with BK:=(bT (bV 0 s.BK) (s.bk.length:Int))}:RS) 1))∧(
      True))))))∧((decide (s.xq≤tS.1)=false→
      ((true=true→fN s.li s.lt s.le=true))∧(
      let CE:=(jM s.li s.lt s.le (i64.wrap (s.xq-1)))
      ((true=true→okB s.li s.lt=true))∧(
      let uw:=fk s.li s.lt s.le s.xq 8
      ((true=true→Ok s 1))∧(
      True))))))))∧(((x==3)=false→
     (((x==4)=true→
      (True)∧(
      let tS:=(iK s.li s.lt s.le)
      ((decide (s.xp≤tS.1)=true→
       (True)∧(
       let pU:=(gp (D.agg [D.list s.sv,D.list s.sl]))
       (true=true→((decide (0≤(bT (bV 0 s.BI) (s.bk.length:Int))))&&((decide ((bT (bV 0 s.BI) (s.bk.length:Int))≤(bT (i64.wrap ((bT (bV 0 s.BI) (s.bk.length:Int))+256)) (s.bk.length:Int))))&&(decide ((bT (i64.wrap ((bT (bV 0 s.BI) (s.bk.length:Int))+256)) (s.bk.length:Int))≤(s.bk.length:Int)))))=true)∧(
       (True)∧(
       let uv:=(pe ((s.bk.take ((bT (i64.wrap ((bT (bV 0 s.BI) (s.bk.length:Int))+256)) (s.bk.length:Int)):Int).toNat).drop ((bT (bV 0 s.BI) (s.bk.length:Int)):Int).toNat))
       ((true=true→Ok ({s with BI:=(bT (bV 0 s.BI) (s.bk.length:Int))}:RS) 1))∧(
       True))))))∧((decide (s.xp≤tS.1)=false→
       ((true=true→fN s.li s.lt s.le=true))∧(
       let CE:=(jM s.li s.lt s.le (i64.wrap (s.xp-1)))
       ((true=true→okB s.li s.lt=true))∧(
       let uw:=fk s.li s.lt s.le s.xp 8
       ((true=true→Ok s 1))∧(
       True))))))))∧(((x==4)=false→
      (((x==5)=true→
       (True)∧(
       let tS:=(iK s.li s.lt s.le)
       ((decide (s.xn≤tS.1)=true→
        (True)∧(
        let pU:=(gp (D.agg [D.list s.sv,D.list s.sl]))
        (true=true→((decide (0≤(bT (bV 0 s.BG) (s.bk.length:Int))))&&((decide ((bT (bV 0 s.BG) (s.bk.length:Int))≤(bT (i64.wrap ((bT (bV 0 s.BG) (s.bk.length:Int))+256)) (s.bk.length:Int))))&&(decide ((bT (i64.wrap ((bT (bV 0 s.BG) (s.bk.length:Int))+256)) (s.bk.length:Int))≤(s.bk.length:Int)))))=true)∧(
        (True)∧(
        let uv:=(pe ((s.bk.take ((bT (i64.wrap ((bT (bV 0 s.BG) (s.bk.length:Int))+256)) (s.bk.length:Int)):Int).toNat).drop ((bT (bV 0 s.BG) (s.bk.length:Int)):Int).toNat))
        ((true=true→Ok ({s with BG:=(bT (bV 0 s.BG) (s.bk.length:Int))}:RS) 1))∧(
        True))))))∧((decide (s.xn≤tS.1)=false→
        ((true=true→fN s.li s.lt s.le=true))∧(
        let CE:=(jM s.li s.lt s.le (i64.wrap (s.xn-1)))
        ((true=true→okB s.li s.lt=true))∧(
        let uw:=fk s.li s.lt s.le s.xn 8
        ((true=true→Ok s 1))∧(
        True))))))))∧(((x==5)=false→
       False))))))))))))
theorem Zc(x:Int)(s:RS)(hx:oY .i64 x)(hs:dK (.dJ fq) (encS s))(h:Ok s 1∧0≤x∧x≤5):auM x s:=by
 have hd:=QD hs
 obtain⟨h,h0,h5⟩:=h
 (repeat' (first|exact trivial|apply And.intro|intro _))
 all_goals first
  |exact V9 _ _ hd
  |exact h.may
  |exact h.SJ
  |exact h
  |exact h.same ig
  |(simp only[beq_eq_false_iff_ne,ne_eq]at*;omega)
theorem c33:bh Try.prog 33 s33 (pre 33) (cF 33):=by
 refine jk (given:=[(0,{drop:=[4006001]})]) mix acA Try.func33 rfl (by kernel_rfl) (v:=ajJ) (by kernel_rfl) ?_
 intro ds h hp
 obtain⟨_,_,rfl,⟨x,rfl,hx⟩,h1⟩:=aj.1 h
 have hs:=h1
 obtain⟨s,rfl⟩:=gM h1
 refine zH qx jv dR (y:=gE x s) (zE (Zc x s hx hs hp))
theorem acF:kr Try.prog pre cF akk:=aL c33 acA
theorem c84:bh Try.prog 84 I9 (pre 84) (cF 84):=by
 refine zF acF Try.func84 (v:=ats) ?_
 intro ds h hp
 obtain⟨x,_,rfl,hx,rfl⟩:=h
 refine zH D.gV D.bool false (y:=rm x) zK
theorem abV:kr Try.prog pre cF ajT:=aL c84 acF
theorem ao0:bh Try.prog 80 aaE (pre 80) (cF 80):=by
 refine zF abV Try.func80 (v:=UO) ?_
 intro ds h hp
 obtain⟨_,_,rfl,⟨l,rfl,hlen,hL⟩,_,_,rfl,⟨_,rfl,rfl⟩,rfl⟩:=h
 have qq:=hlen.1
 simp only[maxLen]at qq
 have hR:cF 80 [.list l,.fn 84 []] = .int .i64 (findF (Ah (.fn 84 [])) l 0):=rfl
 rw[hR]
 have hc: ∀x,cF 84 [x] = .bool (Ah (.fn 84 []) x):=fun _=>rfl
 simp[UO,fG,eE,eC,cM,eD,dE,fF,fI,fH,gJ,den,U.den,B.den,fU,aU,db,eH,eF,eG,fV,bZ,cU,pre,hc]
 obtain⟨J,zS⟩: ∃J:List D→Prop,∀xs,J xs↔ ∃n:Nat,∃y:Int,xs=[.int .i64 y,.int .i64 n] ∧n≤l.length∧findF (Ah (.fn 84 [])) (l.drop n) n=findF (Ah (.fn 84 [])) l 0:=⟨_,fun _=>dD⟩
 obtain⟨M,E6⟩: ∃M:List D→Nat,∀xs,M xs=l.length-((xs.getD 1 .top).aq).toNat:=⟨_,fun _=>rfl⟩
 refine m7.intro J M ((zS _).2 ⟨0,0,rfl,bf _,by simp⟩) ?_
 intro xs tF hJ
 obtain⟨n,y,rfl,hle,ss⟩:=(zS _).1 hJ
 clear hJ tF
 simp[fG,eE,eC,cM,eD,dE,fF,fI,fH,gJ,den,U.den,B.den,fU,aU,db,eH,eF,eG,fV,bZ,cU]
 refine⟨fun bP=> ?_,fun ou=> ?_⟩
 ·have hx:l[n]? =some l[n] :=aW bP
  have hd:l.drop n=l[n] ::l.drop (n+1):=cY bP
  rw[hd]at ss
  simp only[findF]at ss
  rw[hx,bL]
  refine⟨by omega,fun hb=> ?_,fun hb=> ?_⟩
  ·rw[if_pos hb]at ss;exact ss
  ·rw[wrap64 (by omega) (by omega)]
   refine⟨(zS _).2 ⟨n+1,y,by simp,bP,?_⟩,?_⟩
   ·rw[if_neg (by rw[hb];simp)]at ss
    rw[←ss];simp
   ·rw[E6,E6];simp[bZ];omega
 ·have:l.drop n=[] :=ck ou
  rw[this]at ss
  exact ss
theorem Pq:kr Try.prog pre cF UU:=aL ao0 abV
theorem ao2:bh Try.prog 59 aaF (pre 59) (cF 59):=by
 refine zF Pq Try.func59 (v:=UQ) ?_
 intro ds h hp
 obtain⟨_,_,rfl,⟨l,rfl,hlen,hL⟩,_,_,rfl,⟨_,rfl,rfl⟩,rfl⟩:=h
 have hR:cF 59 [.list l,.fn 84 []] = .bool (ni l (.fn 84 [])):=rfl
 have hI:cF 80 [.list l,.fn 84 []] = .int .i64 (findF (Ah (.fn 84 [])) l 0):=rfl
 rw[hR]
 simp[UQ,fG,eE,eC,cM,eD,dE,fF,fI,fH,gJ,den,U.den,B.den,fU,aU,db,eH,eF,eG,fV,bZ,cU,pre,hI]
 rw[dB,bQ]
 exact(AK _ l 0 (cA 0)).symm
theorem Ps:kr Try.prog pre cF Mn:=aL ao2 Pq
def auu(x:Int)(s:RS):Prop:=
 (True)∧((decide (x≤s.aZ)=false→
  ((true=true→okB s.li s.lt=true))∧(
  let x77:=fk s.li s.lt s.le (i64.wrap (s.aZ+1)) (i64.wrap (x-s.aZ))
  (true=true→((s.cb++x77):List D).length≤maxLen∧((s.cb++x77):List D).length*320≤140737488355328)∧(
  True))))
theorem YV(x:Int)(s:RS)(hx:oY .i64 x)(hs:dK (.dJ fq) (encS s))(h:Ok s 1):auu x s:=by
 have h3:=vZ (i:=s.li) (f:=i64.wrap (s.aZ+1)) (m:=i64.wrap (x-s.aZ)) (l:=s.le)
 have h1:=h.nc
 have h2:=h.BR
 refine⟨trivial,fun _=>⟨fun _=>h.SJ,fun _=> ?_,trivial⟩⟩
 show(s.cb++iS _ _ _ _).length≤maxLen∧(s.cb++iS _ _ _ _).length*320≤_
 rw[an]
 simp only[maxLen]
 omega
theorem c73:bh Try.prog 73 s73 (pre 73) (cF 73):=by
 refine zO Ps Try.func73 (v:=ajj) ?_
 intro ds h hp
 obtain⟨_,_,rfl,⟨x,rfl,hx⟩,h1⟩:=aj.1 h
 have hs:=h1
 obtain⟨s,rfl⟩:=gM h1
 refine zH abT OQ (false,dR) (y:=jS x s) (zE (YV x s hx hs hp))
theorem ab4:kr Try.prog pre cF adQ:=aL c73 Ps
def auI(s:RS):Prop:=
 ((true=true→fN s.li s.lt s.le=true))∧(
 let jm:=(gn s.li s.lt s.le)
 VC.Jk cF pre jv (fun _ _ l=>rX s jm (l.getD 0 .top).aV (l.getD 1 .top).aq) [] (VC.lp 69 adJ) (fU (fun i=>([] ++encS s).getD i .top) 58 (D.fx [D.int .i64 jm.1,D.int .i64 jm.2])))
def anK(s:RS)(jm:Int×Int)(i69:List D)(qA:Int):Prop:=
 ((decide (qA<((([D.int .i64 0,D.int .i64 0,D.int .i64 0,D.int .i64 0,D.int .i64 0] :List D):List D).length:Int))=true→
  (((qA==0)=true→
   (true=true→((decide (0≤0))&&(decide (0<((i69:List D).length:Int))))=true)∧(
   True)))∧(((qA==0)=false→
   (((qA==1)=true→
    (true=true→((decide (0≤1))&&(decide (1<((i69:List D).length:Int))))=true)∧(
    True)))∧(((qA==1)=false→
    (((qA==2)=true→
     (true=true→((decide (0≤2))&&(decide (2<((i69:List D).length:Int))))=true)∧(
     True)))∧(((qA==2)=false→
     (((qA==3)=true→
      (true=true→((decide (0≤3))&&(decide (3<((i69:List D).length:Int))))=true)∧(
      True)))∧(((qA==3)=false→
      (((qA==4)=true→
       (true=true→((decide (0≤4))&&(decide (4<((i69:List D).length:Int))))=true)∧(
       True)))∧(((qA==4)=false→
       False))))))))))))∧((decide (qA<((([D.int .i64 0,D.int .i64 0,D.int .i64 0,D.int .i64 0,D.int .i64 0] :List D):List D).length:Int))=false→
  (true=true→((decide (0≤(i64.wrap (s.id-1))))&&(decide ((i64.wrap (s.id-1))<((i69:List D).length:Int))))=true)∧(
  ((true=true→Ok s 0))∧(
  let x82:=(fO s)
  (True)∧(
  let ud:=(px (aN 2 x82 []) (D.list ((i69.take ((i64.wrap (s.id-1)):Int).toNat)++(D.int .i64 jm.1::((i69.drop ((i64.wrap (s.id-1)):Int).toNat).drop (1:Int).toNat)))))
  ((true=true→fN s.li s.lt s.le=true))∧(
  let Xp:=(jM s.li s.lt s.le ud)
  (True)∧(((((decide (ud≤s.aZ))||(Xp.2 !=0))||(Xp.1 !=s.term))=false→
   ((true=true→Ok s 1))∧(
   let mi:=jS ud s
   ((((mi.1==true)&&true)=true→Ok mi.2 0))∧(
   True))))))))))
def AE(s:RS)(jm:Int×Int)(i69:List D)(qA:Int):(List D×Int)⊕(RS):=
 if decide (qA<((([D.int .i64 0,D.int .i64 0,D.int .i64 0,D.int .i64 0,D.int .i64 0] :List D):List D).length:Int)) then(
  if(qA==0) then(
   .inl (((i69.take (0:Int).toNat)++(D.int .i64 s.Cf::((i69.drop (0:Int).toNat).drop (1:Int).toNat))),(i64.wrap (qA+1))))
  else(
   if(qA==1) then(
    .inl (((i69.take (1:Int).toNat)++(D.int .i64 s.BN::((i69.drop (1:Int).toNat).drop (1:Int).toNat))),(i64.wrap (qA+1))))
   else(
    if(qA==2) then(
     .inl (((i69.take (2:Int).toNat)++(D.int .i64 s.BL::((i69.drop (2:Int).toNat).drop (1:Int).toNat))),(i64.wrap (qA+1))))
    else(
     if(qA==3) then(
      .inl (((i69.take (3:Int).toNat)++(D.int .i64 s.BJ::((i69.drop (3:Int).toNat).drop (1:Int).toNat))),(i64.wrap (qA+1))))
     else(
      if(qA==4) then(
       .inl (((i69.take (4:Int).toNat)++(D.int .i64 s.BH::((i69.drop (4:Int).toNat).drop (1:Int).toNat))),(i64.wrap (qA+1))))
      else(
       .inr dR))))))
 else(
  let x82:=(fO s)
  let ud:=(px (aN 2 x82 []) (D.list ((i69.take ((i64.wrap (s.id-1)):Int).toNat)++(D.int .i64 jm.1::((i69.drop ((i64.wrap (s.id-1)):Int).toNat).drop (1:Int).toNat)))))
  let Xp:=(jM s.li s.lt s.le ud)
  if(((decide (ud≤s.aZ))||(Xp.2 !=0))||(Xp.1 !=s.term)) then(
   .inr (s))
  else(
   let mi:=jS ud s
   let adC:=(fO mi.2)
   let adB:=(nQ (aN 2 adC []) mi.2.id)
   if(mi.1&&(!adB)) then(
    let aem:=l6 mi.2.term 0 mi.2
    let ael:=nF aem
    .inr (ael))
   else(
    .inr (mi.2))))
theorem II(s:RS)(jm:Int×Int)(i69:List D)(qA:Int):AE s jm i69 qA=je s jm i69 qA:=by
 unfold AE je nT
 dsimp only
 repeat (first|rfl|split)
theorem Y8(s:RS)(hs:dK (.dJ fq) (encS s))(h:Ok s 1):auI s:=by
 refine⟨fun _=>h.may,?_⟩
 intro jm
 clear_value jm
 refine VC.kH 69 (by kernel_rfl) ?_
 refine VC.jc (Φ:=cF) (Pre:=pre) (triv:=triv) (v0:=69) (decL:=fun l=>((l.getD 0 .top).aV,(l.getD 1 .top).aq)) (encL:=fun a:List D×Int=>([D.list a.1,D.int .i64 a.2])) (dec:=qx) (enc:=jv) (lp:=fun _ _ _ _=>dR) (bad:=.inr dR) (bd:=dR) (by kernel_rfl) (fun a:List D×Int=>je s jm a.1 a.2) (fun a:List D×Int=>a.1.length=5∧0≤a.2∧a.2≤5) (fun a:List D×Int=>nS s jm a.1 a.2) ([D.int .i64 0,D.int .i64 0,D.int .i64 0,D.int .i64 0,D.int .i64 0],0) l3 (by kernel_rfl) ?Z2 (fun a=>rfl) ?R5 (by kernel_rfl) (fun a ha=>Eq.trans (b:=AE s jm a.1 a.2) (by kernel_rfl) (II s jm a.1 a.2)) (fun a=>by kernel_rfl) (fun a=>by kernel_rfl) (fun a ha jA=>zE (β:=anK s jm a.1 a.2) ?C2) (by kernel_rfl)
 ·exact⟨rfl,by decide,by decide⟩
 ·rintro⟨l,j⟩ ⟨hl,h0,h5⟩
  simp only at hl h0 h5
  unfold je
  dsimp only
  have hj:j=0∨j=1∨j=2∨j=3∨j=4∨j=5:=by omega
  have hL: ∀(x:D) (n:Int),n.toNat<5→(l.take n.toNat++(x::(l.drop n.toNat).drop (1:Int).toNat)).length=5:=by
   intro x n hn
   simp only[an,bj,bM,bF,hl]
   omega
  rcases hj with rfl|rfl|rfl|rfl|rfl|rfl
  ·rw[if_pos (by rfl),if_pos (by rfl)];refine⟨⟨hL _ 0 (by decide),?_,?_⟩,?_⟩<;>first|(dsimp only;decide)|(unfold nS;dsimp only;decide)
  ·rw[if_pos (by rfl),if_neg (by simp),if_pos (by rfl)];refine⟨⟨hL _ 1 (by decide),?_,?_⟩,?_⟩<;>first|(dsimp only;decide)|(unfold nS;dsimp only;decide)
  ·rw[if_pos (by rfl),if_neg (by simp),if_neg (by simp),if_pos (by rfl)];refine⟨⟨hL _ 2 (by decide),?_,?_⟩,?_⟩<;>first|(dsimp only;decide)|(unfold nS;dsimp only;decide)
  ·rw[if_pos (by rfl),if_neg (by simp),if_neg (by simp),if_neg (by simp),if_pos (by rfl)];refine⟨⟨hL _ 3 (by decide),?_,?_⟩,?_⟩<;>first|(dsimp only;decide)|(unfold nS;dsimp only;decide)
  ·rw[if_pos (by rfl),if_neg (by simp),if_neg (by simp),if_neg (by simp),if_neg (by simp),if_pos (by rfl)];refine⟨⟨hL _ 4 (by decide),?_,?_⟩,?_⟩<;>first|(dsimp only;decide)|(unfold nS;dsimp only;decide)
  ·rw[if_neg (by simp)];trivial
 ·obtain⟨l,j⟩:=a
  obtain⟨hl,h0,h5⟩:=ha
  simp only at hl h0 h5
  have hb: ∀n:Int,0≤n→n<5→(decide (0≤n)&&decide (n<((l:List D).length:Int)))=true:=by
   intro n h1 h2
   rw[hl,bc,bQ,bQ]
   exact⟨h1,h2⟩
  have i1:=h.G9
  have i5:=h.G8
  have hw:IntKind.wrap .i64 (s.id-1)=s.id-1:=wrap64 (by omega) (by omega)
  refine⟨fun bP=> ?_,fun _=>⟨fun _=> ?_,fun _=>h.le (by omega),?_⟩⟩
  ·(repeat' (first|exact trivial|apply And.intro|intro _))
   all_goals first
    |(rw[hl];rfl)
    |(simp only[beq_eq_false_iff_ne,ne_eq,bQ,bM,gq]at*;omega)
  ·show(decide (0≤IntKind.wrap .i64 (s.id-1))&&decide (IntKind.wrap .i64 (s.id-1)<_))=true
   rw[hw];exact hb _ (by omega) (by omega)
  ·intro x82
   refine⟨trivial,?_⟩
   intro ud
   refine⟨fun _=>h.may,?_⟩
   intro Xp
   refine⟨trivial,fun _=>⟨fun _=>h,?_⟩⟩
   intro mi
   exact⟨fun _=>h.cb,trivial⟩
theorem c40:bh Try.prog 40 s40 (pre 40) (cF 40):=by
 refine jk (given:=[(1000000,{drop:=[18]}),(3,{own:=[(4,3)]}),(5,{drop:=[4005005]})]) mix ab4 Try.func40 rfl (by kernel_rfl) (v:=adJ) (by kernel_rfl) ?_
 intro ds h hp
 have hs:=h
 obtain⟨s,rfl⟩:=gM h
 refine zL qx jv dR (fun _ _ l=>(let jm:=(gn s.li s.lt s.le);rX s jm (l.getD 0 .top).aV (l.getD 1 .top).aq)) (y:=ji s) (zE (Y8 s hs hp))
theorem acz:kr Try.prog pre cF ad2:=aL c40 ab4
def auy(s:RS):Prop:=
 ((true=true→fN s.li s.lt s.le=true))∧(
 let jm:=(gn s.li s.lt s.le)
 VC.Jk cF pre jv (fun _ _ l=>uV jm (l.getD 0 .top).aq (ub (l.drop 1))) [] (VC.lp 89 X1) (fU (fun i=>([] ++encS s).getD i .top) 58 (D.fx [D.int .i64 jm.1,D.int .i64 jm.2])))
def anI(s:RS)(jm:Int×Int)(i89:Int)(t89:RS):Prop:=
 ((decide (i89<6)=true→
  (True)∧(((i89==0)=false→
   (True)∧(((i89==1)=false→
    (True)∧(((i89==2)=false→
     (True)∧(((i89==3)=false→
      (True)∧(((i89==4)=false→
       (True)∧(((i89==5)=false→
        False))))))))))))))∧((decide (i89<6)=false→
  ((true=true→Ok t89 1))∧(
  let uz:=wS (aN 27 JQ [(0,D.int .i64 1)]) t89
  ((true=true→Ok uz.2 0))∧(
  let CS:=(fO uz.2)
  ((true=true→Ok uz.2 0∧gC (aN 2 CS [])=true))∧(
  let kQ:=(iM (aN 2 CS []) uz.2)
  VC.aeI cF pre jv (fun _ _ l=>wo kQ (l.getD 0 .top).aq (ub (l.drop 1))) [] (VC.lp 153 X1) (fU (fU (fU (gJ (fU (fun i=>([] ++encS s).getD i .top) 58 (D.fx [D.int .i64 jm.1,D.int .i64 jm.2])) 89 ([D.int .i64 i89] ++Me t89)) 146 (OP uz)) 149 (CS)) 150 (D.list kQ)))))))
def anH(kQ:List D)(i153:Int)(t153:RS):Prop:=
 ((decide (i153<((kQ:List D).length:Int))=true→
  (true=true→((decide (0≤i153))&&(decide (i153<((kQ:List D).length:Int))))=true)∧(
  ((true=true→Ok t153 1∧(0:Int)≤((((kQ).getD (i153:Int).toNat .top)).aq)∧(((((kQ).getD (i153:Int).toNat .top)).aq):Int)≤5))∧(
  True))))∧((decide (i153<((kQ:List D).length:Int))=false→
  ((true=true→Ok t153 1))∧(
  True)))
theorem YY(s:RS)(hs:dK (.dJ fq) (encS s))(h:Ok s 13):auy s:=by
 refine⟨fun _=>h.may,?_⟩
 intro jm
 clear_value jm
 refine VC.kH 89 (by kernel_rfl) ?_
 refine VC.jc (Φ:=cF) (Pre:=pre) (triv:=triv) (v0:=89) (decL:=fun l=>((l.getD 0 .top).aq,ub (l.drop 1))) (encL:=fun a:Int×RS=>([D.int .i64 a.1] ++Me a.2)) (dec:=qx) (enc:=jv) (lp:=fun a _ _ l=>(let i89:=a.1;let t89:=a.2;let uz:=wS (aN 27 JQ [(0,D.int .i64 1)]) t89;let CS:=(fO uz.2);let kQ:=(iM (aN 2 CS []) uz.2);wo kQ (l.getD 0 .top).aq (ub (l.drop 1)))) (bad:=.inr dR) (bd:=dR) (by kernel_rfl) (fun a:Int×RS=>kD jm a.1 a.2) (fun a:Int×RS=>0≤a.1∧a.1≤6∧Ok a.2 13) (fun a:Int×RS=>ng jm a.1 a.2) (0,{s with role:=2,bR:=s.id,wait:=0,round:=0,reads:=[]}) l3 (by kernel_rfl) ?Z2 (fun a=>rfl) ?R5 (by kernel_rfl) (fun a ha=>by kernel_rfl) (fun a=>by kernel_rfl) (fun a=>by kernel_rfl) (fun a ha jA=>zE (β:=anI s jm a.1 a.2) ?C2) (by kernel_rfl)
 ·exact⟨cA 0,by show(0:Int)≤6;decide,⟨h.may,h.G9,h.G8,h.BR,h.nm,h.ne,h.nc,h.nv,h.cf,h.cs,h.cl,h.tm,h.tx,rfl⟩⟩
 ·rintro⟨j,t⟩ ⟨h0,h5,ht⟩
  simp only at h0 h5 ht
  unfold kD
  dsimp only
  have hj:j=0∨j=1∨j=2∨j=3∨j=4∨j=5∨j=6:=by omega
  rcases hj with rfl|rfl|rfl|rfl|rfl|rfl|rfl
  ·rw[if_pos (by rfl),if_pos (by rfl)];refine⟨⟨?_,?_,ht.same ig⟩,?_⟩<;>first|(dsimp only;decide)|(unfold ng;dsimp only;decide)
  ·rw[if_pos (by rfl),if_neg (by simp),if_pos (by rfl)];refine⟨⟨?_,?_,ht.same ig⟩,?_⟩<;>first|(dsimp only;decide)|(unfold ng;dsimp only;decide)
  ·rw[if_pos (by rfl),if_neg (by simp),if_neg (by simp),if_pos (by rfl)];refine⟨⟨?_,?_,ht.same ig⟩,?_⟩<;>first|(dsimp only;decide)|(unfold ng;dsimp only;decide)
  ·rw[if_pos (by rfl),if_neg (by simp),if_neg (by simp),if_neg (by simp),if_pos (by rfl)];refine⟨⟨?_,?_,ht.same ig⟩,?_⟩<;>first|(dsimp only;decide)|(unfold ng;dsimp only;decide)
  ·rw[if_pos (by rfl),if_neg (by simp),if_neg (by simp),if_neg (by simp),if_neg (by simp),if_pos (by rfl)];refine⟨⟨?_,?_,ht.same ig⟩,?_⟩<;>first|(dsimp only;decide)|(unfold ng;dsimp only;decide)
  ·rw[if_pos (by rfl),if_neg (by simp),if_neg (by simp),if_neg (by simp),if_neg (by simp),if_neg (by simp),if_pos (by rfl)];refine⟨⟨?_,?_,ht.same ig⟩,?_⟩<;>first|(dsimp only;decide)|(unfold ng;dsimp only;decide)
  ·rw[if_neg (by simp)];trivial
 ·obtain⟨j,t⟩:=a
  obtain⟨h0,h5,ht⟩:=ha
  simp only at h0 h5 ht
  refine⟨fun bP=> ?_,fun _=>⟨fun _=>ht.le (by omega),?_⟩⟩
  ·(repeat' (first|exact trivial|apply And.intro|intro _))
   all_goals (simp only[beq_eq_false_iff_ne,ne_eq,bQ]at*;omega)
  ·intro uz
   have hp:Ok uz.2 12:=ht.put (k:=12) (by intro hq;exact absurd hq (by decide))
   clear_value uz
   refine⟨fun _=>hp.le (by omega),?_⟩
   intro CS
   have al3:gC (aN 2 CS [])=true:=mA hp
   clear_value CS
   refine⟨fun _=>⟨hp.le (by omega),al3⟩,?_⟩
   intro kQ
   have abo:=mr (c:=aN 2 CS []) (s:=uz.2) al3
   change kQ.length≤10∧ ∀y∈kQ,1≤y.aq∧y.aq≤5 at abo
   clear_value kQ
   obtain⟨hl,hr⟩:=abo
   have hg: ∀i:Int,0≤i→i<kQ.length→1≤(kQ.getD i.toNat .top).aq∧(kQ.getD i.toNat .top).aq≤5:=by
    intro i h0 h1
    have iJ:i.toNat<kQ.length:=by omega
    rw[av,aW iJ]
    exact hr _ (aX iJ)
   intro J
   refine VC.kH 153 (by kernel_rfl) ?_
   refine VC.jc (Φ:=cF) (Pre:=pre) (triv:=triv) (v0:=153) (decL:=fun l=>((l.getD 0 .top).aq,ub (l.drop 1))) (encL:=fun a:Int×RS=>([D.int .i64 a.1] ++Me a.2)) (dec:=qx) (enc:=jv) (lp:=fun _ _ _ _=>dR) (bad:=.inr dR) (bd:=dR) (by kernel_rfl) (fun a:Int×RS=>pI kQ a.1 a.2) (fun a:Int×RS=>0≤a.1∧a.1≤kQ.length∧Ok a.2 (1+(10-a.1.toNat))) (fun a:Int×RS=>Gr kQ a.1 a.2) (0,uz.2) l3 (by kernel_rfl) ?i0c (fun a=>rfl) ?mf (by kernel_rfl) (fun a ha=>by kernel_rfl) (fun a=>by kernel_rfl) (fun a=>by kernel_rfl) (fun a ha jA=>zE (β:=anH kQ a.1 a.2) ?ae7) (by kernel_rfl)
   ·exact⟨cA 0,gL _,hp.le (by show 1+(10-0)≤_;omega)⟩
   ·rintro⟨i,t⟩ ⟨h1,h2,h3⟩
    simp only at h1 h2 h3
    unfold pI
    by_cases bP:decide (i<(kQ.length:Int))=true
    ·rw[if_pos bP]
     rw[bQ]at bP
     have hw:IntKind.wrap .i64 (i+1)=i+1:=wrap64 (by omega) (by omega)
     dsimp only
     rw[hw]
     obtain⟨g1,g5⟩:=hg i h1 bP
     refine⟨⟨by show 0≤i+1;omega,by show i+1≤_;omega,?_⟩,by show kQ.length-(i+1).toNat<kQ.length-i.toNat;omega⟩
     exact fy.JF (h3.le (by show 1+(10-(i+1).toNat)+1≤_;omega)) (by omega) g5
    ·rw[if_neg bP];trivial
   ·obtain⟨i,t⟩:=a
    obtain⟨h1,h2,h3⟩:=ha
    simp only at h1 h2 h3
    refine⟨fun bP=> ?_,fun _=>⟨fun _=>h3.le (by omega),trivial⟩⟩
    rw[bQ]at bP
    obtain⟨g1,g5⟩:=hg i h1 bP
    refine⟨fun _=> ?_,fun _=>⟨h3.le (by omega),by show 0≤(kQ.getD i.toNat .top).aq;omega,g5⟩,trivial⟩
    rw[bc,bQ,bQ]
    exact⟨h1,bP⟩
theorem c67:bh Try.prog 67 np (pre 67) (cF 67):=by
 refine jk (given:=[(3,{boxes:=B5}),(9,{boxes:=B5}),(5,{drop:=[4006004]})]) mix acz Try.func67 rfl (by kernel_rfl) (v:=X1) (by kernel_rfl) ?_
 intro ds h hp
 have hs:=h
 obtain⟨s,rfl⟩:=gM h
 refine zL qx jv dR (fun _ _ l=>(let jm:=(gn s.li s.lt s.le);uV jm (l.getD 0 .top).aq (ub (l.drop 1)))) (y:=tL s) (zE (YY s hs hp))
theorem aca:kr Try.prog pre cF adS:=aL c67 acz
def auL(x:D)(s:RS):Prop:=
 (True)∧(
 let tB:=ij ({s with term:=(i64.wrap (s.term+1)),vote:=s.id}:RS)
 (True)∧(
 let x97:=(mD (aN 2 x []) (D.list ([D.int .i64 tB.id] :List D)))
 ((x97=true→
  ((true=true→Ok ({tB with role:=1,bR:=0,bJ:=([D.int .i64 tB.id] :List D)}:RS) 13))∧(
  True)))∧((x97=false→
  ((true=true→fN tB.li tB.lt tB.le=true))∧(
  let rK:=(gn tB.li tB.lt tB.le)
  ((true=true→Ok ({tB with role:=1,bR:=0,bJ:=([D.int .i64 tB.id] :List D)}:RS) 0∧gC (aN 2 x [])=true))∧(
  let lO:=(iM (aN 2 x []) ({tB with role:=1,bR:=0,bJ:=([D.int .i64 tB.id] :List D)}:RS))
  VC.Jk cF pre jv (fun _ _ l=>qh x rK lO (l.getD 0 .top).aq (ub (l.drop 1))) [] (VC.lp 113 adK) (fU (fU (fU (fU (fun i=>([x] ++encS s).getD i .top) 74 (jv tB)) 97 (D.bool x97)) 102 (D.fx [D.int .i64 rK.1,D.int .i64 rK.2])) 110 (D.list lO))))))))
def anL(x:D)(rK:Int×Int)(lO:List D)(i113:Int)(t113:RS):Prop:=
 ((decide (i113<((lO:List D).length:Int))=true→
  (true=true→((decide (0≤i113))&&(decide (i113<((lO:List D).length:Int))))=true)∧(
  (True)∧(
  let adA:=(nQ (aN 2 x []) ((((lO).getD (i113:Int).toNat .top)).aq))
  ((adA=true→
   ((true=true→Ok t113 1))∧(
   True)))∧(True)))))∧(True)
theorem Zb(x:D)(s:RS)(hs:dK (.dJ fq) (encS s))(h:Ok s 14∧gC x=true∧s.term<MX):auL x s:=by
 obtain⟨h,hc,ht⟩:=h
 have h0:=h.UY ht
 refine⟨trivial,trivial,fun _=>⟨fun _=>h0.le (by omega),trivial⟩,fun _=>⟨fun _=>h.may,?_⟩⟩
 intro rK
 refine⟨fun _=>⟨h0.le (by omega),hc⟩,?_⟩
 intro lO
 have ayB:lO.length≤10:=(mr (c:=aN 2 x []) hc).1
 clear_value rK lO
 refine VC.kH 113 (by kernel_rfl) ?_
 refine VC.jc (Φ:=cF) (Pre:=pre) (triv:=triv) (v0:=113) (decL:=fun l=>((l.getD 0 .top).aq,ub (l.drop 1))) (encL:=fun a:Int×RS=>([D.int .i64 a.1] ++Me a.2)) (dec:=qx) (enc:=jv) (lp:=fun _ _ _ _=>dR) (bad:=.inr dR) (bd:=dR) (by kernel_rfl) (fun a:Int×RS=>th x rK lO a.1 a.2) (fun a:Int×RS=>0≤a.1∧a.1≤lO.length∧Ok a.2 (1+(10-a.1.toNat))) (fun a:Int×RS=>Eu x rK lO a.1 a.2) (0,{ij ({s with term:=i64.wrap (s.term+1),vote:=s.id}:RS) with role:=1,bR:=0,bJ:=[.int .i64 s.id]}) l3 (by kernel_rfl) ?Z2 (fun a=>rfl) ?R5 (by kernel_rfl) (fun a ha=>by kernel_rfl) (fun a=>by kernel_rfl) (fun a=>by kernel_rfl) (fun a ha jA=>zE (β:=anL x rK lO a.1 a.2) ?C2) (by kernel_rfl)
 ·exact⟨cA 0,gL _,h0.le (by show 1+(10-0)≤_;omega)⟩
 ·rintro⟨i,t⟩ ⟨h1,h2,h3⟩
  simp only at h1 h2 h3
  unfold th
  by_cases bP:decide (i<(lO.length:Int))=true
  ·rw[if_pos bP]
   rw[bQ]at bP
   have hw:IntKind.wrap .i64 (i+1)=i+1:=wrap64 (by omega) (by omega)
   dsimp only
   rw[hw]
   generalize nQ (aN 2 x []) ((lO.getD i.toNat .top).aq)=c
   cases c with
   |true=>
    refine⟨⟨by show 0≤i+1;omega,by show i+1≤_;omega,?_⟩,by show lO.length-(i+1).toNat<lO.length-i.toNat;omega⟩
    exact fy.send (h3.le (by show 1+(10-(i+1).toNat)+1≤_;omega))
   |false=>exact⟨⟨by show 0≤i+1;omega,by show i+1≤_;omega,h3.le (by show 1+(10-(i+1).toNat)≤_;omega)⟩,by show lO.length-(i+1).toNat<lO.length-i.toNat;omega⟩
  ·rw[if_neg bP];trivial
 ·obtain⟨i,t⟩:=a
  obtain⟨h1,h2,h3⟩:=ha
  simp only at h1 h2 h3
  refine⟨fun bP=>⟨fun _=> ?_,trivial,fun _=>⟨fun _=>h3.le (by omega),trivial⟩,trivial⟩,trivial⟩
  rw[bQ]at bP
  rw[bc,bQ,bQ]
  exact⟨h1,bP⟩
theorem c37:bh Try.prog 37 s37 (pre 37) (cF 37):=by
 refine jk (given:=[(8,{boxes:=B5})]) mix aca Try.func37 rfl (by kernel_rfl) (v:=adK) (by kernel_rfl) ?_
 intro ds h hp
 obtain⟨x,_,rfl,hx,h1⟩:=aj.1 h
 have hs:=h1
 obtain⟨s,rfl⟩:=gM h1
 refine zL qx jv dR (fun _ _ l=>(let tB:=ij ({s with term:=(i64.wrap (s.term+1)),vote:=s.id}:RS);let x97:=(mD (aN 2 x []) (D.list ([D.int .i64 tB.id] :List D)));let rK:=(gn tB.li tB.lt tB.le);let lO:=(iM (aN 2 x []) ({tB with role:=1,bR:=0,bJ:=([D.int .i64 tB.id] :List D)}:RS));qh x rK lO (l.getD 0 .top).aq (ub (l.drop 1)))) (y:=rj x s) (zE (Zb x s hs hp))
theorem acB:kr Try.prog pre cF ad4:=aL c37 aca
end Go.Proofs.Ytjhmkaninmgilaa
