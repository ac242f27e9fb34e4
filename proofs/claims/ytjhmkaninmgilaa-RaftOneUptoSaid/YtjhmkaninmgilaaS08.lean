/- Part 8 of the proof of RaftOne; no condition. -/
import Derived.Test.YtjhmkaninmgilaaS07
import Derived.Test.YtjhmkaninmgilaaS05
import Derived.Test.YtjhmkaninmgilaaS04
import Derived.OrdersHeld
import Derived.Deep.LoopGhost
set_option linter.unusedVariables false
set_option linter.unusedSimpArgs false
set_option maxHeartbeats 4000000
open Go.IntKind (i64)
namespace Go.Proofs.Ytjhmkaninmgilaa
open Go Go.RowKit Go.dV Go.Proofs
def auH(x:D)(s:RS):Prop:=
 ((true=true→fN s.li s.lt s.le=true))∧(
 let oX:=(gn s.li s.lt s.le)
 ((((cD 0 x).aq==1)=true→
  ((true=true→Ok s 1))∧(
  True)))∧((((cD 0 x).aq==1)=false→
  ((((cD 0 x).aq==3)=true→
   ((true=true→Ok s 1))∧(
   True)))∧((((cD 0 x).aq==3)=false→
   ((((cD 0 x).aq==5)=true→
    ((true=true→Ok s 1))∧(
    True)))∧(True))))))
theorem Y7(x:D)(s:RS)(hs:dK (.dJ fq) (encS s))(h:Ok s 1):auH x s:=by
 (repeat' (first|exact trivial|apply And.intro|intro _))
 all_goals first|exact h.may|exact h
theorem c42:bh Try.prog 42 s42 (pre 42) (cF 42):=by
 refine zO acB Try.func42 (v:=ajE) ?_
 intro ds h hp
 obtain⟨x,_,rfl,hx,h1⟩:=aj.1 h
 have hs:=h1
 obtain⟨s,rfl⟩:=gM h1
 refine zH qx jv dR (y:=Cr x s) (zE (Y7 x s hs hp))
theorem acx:kr Try.prog pre cF ad0:=aL c42 acB
def auG(x:D)(s:RS):Prop:=
 (((((((s.vote==0)||(s.vote==(cD 1 x).aq))&&(s.role !=2))==true)&&true)=true→fN s.li s.lt s.le=true))∧(
 let x88:=(MT s.li s.lt s.le (cD 4 x).aq (cD 5 x).aq)
 ((((((s.vote==0)||(s.vote==(cD 1 x).aq))&&(s.role !=2))&&x88)=true→
  (((s.vote==0)=true→
   (True)∧(
   let aeo:=ij ({s with vote:=(cD 1 x).aq}:RS)
   (True)∧(
   let aen:=nF aeo
   ((true=true→Ok aen 1))∧(
   True)))))∧(((s.vote==0)=false→
   (True)∧(
   let Xt:=nF s
   ((true=true→Ok Xt 1))∧(
   True))))))∧((((((s.vote==0)||(s.vote==(cD 1 x).aq))&&(s.role !=2))&&x88)=false→
  ((true=true→Ok s 1))∧(
  True))))
theorem Y6(x:D)(s:RS)(hs:dK (.dJ fq) (encS s))(h:Ok s 1):auG x s:=by
 (repeat' (first|exact trivial|apply And.intro|intro _))
 all_goals first|exact h.may|exact h|exact h.same ig
theorem c43:bh Try.prog 43 s43 (pre 43) (cF 43):=by
 refine zO acx Try.func43 (v:=ajD) ?_
 intro ds h hp
 obtain⟨x,_,rfl,hx,h1⟩:=aj.1 h
 have hs:=h1
 obtain⟨s,rfl⟩:=gM h1
 refine zH qx jv dR (y:=Oh x s) (zE (Y6 x s hs hp))
theorem acw:kr Try.prog pre cF adZ:=aL c43 acx
def auF(x:D)(s:RS):Prop:=
 (True)∧((((s.role !=1)||(cD 7 x).gV)=false→
  (true=true→((s.bJ++([(cD 1 x)] :List D)):List D).length≤maxLen∧((s.bJ++([(cD 1 x)] :List D)):List D).length*8≤140737488355328)∧(
  ((true=true→Ok ({s with bJ:=(s.bJ++([(cD 1 x)] :List D))}:RS) 0))∧(
  let Lu:=(fO ({s with bJ:=(s.bJ++([(cD 1 x)] :List D))}:RS))
  (True)∧(
  let x83:=(mD (aN 2 Lu []) (D.list (s.bJ++([(cD 1 x)] :List D))))
  ((x83=true→
   ((true=true→Ok ({s with bJ:=(s.bJ++([(cD 1 x)] :List D))}:RS) 13))∧(
   True)))∧(True))))))
theorem Y5(x:D)(s:RS)(hs:dK (.dJ fq) (encS s))(h:Ok s 15):auF x s:=by
 have hv:=h.nv
 have ho: ∀k,k+1≤15→Ok ({s with bJ:=s.bJ++[cD 1 x]}:RS) k:=fun k hk=>
  have h':=h.le hk
  ⟨h'.may,h'.G9,h'.G8,by have:=h'.BR;show s.le.length+k≤_;omega,by have:=h'.nm;show s.msgs.length+k≤_;omega,by have:=h'.ne;show s.dS.length+k≤_;omega,by have:=h'.nc;have:=Ia k;show s.cb.length+G k≤_;omega,by have:=h'.nv;show(s.bJ++[cD 1 x]).length+k≤_;rw[an,bG];omega,h'.cf,h'.cs,h'.cl,h'.tm,h'.tx,h'.rd⟩
 refine⟨trivial,fun _=>⟨fun _=> ?_,fun _=>ho 0 (by omega),trivial,fun _=>⟨fun _=>ho 13 (by omega),trivial⟩,trivial⟩⟩
 show(s.bJ++[cD 1 x]).length≤maxLen∧(s.bJ++[cD 1 x]).length*8≤_
 rw[an,bG]
 simp only[maxLen]
 omega
theorem c44:bh Try.prog 44 s44 (pre 44) (cF 44):=by
 refine zO acw Try.func44 (v:=ajC) ?_
 intro ds h hp
 obtain⟨x,_,rfl,hx,h1⟩:=aj.1 h
 have hs:=h1
 obtain⟨s,rfl⟩:=gM h1
 refine zH qx jv dR (y:=HJ x s) (zE (Y5 x s hs hp))
theorem acv:kr Try.prog pre cF adY:=aL c44 acw
theorem c75:bh Try.prog 75 ZZ (pre 75) (cF 75):=by
 refine zO acv Try.func75 (v:=ajh) ?_
 intro ds h hp
 obtain⟨x,_,rfl,hx,h1⟩:=aj.1 h
 have hs:=h1
 obtain⟨s,rfl⟩:=gM h1
 refine zH abT OQ (false,dR) (y:=nO x s) zK
theorem ab2:kr Try.prog pre cF ajX:=aL c75 acv
theorem awx:bh Try.prog 65 akv (pre 65) (cF 65):=by
 refine zO ab2 Try.func65 (v:=aax) ?_
 intro ds h hp
 obtain⟨_,_,rfl,⟨f,rfl,hf⟩,_,_,rfl,⟨m,rfl,hm⟩,_,_,rfl,⟨i,rfl,hi⟩,_,_,rfl,⟨t,rfl,ht⟩,_,_,rfl,⟨l,rfl,hlen,hL⟩,rfl⟩:=h
 have hR:cF 65 [.int .i64 f,.int .i64 m,.int .i64 i,.int .i64 t,.list l] = .fx [.list (iS i l f m),yk i t l] :=rfl
 simp[aax,fG,eE,eC,cM,eD,dE,fF,fI,fH,gJ,den,U.den,B.den,fU,aU,db,eH,eF,eG,fV,bZ,cU,pre,hR,yk]
 replace hp:okB i t=true:=hp
 rw[xd]at hf hm
 obtain⟨k1,k2,_,_⟩:=ma.1 hp
 have qq:=hlen.1
 have hb:=hlen.2
 rw[qj]at hb
 simp only[maxLen,MX]at qq k2⊢
 refine⟨?_,fun h1 h2=> ?_⟩
 ·intro h
  unfold iS
  by_cases hc:m<1∨f≤i
  ·rw[if_pos hc]
  ·rw[if_neg hc]
   have h':=h.resolve_left hc
   rw[wrap64 (n:=f-i) (by omega) (by omega),wrap64 (by omega) (by omega)]at h'
   rw[ck (by omega)];simp
 ·rw[wrap64 (n:=f-i) (by omega) (by omega),wrap64 (n:=f-i-1) (by omega) (by omega)]
  intro h3
  rw[wrap64 (n:=(l.length:Int)-(f-i-1)) (by omega) (by omega)]
  have es:iS i l f m=(l.drop (f-i-1).toNat).take m.toNat:=by unfold iS;rw[if_neg (by omega)]
  refine⟨fun h4=> ?_,fun h4=> ?_⟩
  ·rw[wrap64 (n:=f-i-1+m) (by omega) (by omega)]
   refine⟨by omega,⟨by omega,aR (az 320 (by omega)) hb⟩,?_⟩
   rw[es,List.drop_take];congr 1;omega
  ·refine⟨by omega,⟨by omega,aR (az 320 (by omega)) hb⟩,?_⟩
   rw[es,eM (by rw[bF];omega)]
theorem VN:kr Try.prog pre cF Tv:=aL awx ab2
def auE(x:D)(s:RS):Prop:=
 (True)∧(
 let dw:=nO (aN 46 x []) s
 (True)∧(((!dw.1)=false→
  ((decide ((cD 4 x).aq<dw.2.aZ)=true→
   ((true=true→Ok dw.2 1))∧(
   True)))∧((decide ((cD 4 x).aq<dw.2.aZ)=false→
   ((true=true→fN dw.2.li dw.2.lt dw.2.le=true∧dw.2.le.length<4294967296∧(cD 12 x).aV.length<4294967296))∧(
   let pS:=Pa dw.2.li dw.2.lt dw.2.le (cD 4 x).aq (cD 5 x).aq (cD 12 x).aV
   (((!pS.1.2)=true→
    ((true=true→fN pS.2.1 pS.2.2.1 pS.2.2.2=true))∧(
    let x89:=(gn pS.2.1 pS.2.2.1 pS.2.2.2)
    ((true=true→Ok ({dw.2 with li:=pS.2.1,lt:=pS.2.2.1,le:=pS.2.2.2}:RS) 1))∧(
    True))))∧(((!pS.1.2)=false→
    ((decide (pS.1.1>0)=true→
     (True)∧(
     let zJ:=ij ({dw.2 with li:=pS.2.1,lt:=pS.2.2.1,le:=pS.2.2.2}:RS)
     ((true=true→okB zJ.li zJ.lt=true))∧(
     let XZ:=fk zJ.li zJ.lt zJ.le pS.1.1 (i64.wrap ((cD 4 x).aq+(((cD 12 x).aV:List D).length:Int)))
     ((true=true→Ok ({zJ with dS:=XZ}:RS) 1))∧(
     let P1:=jS (bT (cD 6 x).aq (i64.wrap ((cD 4 x).aq+(((cD 12 x).aV:List D).length:Int)))) ({zJ with dS:=XZ}:RS)
     ((true=true→Ok P1.2 1))∧(
     True))))))∧((decide (pS.1.1>0)=false→
     ((true=true→Ok ({dw.2 with li:=pS.2.1,lt:=pS.2.2.1,le:=pS.2.2.2}:RS) 1))∧(
     let Xt:=jS (bT (cD 6 x).aq (i64.wrap ((cD 4 x).aq+(((cD 12 x).aV:List D).length:Int)))) ({dw.2 with li:=pS.2.1,lt:=pS.2.2.1,le:=pS.2.2.2}:RS)
     ((true=true→Ok Xt.2 1))∧(
     True))))))))))))
theorem Y4(x:D)(s:RS)(hs:dK (.dJ fq) (encS s))(h:Ok s (4+(cD 12 x).aV.length)∧(cD 12 x).aV.length≤2147483648∧fm (cD 12 x).aV=true):auE x s:=by
 obtain⟨h,hn,rI⟩:=h
 have h1:Ok (nO (aN 46 x []) s).2 (4+(cD 12 x).aV.length):=h.abG
 refine⟨trivial,?_⟩
 intro dw
 change Ok dw.2 _ at h1
 clear_value dw
 have ha:=fy.accept (k:=4) (pi:=(cD 4 x).aq) (pt:=(cD 5 x).aq) h1 rI
 have h2:=h1.BR
 refine⟨trivial,fun _=>⟨fun _=>⟨fun _=>h1.le (by omega),trivial⟩,fun _=>⟨fun _=>⟨h1.may,by omega,by omega⟩,?_⟩⟩⟩
 (repeat' (first|exact trivial|apply And.intro|intro _))
 all_goals first
  |exact ha.may
  |exact ha.SJ
  |exact ha.le (by omega)
  |exact(fy.dS ha).le (by omega)
  |exact fy.cb ((fy.dS ha).le (by omega))
  |exact fy.cb (ha.le (by omega))
theorem c45:bh Try.prog 45 s45 (pre 45) (cF 45):=by
 refine zO VN Try.func45 (v:=ajB) ?_
 intro ds h hp
 obtain⟨x,_,rfl,hx,h1⟩:=aj.1 h
 have hs:=h1
 obtain⟨s,rfl⟩:=gM h1
 refine zH qx jv dR (y:=Cs x s) (zE (Y4 x s hs hp))
theorem acu:kr Try.prog pre cF adX:=aL c45 VN
def aus(x:D)(s:RS):Prop:=
 ((true=true→Ok s 0))∧(
 let G0:=(fO s)
 VC.Jk cF pre jv (fun _ _ l=>pC x s G0 (l.getD 0 .top).aV (l.getD 1 .top).aq (ub (l.drop 2))) [] (VC.lp 67 adG) (fU (fun i=>([x] ++encS s).getD i .top) 57 (G0)))
def anF(x:D)(s:RS)(G0:D)(i67:List D)(CG:Int)(t67:RS):Prop:=
 ((decide (CG<(s.reads.length:Int))=true→
  (true=true→((decide (0≤CG))&&(decide (CG<(s.reads.length:Int))))=true)∧(
  ((((decide ((cD 8 x).aq≥((cD 2 ((s.reads).getD (CG:Int).toNat .top)).aq)))&&(decide ((cD 8 x).aq≤t67.round)))=true→
   False))∧((((decide ((cD 8 x).aq≥((cD 2 ((s.reads).getD (CG:Int).toNat .top)).aq)))&&(decide ((cD 8 x).aq≤t67.round)))=false→
   (True)∧(
   let XY:=(mD (aN 2 G0 []) (cD 3 ((s.reads).getD (CG:Int).toNat .top)))
   ((XY=true→
    (true=true→((t67.iZ++([aN 2 ((s.reads).getD (CG:Int).toNat .top) []] :List D)):List D).length≤maxLen∧((t67.iZ++([aN 2 ((s.reads).getD (CG:Int).toNat .top) []] :List D)):List D).length*16≤140737488355328)∧(
    True)))∧((XY=false→
    (true=true→((i67++([aN 4 ((s.reads).getD (CG:Int).toNat .top) []] :List D)):List D).length≤maxLen∧((i67++([aN 4 ((s.reads).getD (CG:Int).toNat .top) []] :List D)):List D).length*48≤140737488355328)∧(
    True)))))))))∧(True)
theorem YT(x:D)(s:RS)(hs:dK (.dJ fq) (encS s))(h:Ok s 0):aus x s:=by
 refine⟨fun _=>h,?_⟩
 intro G0
 clear_value G0
 have hr:=h.rd
 refine VC.kH 67 (by kernel_rfl) ?_
 refine VC.jc (Φ:=cF) (Pre:=pre) (triv:=triv) (v0:=67) (decL:=fun l=>((l.getD 0 .top).aV,(l.getD 1 .top).aq,ub (l.drop 2))) (encL:=fun a:List D×Int×RS=>([D.list a.1,D.int .i64 a.2.1] ++Me a.2.2)) (dec:=qx) (enc:=jv) (lp:=fun _ _ _ _=>dR) (bad:=.inr dR) (bd:=dR) (by kernel_rfl) (fun a:List D×Int×RS=>pB x s G0 a.1 a.2.1 a.2.2) (fun a:List D×Int×RS=>0≤a.2.1) (fun a:List D×Int×RS=>zv x s G0 a.1 a.2.1 a.2.2) ([],0,s) l3 (by kernel_rfl) ?Z2 (fun a=>rfl) ?R5 (by kernel_rfl) (fun a ha=>by kernel_rfl) (fun a=>by kernel_rfl) (fun a=>by kernel_rfl) (fun a ha jA=>zE (β:=anF x s G0 a.1 a.2.1 a.2.2) ?C2) (by kernel_rfl)
 ·exact cA 0
 ·rintro⟨l,j,t⟩ h0
  replace h0:0≤j:=h0
  unfold pB
  rw[if_neg (by rw[hr,bQ];simp only[gq];omega)]
  trivial
 ·obtain⟨l,j,t⟩:=a
  replace ha:0≤j:=ha
  refine⟨fun bP=> ?_,trivial⟩
  rw[hr,bQ]at bP
  simp only[gq]at bP
  omega
theorem c77:bh Try.prog 77 pS (pre 77) (cF 77):=by
 refine jk (given:=[(4,{boxes:=B5})]) mix acu Try.func77 rfl (by kernel_rfl) (v:=adG) (by kernel_rfl) ?_
 intro ds h hp
 obtain⟨x,_,rfl,hx,h1⟩:=aj.1 h
 have hs:=h1
 obtain⟨s,rfl⟩:=gM h1
 refine zL qx jv dR (fun _ _ l=>(let G0:=(fO s);pC x s G0 (l.getD 0 .top).aV (l.getD 1 .top).aq (ub (l.drop 2)))) (y:=nR x s) (zE (YT x s hs hp))
theorem ab0:kr Try.prog pre cF adO:=aL c77 acu
def aur(x:Int)(y:Int)(s:RS):Prop:=
 ((true=true→fN s.li s.lt s.le=true))∧(
 let oX:=(gn s.li s.lt s.le)
 (((x==0)=true→
  ((true=true→Ok ({s with Ja:=(bV s.Ja (bT y oX.1)),yc:=(bV s.yc (i64.wrap ((bV s.Ja (bT y oX.1))+1))),BP:=0}:RS) 1))∧(
  let iD:=ji ({s with Ja:=(bV s.Ja (bT y oX.1)),yc:=(bV s.yc (i64.wrap ((bV s.Ja (bT y oX.1))+1))),BP:=0}:RS)
  ((((iD.role==2)&&(decide (iD.yc≤oX.1)))=true→
   ((true=true→Ok iD 1∧(0:Int)≤0∧(0:Int)≤5))∧(
   True)))∧(True))))∧(((x==0)=false→
  (((x==1)=true→
   ((true=true→Ok ({s with Cf:=(bV s.Cf (bT y oX.1)),xu:=(bV s.xu (i64.wrap ((bV s.Cf (bT y oX.1))+1))),BO:=0}:RS) 1))∧(
   let iD:=ji ({s with Cf:=(bV s.Cf (bT y oX.1)),xu:=(bV s.xu (i64.wrap ((bV s.Cf (bT y oX.1))+1))),BO:=0}:RS)
   ((((iD.role==2)&&(decide (iD.xu≤oX.1)))=true→
    ((true=true→Ok iD 1∧(0:Int)≤1∧(1:Int)≤5))∧(
    True)))∧(True))))∧(((x==1)=false→
   (((x==2)=true→
    ((true=true→Ok ({s with BN:=(bV s.BN (bT y oX.1)),xr:=(bV s.xr (i64.wrap ((bV s.BN (bT y oX.1))+1))),BM:=0}:RS) 1))∧(
    let iD:=ji ({s with BN:=(bV s.BN (bT y oX.1)),xr:=(bV s.xr (i64.wrap ((bV s.BN (bT y oX.1))+1))),BM:=0}:RS)
    ((((iD.role==2)&&(decide (iD.xr≤oX.1)))=true→
     ((true=true→Ok iD 1∧(0:Int)≤2∧(2:Int)≤5))∧(
     True)))∧(True))))∧(((x==2)=false→
    (((x==3)=true→
     ((true=true→Ok ({s with BL:=(bV s.BL (bT y oX.1)),xq:=(bV s.xq (i64.wrap ((bV s.BL (bT y oX.1))+1))),BK:=0}:RS) 1))∧(
     let iD:=ji ({s with BL:=(bV s.BL (bT y oX.1)),xq:=(bV s.xq (i64.wrap ((bV s.BL (bT y oX.1))+1))),BK:=0}:RS)
     ((((iD.role==2)&&(decide (iD.xq≤oX.1)))=true→
      ((true=true→Ok iD 1∧(0:Int)≤3∧(3:Int)≤5))∧(
      True)))∧(True))))∧(((x==3)=false→
     (((x==4)=true→
      ((true=true→Ok ({s with BJ:=(bV s.BJ (bT y oX.1)),xp:=(bV s.xp (i64.wrap ((bV s.BJ (bT y oX.1))+1))),BI:=0}:RS) 1))∧(
      let iD:=ji ({s with BJ:=(bV s.BJ (bT y oX.1)),xp:=(bV s.xp (i64.wrap ((bV s.BJ (bT y oX.1))+1))),BI:=0}:RS)
      ((((iD.role==2)&&(decide (iD.xp≤oX.1)))=true→
       ((true=true→Ok iD 1∧(0:Int)≤4∧(4:Int)≤5))∧(
       True)))∧(True))))∧(((x==4)=false→
      (((x==5)=true→
       ((true=true→Ok ({s with BH:=(bV s.BH (bT y oX.1)),xn:=(bV s.xn (i64.wrap ((bV s.BH (bT y oX.1))+1))),BG:=0}:RS) 1))∧(
       let iD:=ji ({s with BH:=(bV s.BH (bT y oX.1)),xn:=(bV s.xn (i64.wrap ((bV s.BH (bT y oX.1))+1))),BG:=0}:RS)
       ((((iD.role==2)&&(decide (iD.xn≤oX.1)))=true→
        ((true=true→Ok iD 1∧(0:Int)≤5∧(5:Int)≤5))∧(
        True)))∧(True))))∧(((x==5)=false→
       False)))))))))))))
theorem YS(x:Int)(y:Int)(s:RS)(hx:oY .i64 x)(hy:oY .i64 y)(hs:dK (.dJ fq) (encS s))(h:Ok s 2∧0≤x∧x≤5):aur x y s:=by
 obtain⟨h,h0,h5⟩:=h
 have hA: ∀t:RS,JT s t→Ok (ji t) 1:=fun t e=>fy.agree (k:=1) (h.same e)
 (repeat' (first|exact trivial|apply And.intro|intro _))
 all_goals first
  |exact h.may
  |decide
  |((with_reducible refine fy.alike h (by omega) ?_);exact ig)
  |(refine hA _ ?_;exact ig)
  |(simp only[beq_eq_false_iff_ne,ne_eq]at*;omega)
theorem c78:bh Try.prog 78 s78 (pre 78) (cF 78):=by
 refine jk (given:=[(1,{drop:=[4006001]})]) mix ab0 Try.func78 rfl (by kernel_rfl) (v:=ajg) (by kernel_rfl) ?_
 intro ds h hp
 obtain⟨_,_,rfl,⟨x,rfl,hx⟩,h1⟩:=aj.1 h
 obtain⟨_,_,rfl,⟨y,rfl,hy⟩,h2⟩:=aj.1 h1
 have hs:=h2
 obtain⟨s,rfl⟩:=gM h2
 refine zH qx jv dR (y:=Ho x y s) (zE (YS x y s hx hy hs hp))
theorem abZ:kr Try.prog pre cF adN:=aL c78 ab0
def auD(x:D)(s:RS):Prop:=
 (((((s.role !=2)==false)&&true)=true→Ok s 0))∧(
 let tS:=(vP (cD 1 x).aq s)
 (True)∧((((s.role !=2)||(!tS))=false→
  ((true=true→Ok s 0))∧(
  let im:=nR (aN 46 x []) s
  ((((cD 1 x).aq==0)=true→
   (((cD 7 x).gV=true→
    ((true=true→fN im.li im.lt im.le=true))∧(
    let ud:=(gn im.li im.lt im.le)
    ((true=true→Ok ({im with yc:=(bV (i64.wrap (im.Ja+1)) (bT (i64.wrap (im.yc-1)) (i64.wrap ((bT (bV 0 (cD 4 x).aq) ud.1)+1))))}:RS) 1∧(0:Int)≤0∧(0:Int)≤5))∧(
    True))))∧(((cD 7 x).gV=false→
    ((true=true→Ok im 2∧(0:Int)≤0∧(0:Int)≤5))∧(
    True)))))∧((((cD 1 x).aq==0)=false→
   ((((cD 1 x).aq==1)=true→
    (((cD 7 x).gV=true→
     ((true=true→fN im.li im.lt im.le=true))∧(
     let ud:=(gn im.li im.lt im.le)
     ((true=true→Ok ({im with xu:=(bV (i64.wrap (im.Cf+1)) (bT (i64.wrap (im.xu-1)) (i64.wrap ((bT (bV 0 (cD 4 x).aq) ud.1)+1))))}:RS) 1∧(0:Int)≤1∧(1:Int)≤5))∧(
     True))))∧(((cD 7 x).gV=false→
     ((true=true→Ok im 2∧(0:Int)≤1∧(1:Int)≤5))∧(
     True)))))∧((((cD 1 x).aq==1)=false→
    ((((cD 1 x).aq==2)=true→
     (((cD 7 x).gV=true→
      ((true=true→fN im.li im.lt im.le=true))∧(
      let ud:=(gn im.li im.lt im.le)
      ((true=true→Ok ({im with xr:=(bV (i64.wrap (im.BN+1)) (bT (i64.wrap (im.xr-1)) (i64.wrap ((bT (bV 0 (cD 4 x).aq) ud.1)+1))))}:RS) 1∧(0:Int)≤2∧(2:Int)≤5))∧(
      True))))∧(((cD 7 x).gV=false→
      ((true=true→Ok im 2∧(0:Int)≤2∧(2:Int)≤5))∧(
      True)))))∧((((cD 1 x).aq==2)=false→
     ((((cD 1 x).aq==3)=true→
      (((cD 7 x).gV=true→
       ((true=true→fN im.li im.lt im.le=true))∧(
       let ud:=(gn im.li im.lt im.le)
       ((true=true→Ok ({im with xq:=(bV (i64.wrap (im.BL+1)) (bT (i64.wrap (im.xq-1)) (i64.wrap ((bT (bV 0 (cD 4 x).aq) ud.1)+1))))}:RS) 1∧(0:Int)≤3∧(3:Int)≤5))∧(
       True))))∧(((cD 7 x).gV=false→
       ((true=true→Ok im 2∧(0:Int)≤3∧(3:Int)≤5))∧(
       True)))))∧((((cD 1 x).aq==3)=false→
      ((((cD 1 x).aq==4)=true→
       (((cD 7 x).gV=true→
        ((true=true→fN im.li im.lt im.le=true))∧(
        let ud:=(gn im.li im.lt im.le)
        ((true=true→Ok ({im with xp:=(bV (i64.wrap (im.BJ+1)) (bT (i64.wrap (im.xp-1)) (i64.wrap ((bT (bV 0 (cD 4 x).aq) ud.1)+1))))}:RS) 1∧(0:Int)≤4∧(4:Int)≤5))∧(
        True))))∧(((cD 7 x).gV=false→
        ((true=true→Ok im 2∧(0:Int)≤4∧(4:Int)≤5))∧(
        True)))))∧((((cD 1 x).aq==4)=false→
       ((((cD 1 x).aq==5)=true→
        (((cD 7 x).gV=true→
         ((true=true→fN im.li im.lt im.le=true))∧(
         let ud:=(gn im.li im.lt im.le)
         ((true=true→Ok ({im with xn:=(bV (i64.wrap (im.BH+1)) (bT (i64.wrap (im.xn-1)) (i64.wrap ((bT (bV 0 (cD 4 x).aq) ud.1)+1))))}:RS) 1∧(0:Int)≤5∧(5:Int)≤5))∧(
         True))))∧(((cD 7 x).gV=false→
         ((true=true→Ok im 2∧(0:Int)≤5∧(5:Int)≤5))∧(
         True)))))∧((((cD 1 x).aq==5)=false→
        False))))))))))))))))
theorem Y3(x:D)(s:RS)(hs:dK (.dJ fq) (encS s))(h:Ok s 4∧0≤(cD 1 x).aq∧(cD 1 x).aq≤5):auD x s:=by
 obtain⟨h,h0,h5⟩:=h
 refine⟨fun _=>h.le (by omega),trivial,fun _=>⟨fun _=>h.le (by omega),?_⟩⟩
 have ha:Ok (nR (aN 46 x []) s) 4:=h.WQ
 intro im
 change Ok im 4 at ha
 clear_value im
 (repeat' (first|exact trivial|apply And.intro|intro _))
 all_goals first
  |exact ha.may
  |decide
  |(with_reducible exact ha.le (by omega))
  |((with_reducible refine fy.alike ha (by omega) ?_);exact ig)
  |(simp only[beq_eq_false_iff_ne,ne_eq]at*;omega)
theorem c46:bh Try.prog 46 s46 (pre 46) (cF 46):=by
 refine jk (given:=[(3,{drop:=[5106003]})]) mix abZ Try.func46 rfl (by kernel_rfl) (v:=ajA) (by kernel_rfl) ?_
 intro ds h hp
 obtain⟨x,_,rfl,hx,h1⟩:=aj.1 h
 have hs:=h1
 obtain⟨s,rfl⟩:=gM h1
 refine zH qx jv dR (y:=wq x s) (zE (Y3 x s hs hp))
theorem acs:kr Try.prog pre cF adW:=aL c46 abZ
def auB(x:D)(s:RS):Prop:=
 (((((s.role !=2)==false)&&true)=true→Ok s 0))∧(
 let tS:=(vP (cD 1 x).aq s)
 (True)∧((((s.role !=2)||(!tS))=false→
  ((((!(cD 7 x).gV)&&((cD 10 x).aq==0))=true→
   ((true=true→Ok s 2∧(0:Int)≤(cD 1 x).aq∧((cD 1 x).aq:Int)≤5))∧(
   True)))∧((((!(cD 7 x).gV)&&((cD 10 x).aq==0))=false→
   ((((cD 4 x).aq==s.nL)=true→
    ((((cD 1 x).aq==0)=true→
     ((true=true→Ok ({s with BP:=(bT (bV 0 (cD 9 x).aq) (s.bk.length:Int))}:RS) 1∧(0:Int)≤0∧(0:Int)≤5))∧(
     True)))∧((((cD 1 x).aq==0)=false→
     ((((cD 1 x).aq==1)=true→
      ((true=true→Ok ({s with BO:=(bT (bV 0 (cD 9 x).aq) (s.bk.length:Int))}:RS) 1∧(0:Int)≤1∧(1:Int)≤5))∧(
      True)))∧((((cD 1 x).aq==1)=false→
      ((((cD 1 x).aq==2)=true→
       ((true=true→Ok ({s with BM:=(bT (bV 0 (cD 9 x).aq) (s.bk.length:Int))}:RS) 1∧(0:Int)≤2∧(2:Int)≤5))∧(
       True)))∧((((cD 1 x).aq==2)=false→
       ((((cD 1 x).aq==3)=true→
        ((true=true→Ok ({s with BK:=(bT (bV 0 (cD 9 x).aq) (s.bk.length:Int))}:RS) 1∧(0:Int)≤3∧(3:Int)≤5))∧(
        True)))∧((((cD 1 x).aq==3)=false→
        ((((cD 1 x).aq==4)=true→
         ((true=true→Ok ({s with BI:=(bT (bV 0 (cD 9 x).aq) (s.bk.length:Int))}:RS) 1∧(0:Int)≤4∧(4:Int)≤5))∧(
         True)))∧((((cD 1 x).aq==4)=false→
         ((((cD 1 x).aq==5)=true→
          ((true=true→Ok ({s with BG:=(bT (bV 0 (cD 9 x).aq) (s.bk.length:Int))}:RS) 1∧(0:Int)≤5∧(5:Int)≤5))∧(
          True)))∧((((cD 1 x).aq==5)=false→
          False))))))))))))))∧(True))))))
theorem Y1(x:D)(s:RS)(hs:dK (.dJ fq) (encS s))(h:Ok s 4∧0≤(cD 1 x).aq∧(cD 1 x).aq≤5):auB x s:=by
 obtain⟨h,h0,h5⟩:=h
 (repeat' (first|exact trivial|apply And.intro|intro _))
 all_goals first
  |decide
  |exact h0
  |exact h5
  |(with_reducible exact h.le (by omega))
  |((with_reducible refine fy.alike h (by omega) ?_);exact ig)
  |(simp only[beq_eq_false_iff_ne,ne_eq]at*;omega)
theorem c48:bh Try.prog 48 s48 (pre 48) (cF 48):=by
 refine jk (given:=[(5,{drop:=[5106003]})]) mix acs Try.func48 rfl (by kernel_rfl) (v:=ajy) (by kernel_rfl) ?_
 intro ds h hp
 obtain⟨x,_,rfl,hx,h1⟩:=aj.1 h
 have hs:=h1
 obtain⟨s,rfl⟩:=gM h1
 refine zH qx jv dR (y:=zd x s) (zE (Y1 x s hs hp))
theorem acq:kr Try.prog pre cF akg:=aL c48 acs
theorem c27:bh Try.prog 27 s27 (pre 27) (cF 27):=by
 refine zF acq Try.func27 (v:=atC) ?_
 intro ds h hp
 obtain⟨_,_,rfl,⟨_,rfl,_,_,rfl,⟨i,rfl,_⟩,_,_,rfl,⟨t,rfl,_⟩,_,_,rfl,⟨v,rfl,_,_⟩,_,_,rfl,⟨l,rfl,_,_⟩,_,_,rfl,⟨b,rfl,_,_⟩,rfl⟩,rfl⟩:=h
 refine zH id id .top (y:=ua _) zK
theorem acJ:kr Try.prog pre cF ad7:=aL c27 acq
theorem awk: ∀k sg,lk OO k=some sg→ ∃sF t,sg.nn=some (sF,t)∧YA Try.prog k sF (pre k) (cF k):=by
 intro k sg h
 unfold OO lk lk at h
 split at h
 ·rename_i hk
  subst hk
  injection h with h
  subst h
  refine⟨_,_,rfl,cnw,?_⟩
  intro ob fX w S β τ vs dd oo ly jA hp hn
  injection fX with fX
  subst fX
  have h0:=List.length_eq_zero_iff.1 ly.len
  subst h0
  simp only[List.flatten_nil,cQ]at jA hp hn
  obtain⟨x,r,rfl,hx,hr⟩:=aj.1 jA
  obtain⟨y,r,rfl,hy,hr⟩:=aj.1 hr
  obtain rfl:=dr.1 hr
  have ha:=ly.args
  match vs,ha with
  | [u,v],ha=>
   obtain⟨hu,hv,_⟩:=ha
   refine(cnl.calls rfl w S [u,v] [x,y] ly.lt rfl ?_ jA ⟨hp,hn⟩).mono ?_
   ·intro i v' d pn hd
    match i with
    |0=>injection pn with pn;injection hd with hd;subst pn hd;exact hu
    |1=>injection pn with pn;injection hd with hd;subst pn hd;exact hv
    |n+2=>cases pn
   ·rintro e w' ⟨v',S',τ',rfl,hb,_,_,_,fi,_⟩
    refine⟨?_,hb⟩
    rcases fi with⟨c,hc,hq⟩|⟨hc,_⟩
    ·injection hc with hc
     subst hc
     obtain⟨x',lv,eW⟩:=hq
     injection lv with lv
     subst lv
     have hr:cH w' S' v' .gW:=eW.1
     rw[hr.u9]
    ·exact absurd rfl hc
 ·cases h
def auC(x:D)(s:RS):Prop:=
 (True)∧(
 let dw:=nO (aN 46 x []) s
 (True)∧(((!dw.1)=false→
  ((decide ((cD 4 x).aq≤dw.2.aZ)=true→
   ((true=true→Ok dw.2 1))∧(
   True)))∧((decide ((cD 4 x).aq≤dw.2.aZ)=false→
   ((((!(((((dw.2.jr==(cD 3 x).aq)&&(dw.2.js==(cD 1 x).aq))&&(dw.2.gR==(cD 4 x).aq))&&(dw.2.mK==(cD 5 x).aq))&&(dw.2.gP==(cD 10 x).aq)))||((cD 9 x).aq==0))=true→
    (True)∧(
    let XW:=(ue (cD 10 x).aq 1 1048576)
    ((((((cD 9 x).aq==(([] :List D).length:Int))&&(decide ((((cD 15 x).aV:List D).length:Int)≤(i64.wrap ((cD 10 x).aq-(([] :List D).length:Int))))))&&XW)=true→
     (true=true→(([] ++(cD 15 x).aV):List D).length≤maxLen∧(([] ++(cD 15 x).aV):List D).length*1≤140737488355328)∧(
     (True)∧(
     let Ff:=(nu (cD 4 x).aq (cD 5 x).aq)
     (((cD 0 Ff).ic=true→
      (True)∧(
      let PW:=(gC (D.agg [(cD 13 x),(cD 14 x)]))
      ((true=true→Ok ({dw.2 with jr:=(cD 3 x).aq,js:=(cD 1 x).aq,gR:=(cD 4 x).aq,mK:=(cD 5 x).aq,gP:=(cD 10 x).aq,dp:=([] ++(cD 15 x).aV)}:RS) 1))∧(
      True))))∧(((cD 0 Ff).ic=false→
      (True)∧(
      let PW:=(gC (D.agg [(cD 13 x),(cD 14 x)]))
      ((((((((([] ++(cD 15 x).aV):List D).length:Int) !=(cD 10 x).aq)||(decide ((cD 10 x).aq<1)))&&true)||(!PW))=true→
       ((true=true→Ok ({dw.2 with jr:=(cD 3 x).aq,js:=(cD 1 x).aq,gR:=(cD 4 x).aq,mK:=(cD 5 x).aq,gP:=(cD 10 x).aq,dp:=([] ++(cD 15 x).aV)}:RS) 1))∧(
       True)))∧((((((((([] ++(cD 15 x).aV):List D).length:Int) !=(cD 10 x).aq)||(decide ((cD 10 x).aq<1)))&&true)||(!PW))=false→
       (True)∧(
       let o4:=(gp (D.agg [(cD 13 x),(cD 14 x)]))
       ((true=true→fN dw.2.li dw.2.lt dw.2.le=true))∧(
       let LO:=(jM dw.2.li dw.2.lt dw.2.le (cD 4 x).aq)
       ((((LO.2==0)&&(LO.1==(cD 5 x).aq))=true→
        ((true=true→fN dw.2.li dw.2.lt dw.2.le=true))∧(
        let LU:=oR dw.2.li dw.2.lt dw.2.le (cD 4 x).aq
        (True)∧(
        let CK:=(ua (D.agg [(cD 4 x),(cD 5 x),(cD 0 o4),(cD 1 o4),D.list ([] ++(cD 15 x).aV)]))
        (True)∧(
        let aeb:=ij ({dw.2 with jG:=(D.ptr [(cD 0 CK),(cD 1 CK),(cD 2 CK),(cD 3 CK),(cD 4 CK)]),nL:=(cD 4 x).aq,kB:=(cD 5 x).aq,sv:=(cD 0 o4).aV,sl:=(cD 1 o4).aV,bk:=([] ++(cD 15 x).aV),aZ:=(cD 4 x).aq,jr:=0,js:=0,gR:=0,mK:=0,gP:=0,dp:=[],li:=LU.2.1,lt:=LU.2.2.1,le:=LU.2.2.2}:RS)
        ((true=true→Ok aeb 1))∧(
        True))))))∧((((LO.2==0)&&(LO.1==(cD 5 x).aq))=false→
        (True)∧(
        let CL:=(ua (D.agg [(cD 4 x),(cD 5 x),(cD 0 o4),(cD 1 o4),D.list ([] ++(cD 15 x).aV)]))
        (True)∧(
        let aec:=ij ({dw.2 with jG:=(D.ptr [(cD 0 CL),(cD 1 CL),(cD 2 CL),(cD 3 CL),(cD 4 CL)]),nL:=(cD 4 x).aq,kB:=(cD 5 x).aq,sv:=(cD 0 o4).aV,sl:=(cD 1 o4).aV,bk:=([] ++(cD 15 x).aV),aZ:=(cD 4 x).aq,jr:=0,js:=0,gR:=0,mK:=0,gP:=0,dp:=[],li:=((cD 0 (cD 1 Ff)).aq),lt:=((cD 1 (cD 1 Ff)).aq),le:=((cD 2 (cD 1 Ff)).aV)}:RS)
        ((true=true→Ok aec 1))∧(
        True))))))))))))))))∧((((((cD 9 x).aq==(([] :List D).length:Int))&&(decide ((((cD 15 x).aV:List D).length:Int)≤(i64.wrap ((cD 10 x).aq-(([] :List D).length:Int))))))&&XW)=false→
     (True)∧(
     let Fh:=(nu (cD 4 x).aq (cD 5 x).aq)
     (((cD 0 Fh).ic=true→
      (True)∧(
      let PY:=(gC (D.agg [(cD 13 x),(cD 14 x)]))
      ((true=true→Ok ({dw.2 with jr:=(cD 3 x).aq,js:=(cD 1 x).aq,gR:=(cD 4 x).aq,mK:=(cD 5 x).aq,gP:=(cD 10 x).aq,dp:=[]}:RS) 1))∧(
      True))))∧(((cD 0 Fh).ic=false→
      (True)∧(
      let PY:=(gC (D.agg [(cD 13 x),(cD 14 x)]))
      (((((((([] :List D).length:Int) !=(cD 10 x).aq)||(decide ((cD 10 x).aq<1)))&&true)||(!PY))=true→
       ((true=true→Ok ({dw.2 with jr:=(cD 3 x).aq,js:=(cD 1 x).aq,gR:=(cD 4 x).aq,mK:=(cD 5 x).aq,gP:=(cD 10 x).aq,dp:=[]}:RS) 1))∧(
       True)))∧(((((((([] :List D).length:Int) !=(cD 10 x).aq)||(decide ((cD 10 x).aq<1)))&&true)||(!PY))=false→
       (True)∧(
       let um:=(gp (D.agg [(cD 13 x),(cD 14 x)]))
       ((true=true→fN dw.2.li dw.2.lt dw.2.le=true))∧(
       let LQ:=(jM dw.2.li dw.2.lt dw.2.le (cD 4 x).aq)
       ((((LQ.2==0)&&(LQ.1==(cD 5 x).aq))=true→
        ((true=true→fN dw.2.li dw.2.lt dw.2.le=true))∧(
        let LW:=oR dw.2.li dw.2.lt dw.2.le (cD 4 x).aq
        (True)∧(
        let CO:=(ua (D.agg [(cD 4 x),(cD 5 x),(cD 0 um),(cD 1 um),D.list []]))
        (True)∧(
        let aed:=ij ({dw.2 with jG:=(D.ptr [(cD 0 CO),(cD 1 CO),(cD 2 CO),(cD 3 CO),(cD 4 CO)]),nL:=(cD 4 x).aq,kB:=(cD 5 x).aq,sv:=(cD 0 um).aV,sl:=(cD 1 um).aV,bk:=[],aZ:=(cD 4 x).aq,jr:=0,js:=0,gR:=0,mK:=0,gP:=0,dp:=[],li:=LW.2.1,lt:=LW.2.2.1,le:=LW.2.2.2}:RS)
        ((true=true→Ok aed 1))∧(
        True))))))∧((((LQ.2==0)&&(LQ.1==(cD 5 x).aq))=false→
        (True)∧(
        let CP:=(ua (D.agg [(cD 4 x),(cD 5 x),(cD 0 um),(cD 1 um),D.list []]))
        (True)∧(
        let aee:=ij ({dw.2 with jG:=(D.ptr [(cD 0 CP),(cD 1 CP),(cD 2 CP),(cD 3 CP),(cD 4 CP)]),nL:=(cD 4 x).aq,kB:=(cD 5 x).aq,sv:=(cD 0 um).aV,sl:=(cD 1 um).aV,bk:=[],aZ:=(cD 4 x).aq,jr:=0,js:=0,gR:=0,mK:=0,gP:=0,dp:=[],li:=((cD 0 (cD 1 Fh)).aq),lt:=((cD 1 (cD 1 Fh)).aq),le:=((cD 2 (cD 1 Fh)).aV)}:RS)
        ((true=true→Ok aee 1))∧(
        True))))))))))))))))))∧((((!(((((dw.2.jr==(cD 3 x).aq)&&(dw.2.js==(cD 1 x).aq))&&(dw.2.gR==(cD 4 x).aq))&&(dw.2.mK==(cD 5 x).aq))&&(dw.2.gP==(cD 10 x).aq)))||((cD 9 x).aq==0))=false→
    (True)∧(
    let XX:=(ue (cD 10 x).aq 1 1048576)
    ((((((cD 9 x).aq==((dw.2.dp:List D).length:Int))&&(decide ((((cD 15 x).aV:List D).length:Int)≤(i64.wrap ((cD 10 x).aq-((dw.2.dp:List D).length:Int))))))&&XX)=true→
     (true=true→((dw.2.dp++(cD 15 x).aV):List D).length≤maxLen∧((dw.2.dp++(cD 15 x).aV):List D).length*1≤140737488355328)∧(
     (True)∧(
     let Fg:=(nu (cD 4 x).aq (cD 5 x).aq)
     (((cD 0 Fg).ic=true→
      (True)∧(
      let PX:=(gC (D.agg [(cD 13 x),(cD 14 x)]))
      ((true=true→Ok ({dw.2 with dp:=(dw.2.dp++(cD 15 x).aV)}:RS) 1))∧(
      True))))∧(((cD 0 Fg).ic=false→
      (True)∧(
      let PX:=(gC (D.agg [(cD 13 x),(cD 14 x)]))
      (((((((((dw.2.dp++(cD 15 x).aV):List D).length:Int) !=(cD 10 x).aq)||(decide ((cD 10 x).aq<1)))&&true)||(!PX))=true→
       ((true=true→Ok ({dw.2 with dp:=(dw.2.dp++(cD 15 x).aV)}:RS) 1))∧(
       True)))∧(((((((((dw.2.dp++(cD 15 x).aV):List D).length:Int) !=(cD 10 x).aq)||(decide ((cD 10 x).aq<1)))&&true)||(!PX))=false→
       (True)∧(
       let uk:=(gp (D.agg [(cD 13 x),(cD 14 x)]))
       ((true=true→fN dw.2.li dw.2.lt dw.2.le=true))∧(
       let LP:=(jM dw.2.li dw.2.lt dw.2.le (cD 4 x).aq)
       ((((LP.2==0)&&(LP.1==(cD 5 x).aq))=true→
        ((true=true→fN dw.2.li dw.2.lt dw.2.le=true))∧(
        let LV:=oR dw.2.li dw.2.lt dw.2.le (cD 4 x).aq
        (True)∧(
        let CM:=(ua (D.agg [(cD 4 x),(cD 5 x),(cD 0 uk),(cD 1 uk),D.list (dw.2.dp++(cD 15 x).aV)]))
        (True)∧(
        let Sz:=ij ({dw.2 with jG:=(D.ptr [(cD 0 CM),(cD 1 CM),(cD 2 CM),(cD 3 CM),(cD 4 CM)]),nL:=(cD 4 x).aq,kB:=(cD 5 x).aq,sv:=(cD 0 uk).aV,sl:=(cD 1 uk).aV,bk:=(dw.2.dp++(cD 15 x).aV),aZ:=(cD 4 x).aq,jr:=0,js:=0,gR:=0,mK:=0,gP:=0,dp:=[],li:=LV.2.1,lt:=LV.2.2.1,le:=LV.2.2.2}:RS)
        ((true=true→Ok Sz 1))∧(
        True))))))∧((((LP.2==0)&&(LP.1==(cD 5 x).aq))=false→
        (True)∧(
        let CN:=(ua (D.agg [(cD 4 x),(cD 5 x),(cD 0 uk),(cD 1 uk),D.list (dw.2.dp++(cD 15 x).aV)]))
        (True)∧(
        let SA:=ij ({dw.2 with jG:=(D.ptr [(cD 0 CN),(cD 1 CN),(cD 2 CN),(cD 3 CN),(cD 4 CN)]),nL:=(cD 4 x).aq,kB:=(cD 5 x).aq,sv:=(cD 0 uk).aV,sl:=(cD 1 uk).aV,bk:=(dw.2.dp++(cD 15 x).aV),aZ:=(cD 4 x).aq,jr:=0,js:=0,gR:=0,mK:=0,gP:=0,dp:=[],li:=((cD 0 (cD 1 Fg)).aq),lt:=((cD 1 (cD 1 Fg)).aq),le:=((cD 2 (cD 1 Fg)).aV)}:RS)
        ((true=true→Ok SA 1))∧(
        True))))))))))))))))∧((((((cD 9 x).aq==((dw.2.dp:List D).length:Int))&&(decide ((((cD 15 x).aV:List D).length:Int)≤(i64.wrap ((cD 10 x).aq-((dw.2.dp:List D).length:Int))))))&&XX)=false→
     (True)∧(
     let Fi:=(nu (cD 4 x).aq (cD 5 x).aq)
     (((cD 0 Fi).ic=true→
      (True)∧(
      let PZ:=(gC (D.agg [(cD 13 x),(cD 14 x)]))
      ((true=true→Ok dw.2 1))∧(
      True))))∧(((cD 0 Fi).ic=false→
      (True)∧(
      let PZ:=(gC (D.agg [(cD 13 x),(cD 14 x)]))
      ((((((((dw.2.dp:List D).length:Int) !=(cD 10 x).aq)||(decide ((cD 10 x).aq<1)))&&true)||(!PZ))=true→
       ((true=true→Ok dw.2 1))∧(
       True)))∧((((((((dw.2.dp:List D).length:Int) !=(cD 10 x).aq)||(decide ((cD 10 x).aq<1)))&&true)||(!PZ))=false→
       (True)∧(
       let ur:=(gp (D.agg [(cD 13 x),(cD 14 x)]))
       ((true=true→fN dw.2.li dw.2.lt dw.2.le=true))∧(
       let o4:=(jM dw.2.li dw.2.lt dw.2.le (cD 4 x).aq)
       ((((o4.2==0)&&(o4.1==(cD 5 x).aq))=true→
        ((true=true→fN dw.2.li dw.2.lt dw.2.le=true))∧(
        let LX:=oR dw.2.li dw.2.lt dw.2.le (cD 4 x).aq
        (True)∧(
        let CQ:=(ua (D.agg [(cD 4 x),(cD 5 x),(cD 0 ur),(cD 1 ur),D.list dw.2.dp]))
        (True)∧(
        let aef:=ij ({dw.2 with jG:=(D.ptr [(cD 0 CQ),(cD 1 CQ),(cD 2 CQ),(cD 3 CQ),(cD 4 CQ)]),nL:=(cD 4 x).aq,kB:=(cD 5 x).aq,sv:=(cD 0 ur).aV,sl:=(cD 1 ur).aV,bk:=dw.2.dp,aZ:=(cD 4 x).aq,jr:=0,js:=0,gR:=0,mK:=0,gP:=0,dp:=[],li:=LX.2.1,lt:=LX.2.2.1,le:=LX.2.2.2}:RS)
        ((true=true→Ok aef 1))∧(
        True))))))∧((((o4.2==0)&&(o4.1==(cD 5 x).aq))=false→
        (True)∧(
        let CR:=(ua (D.agg [(cD 4 x),(cD 5 x),(cD 0 ur),(cD 1 ur),D.list dw.2.dp]))
        (True)∧(
        let aeg:=ij ({dw.2 with jG:=(D.ptr [(cD 0 CR),(cD 1 CR),(cD 2 CR),(cD 3 CR),(cD 4 CR)]),nL:=(cD 4 x).aq,kB:=(cD 5 x).aq,sv:=(cD 0 ur).aV,sl:=(cD 1 ur).aV,bk:=dw.2.dp,aZ:=(cD 4 x).aq,jr:=0,js:=0,gR:=0,mK:=0,gP:=0,dp:=[],li:=((cD 0 (cD 1 Fi)).aq),lt:=((cD 1 (cD 1 Fi)).aq),le:=((cD 2 (cD 1 Fi)).aV)}:RS)
        ((true=true→Ok aeg 1))∧(
        True)))))))))))))))))))))))
theorem Y2(x:D)(s:RS)(hs:dK (.dJ fq) (encS s))(h:Ok s 2):auC x s:=by
 have h1:Ok (nO (aN 46 x []) s).2 2:=h.abG
 have hp:(nO (aN 46 x []) s).2.dp.length≤140737488355328:=aR (La _ s) (QL hs)
 refine⟨trivial,?_⟩
 intro dw
 change Ok dw.2 2 at h1
 change dw.2.dp.length≤140737488355328 at hp
 clear_value dw
 have hr: ∀(p:Nat) (e:List D),p≤140737488355328→((e.length:Int)≤IntKind.wrap .i64 ((cD 10 x).aq-(p:Int)))→ue (cD 10 x).aq 1 1048576=true→p+e.length≤1048576:=by
  intro p e hp h2 h3
  simp only[ue,bc,bQ]at h3
  rw[wrap64 (by omega) (by omega)]at h2
  omega
 have hA: ∀t:RS,JT dw.2 t→Ok t 1:=fun t e=>(h1.same e).le (by omega)
 have hB: ∀(t:RS) (c:Int),(t.li,t.lt,t.le)=mz dw.2.li dw.2.lt dw.2.le c→gC (.agg [.list t.sv,.list t.sl])=true→(t.id=dw.2.id∧t.msgs=dw.2.msgs∧t.dS=dw.2.dS∧t.cb=dw.2.cb∧t.bJ=dw.2.bJ∧t.fv=dw.2.fv∧t.fl=dw.2.fl∧t.term=dw.2.term∧t.reads=dw.2.reads)→Ok (ij t) 1:=fun t c e1 e2 e3=>fy.saved (h1.ami (by omega) e1 e2 e3)
 have hC: ∀(t:RS) (i n:Int),¬(cD 0 (nu i n)).ic=true→(t.li,t.lt,t.le)=((cD 0 (cD 1 (nu i n))).aq,(cD 1 (cD 1 (nu i n))).aq,(cD 2 (cD 1 (nu i n))).aV)→gC (.agg [.list t.sv,.list t.sl])=true→(t.id=dw.2.id∧t.msgs=dw.2.msgs∧t.dS=dw.2.dS∧t.cb=dw.2.cb∧t.bJ=dw.2.bJ∧t.fv=dw.2.fv∧t.fl=dw.2.fl∧t.term=dw.2.term∧t.reads=dw.2.reads)→Ok (ij t) 1:=fun t i n e0 e1 e2 e3=>fy.saved (h1.amh (by omega) e0 e1 e2 e3)
 have hor: ∀a b:Bool,(a|| !b)=false→b=true:=by intro a b;cases a<;>cases b<;>simp
 (repeat' (first|exact trivial|apply And.intro|intro _))
 all_goals first
  |exact h1.may
  |(with_reducible exact h1.le (by omega))
  |((with_reducible refine hA _ ?_);exact ig)
  |(refine hB _ (cD 4 x).aq ?_ ?_ ?_;exact rfl;exact hor _ _ ‹(_|| !_)=false›;exact⟨rfl,rfl,rfl,rfl,rfl,rfl,rfl,rfl,rfl⟩)
  |(refine hC _ (cD 4 x).aq (cD 5 x).aq ?_ ?_ ?_ ?_;exact(fun hh=>absurd (‹D.ic _=false›.symm.trans hh) (by decide));exact rfl;exact hor _ _ ‹(_|| !_)=false›;exact⟨rfl,rfl,rfl,rfl,rfl,rfl,rfl,rfl,rfl⟩)
  |(rename_i hz _
    simp only[bc,bQ]at hz
    have hq:=hr 0 (cD 15 x).aV (by omega) hz.1.2 hz.2
    simp only[eI,maxLen]
    omega)
  |(rename_i hz _
    simp only[bc,bQ]at hz
    have hq:=hr dw.2.dp.length (cD 15 x).aV hp hz.1.2 hz.2
    simp only[an,maxLen]
    omega)
theorem c47:bh Try.prog 47 s47 (pre 47) (cF 47):=by
 refine K4 (given:=[(21,{drop:=[9000000010]})]) (et:=OO) mix acJ awk Try.func47 rfl (by kernel_rfl) (v:=ajz) (by kernel_rfl) ?_
 intro ds h hp
 obtain⟨x,_,rfl,hx,h1⟩:=aj.1 h
 have hs:=h1
 obtain⟨s,rfl⟩:=gM h1
 refine zH qx jv dR (y:=Oi x s) (zE (Y2 x s hs hp))
theorem acr:kr Try.prog pre cF adV:=aL c47 acJ
def auP(x:D)(s:RS):Prop:=
 (True)∧(
 let x76:=(ue (cD 1 x).aq 1 5)
 (True)∧(
 let se:=(ue (cD 3 x).aq 1 1099511627776)
 (((decide ((((cD 12 x).aV:List D).length:Int)>0)==true)&&((decide ((cD 5 x).aq>(cD 3 x).aq)==false)&&true))=true→((decide (0≤(i64.wrap ((((cD 12 x).aV:List D).length:Int)-1))))&&(decide ((i64.wrap ((((cD 12 x).aV:List D).length:Int)-1))<(((cD 12 x).aV:List D).length:Int))))=true)∧(
 (True)∧(
 let adD:=(fm (cD 12 x).aV)
 (True)∧(((((decide ((cD 5 x).aq>(cD 3 x).aq))||((decide ((((cD 12 x).aV:List D).length:Int)>0))&&(decide (((cD 1 (((cD 12 x).aV).getD ((i64.wrap ((((cD 12 x).aV:List D).length:Int)-1)):Int).toNat .top)).aq)>(cD 3 x).aq))))||(!adD))=false→
  (True)∧(((((!(((((cD 2 x).aq==s.id)&&((cD 1 x).aq !=s.id))&&x76)&&se))||(decide ((cD 0 x).aq<1)))||(decide ((cD 0 x).aq>6)))=false→
   ((decide ((cD 3 x).aq>s.term)=true→
    (True)∧(
    let q9:=l6 (cD 3 x).aq 0 s
    ((decide ((cD 3 x).aq<q9.term)=true→
     ((true=true→Ok q9 1))∧(
     True)))∧((decide ((cD 3 x).aq<q9.term)=false→
     ((((cD 0 x).aq==1)=true→
      ((true=true→Ok q9 1))∧(
      True)))∧((((cD 0 x).aq==1)=false→
      ((((cD 0 x).aq==2)=true→
       ((true=true→Ok q9 15))∧(
       True)))∧((((cD 0 x).aq==2)=false→
       ((((cD 0 x).aq==3)=true→
        ((true=true→Ok q9 (4+(cD 12 (aN 46 x [])).aV.length)∧(cD 12 (aN 46 x [])).aV.length≤2147483648∧fm (cD 12 (aN 46 x [])).aV=true))∧(
        True)))∧((((cD 0 x).aq==3)=false→
        ((((cD 0 x).aq==4)=true→
         ((true=true→Ok q9 4∧0≤(cD 1 (aN 46 x [])).aq∧(cD 1 (aN 46 x [])).aq≤5))∧(
         True)))∧((((cD 0 x).aq==4)=false→
         ((((cD 0 x).aq==5)=true→
          ((true=true→Ok q9 2))∧(
          True)))∧((((cD 0 x).aq==5)=false→
          ((((cD 0 x).aq==6)=true→
           ((true=true→Ok q9 4∧0≤(cD 1 (aN 46 x [])).aq∧(cD 1 (aN 46 x [])).aq≤5))∧(
           True)))∧(True))))))))))))))))∧((decide ((cD 3 x).aq>s.term)=false→
    ((decide ((cD 3 x).aq<s.term)=true→
     ((true=true→Ok s 1))∧(
     True)))∧((decide ((cD 3 x).aq<s.term)=false→
     ((((cD 0 x).aq==1)=true→
      ((true=true→Ok s 1))∧(
      True)))∧((((cD 0 x).aq==1)=false→
      ((((cD 0 x).aq==2)=true→
       ((true=true→Ok s 15))∧(
       True)))∧((((cD 0 x).aq==2)=false→
       ((((cD 0 x).aq==3)=true→
        ((true=true→Ok s (4+(cD 12 (aN 46 x [])).aV.length)∧(cD 12 (aN 46 x [])).aV.length≤2147483648∧fm (cD 12 (aN 46 x [])).aV=true))∧(
        True)))∧((((cD 0 x).aq==3)=false→
        ((((cD 0 x).aq==4)=true→
         ((true=true→Ok s 4∧0≤(cD 1 (aN 46 x [])).aq∧(cD 1 (aN 46 x [])).aq≤5))∧(
         True)))∧((((cD 0 x).aq==4)=false→
         ((((cD 0 x).aq==5)=true→
          ((true=true→Ok s 2))∧(
          True)))∧((((cD 0 x).aq==5)=false→
          ((((cD 0 x).aq==6)=true→
           ((true=true→Ok s 4∧0≤(cD 1 (aN 46 x [])).aq∧(cD 1 (aN 46 x [])).aq≤5))∧(
           True)))∧(True)))))))))))))))))))))))
theorem Zf(x:D)(s:RS)(hs:dK (.dJ fq) (encS s))(h:Ok s (20+(cD 12 x).aV.length)∧(cD 12 x).aV.length≤2147483648):auP x s:=by
 obtain⟨h,hn⟩:=h
 refine⟨trivial,trivial,fun hc=> ?_,trivial,trivial,fun hq1=>⟨trivial,fun hq2=> ?_⟩⟩
 ·simp only[bc,beq_iff_eq,bQ]at hc
  have hl:0<(cD 12 x).aV.length:=by have:=hc.1;omega
  show(decide (0≤IntKind.wrap .i64 (((cD 12 x).aV.length:Int)-1))&&decide (IntKind.wrap .i64 (((cD 12 x).aV.length:Int)-1)<((cD 12 x).aV.length:Int)))=true
  rw[wrap64 (by omega) (by omega),bc,bQ,bQ]
  omega
 have rI:fm (cD 12 x).aV=true:=Wc (by rw[hq1];simp)
 have ly:ue (cD 1 x).aq 1 5=true∧ue (cD 3 x).aq 1 1099511627776=true:=by
  simp only[Bool.or_eq_false_iff,Bool.not_eq_false',bc]at hq2
  exact⟨hq2.1.1.1.2,hq2.1.1.2⟩
 obtain⟨hi1,PN⟩:=ly
 simp only[ue,bc,bQ]at hi1 PN
 have hf:Ok (l6 (cD 3 x).aq 0 s) (20+(cD 12 x).aV.length):=h.follow (by omega) PN.2
 have h0:0≤(cD 1 (aN 46 x [])).aq:=by show 0≤(cD 1 x).aq;omega
 have h5:(cD 1 (aN 46 x [])).aq≤5:=hi1.2
 have e12:(cD 12 (aN 46 x [])).aV=(cD 12 x).aV:=rfl
 have hA: ∀(j:Nat),j≤20+(cD 12 x).aV.length→Ok (l6 (cD 3 x).aq 0 s) j:=fun j hj=>hf.le hj
 have hB: ∀(j:Nat),j≤20+(cD 12 x).aV.length→Ok s j:=fun j hj=>h.le hj
 (repeat' (first|exact trivial|apply And.intro|intro _))
 all_goals first
  |exact h0
  |exact h5
  |exact hn
  |exact rI
  |exact hB _ (by first|omega|(rw[e12];omega))
  |exact hA _ (by first|omega|(rw[e12];omega))
theorem c17:bh Try.prog 17 s17 (pre 17) (cF 17):=by
 refine zO acr Try.func17 (v:=ajR) ?_
 intro ds h hp
 obtain⟨x,_,rfl,hx,h1⟩:=aj.1 h
 have hs:=h1
 obtain⟨s,rfl⟩:=gM h1
 refine zH Yx JP (.top,dR) (y:=pg x s) (zE (Zf x s hs hp))
theorem acQ:kr Try.prog pre cF ad8:=aL c17 acr
def auR(x:Int)(s:RS):Prop:=
 (((s.role==2)=true→
  ((decide ((i64.wrap (s.wait+1))≥2)=true→
   ((true=true→Ok ({s with wait:=0}:RS) 0))∧(
   let RW:=(fO ({s with wait:=0}:RS))
   ((true=true→Ok ({s with wait:=0}:RS) 0∧gC (aN 2 RW [])=true))∧(
   let se:=(iM (aN 2 RW []) ({s with wait:=0}:RS))
   VC.Jk cF pre JP (fun _ _ l=>zc se (l.getD 0 .top).aq (ub (l.drop 1))) [] (VC.lp 84 adM) (fU (fU (fun i=>([D.int .i64 x] ++encS s).getD i .top) 80 (RW)) 81 (D.list se))))))∧(True)))∧(((s.role==2)=false→
  (((s.end_==0)=true→
   ((decide (x<0)=true→
    (true=true→(10 !=0)=true)∧(
    ((decide ((i64.wrap (s.wait+1))≥(i64.wrap (10+((i64.wrap (0-(i64.wrap (x+1)))).tmod 10))))=true→
     (True)∧(
     let zJ:=nF ({s with wait:=(i64.wrap (s.wait+1)),end_:=(i64.wrap (10+((i64.wrap (0-(i64.wrap (x+1)))).tmod 10)))}:RS)
     ((true=true→Ok zJ 0))∧(
     let x99:=(fO zJ)
     (True)∧(
     let adE:=(nQ (aN 2 x99 []) zJ.id)
     (((adE&&(decide (zJ.term<1099511627776)))=true→
      ((true=true→Ok zJ 14∧gC (aN 2 x99 [])=true∧zJ.term<MX))∧(
      True)))∧(True))))))∧(True))))∧((decide (x<0)=false→
    (true=true→(10 !=0)=true)∧(
    ((decide ((i64.wrap (s.wait+1))≥(i64.wrap (10+(x.tmod 10))))=true→
     (True)∧(
     let Lx:=nF ({s with wait:=(i64.wrap (s.wait+1)),end_:=(i64.wrap (10+(x.tmod 10)))}:RS)
     ((true=true→Ok Lx 0))∧(
     let x95:=(fO Lx)
     (True)∧(
     let adF:=(nQ (aN 2 x95 []) Lx.id)
     (((adF&&(decide (Lx.term<1099511627776)))=true→
      ((true=true→Ok Lx 14∧gC (aN 2 x95 [])=true∧Lx.term<MX))∧(
      True)))∧(True))))))∧(True))))))∧(((s.end_==0)=false→
   ((decide ((i64.wrap (s.wait+1))≥s.end_)=true→
    (True)∧(
    let I9:=nF ({s with wait:=(i64.wrap (s.wait+1))}:RS)
    ((true=true→Ok I9 0))∧(
    let CE:=(fO I9)
    (True)∧(
    let x94:=(nQ (aN 2 CE []) I9.id)
    (((x94&&(decide (I9.term<1099511627776)))=true→
     ((true=true→Ok I9 14∧gC (aN 2 CE [])=true∧I9.term<MX))∧(
     True)))∧(True))))))∧(True)))))
def anO(se:List D)(i84:Int)(t84:RS):Prop:=
 ((decide (i84<((se:List D).length:Int))=true→
  (true=true→((decide (0≤i84))&&(decide (i84<((se:List D).length:Int))))=true)∧(
  ((true=true→Ok t84 1∧(0:Int)≤((((se).getD (i84:Int).toNat .top)).aq)∧(((((se).getD (i84:Int).toNat .top)).aq):Int)≤5))∧(
  True))))∧(True)
theorem Zh(x:Int)(s:RS)(hx:oY .i64 x)(hs:dK (.dJ fq) (encS s))(h:Ok s 20):auR x s:=by
 have hS:Ok ({s with wait:=0}:RS) 20:=h.same ig
 refine⟨fun _=>⟨fun _=>⟨fun _=>hS.le (by omega),?_⟩,trivial⟩,fun _=> ?_⟩
 ·intro RW
  have h80:gC (aN 2 RW [])=true:=mA hS
  clear_value RW
  refine⟨fun _=>⟨hS.le (by omega),h80⟩,?_⟩
  intro se
  have ak2:=mr (c:=aN 2 RW []) (s:={s with wait:=0}) h80
  change se.length≤10∧ ∀y∈se,1≤y.aq∧y.aq≤5 at ak2
  clear_value se
  obtain⟨hl,hr⟩:=ak2
  have hg: ∀i:Int,0≤i→i<se.length→1≤(se.getD i.toNat .top).aq∧(se.getD i.toNat .top).aq≤5:=by
   intro i h0 h1
   have iJ:i.toNat<se.length:=by omega
   rw[av,aW iJ]
   exact hr _ (aX iJ)
  refine VC.kH 84 (by kernel_rfl) ?_
  refine VC.jc (Φ:=cF) (Pre:=pre) (triv:=triv) (v0:=84) (decL:=fun l=>((l.getD 0 .top).aq,ub (l.drop 1))) (encL:=fun a:Int×RS=>([D.int .i64 a.1] ++Me a.2)) (dec:=Yx) (enc:=JP) (lp:=fun _ _ _ _=>(.top,dR)) (bad:=.inr (.top,dR)) (bd:=(.top,dR)) (by kernel_rfl) (fun a:Int×RS=>DU se a.1 a.2) (fun a:Int×RS=>0≤a.1∧a.1≤se.length∧Ok a.2 (1+(10-a.1.toNat))) (fun a:Int×RS=>Kq se a.1 a.2) (0,{s with wait:=0}) l3 (by kernel_rfl) ?Z2 (fun a=>rfl) ?R5 (by kernel_rfl) (fun a ha=>by kernel_rfl) (fun a=>by kernel_rfl) (fun a=>by kernel_rfl) (fun a ha jA=>zE (β:=anO se a.1 a.2) ?C2) (by kernel_rfl)
  ·exact⟨cA 0,gL _,hS.le (by show 1+(10-0)≤_;omega)⟩
  ·rintro⟨i,t⟩ ⟨h1,h2,h3⟩
   simp only at h1 h2 h3
   unfold DU
   by_cases bP:decide (i<(se.length:Int))=true
   ·rw[if_pos bP]
    rw[bQ]at bP
    have hw:IntKind.wrap .i64 (i+1)=i+1:=wrap64 (by omega) (by omega)
    dsimp only
    rw[hw]
    obtain⟨g1,g5⟩:=hg i h1 bP
    refine⟨⟨by show 0≤i+1;omega,by show i+1≤_;omega,?_⟩,by show se.length-(i+1).toNat<se.length-i.toNat;omega⟩
    exact fy.JF (h3.le (by show 1+(10-(i+1).toNat)+1≤_;omega)) (by omega) g5
   ·rw[if_neg bP];trivial
  ·obtain⟨i,t⟩:=a
   obtain⟨h1,h2,h3⟩:=ha
   simp only at h1 h2 h3
   refine⟨fun bP=> ?_,trivial⟩
   rw[bQ]at bP
   obtain⟨g1,g5⟩:=hg i h1 bP
   refine⟨fun _=> ?_,fun _=>⟨h3.le (by omega),by show 0≤(se.getD i.toNat .top).aq;omega,g5⟩,trivial⟩
   rw[bc,bQ,bQ]
   exact⟨h1,bP⟩
 ·(repeat' (first|exact trivial|apply And.intro|intro _))
  all_goals first
   |rfl
   |(refine fy.alike h (by omega) ?_;exact ig)
   |(refine mA (k:=20) (fy.alike h (by omega) ?_);exact ig)
   |(rename_i hz _;simp only[bc,bQ]at hz;exact hz.2)
theorem c15:bh Try.prog 15 s15 (pre 15) (cF 15):=by
 refine jk (given:=[(6,{boxes:=B5})]) mix acQ Try.func15 rfl (by kernel_rfl) (v:=adM) (by kernel_rfl) ?_
 intro ds h hp
 obtain⟨_,_,rfl,⟨x,rfl,hx⟩,h1⟩:=aj.1 h
 have hs:=h1
 obtain⟨s,rfl⟩:=gM h1
 refine zL Yx JP (.top,dR) (fun _ _ l=>(let RW:=(fO ({s with wait:=0}:RS));let se:=(iM (aN 2 RW []) ({s with wait:=0}:RS));zc se (l.getD 0 .top).aq (ub (l.drop 1)))) (y:=fW x s) (zE (Zh x s hx hs hp))
theorem aoZ:kr Try.prog pre cF akt:=aL c15 acQ
theorem Zn{x:D}{s:RS}(h:Fj x s=0):(cD 0 x).aq=2→gC (.agg [cD 25 x,cD 26 x])=true:=by
 intro h2
 unfold Fj at h
 split at h
 ·cases h
 ·split at h
  ·cases h
  ·split at h
   ·rename_i hq
    rw[h2]at hq
    cases hq
   ·dsimp only at h
    split at h
    ·cases h
    ·split at h
     ·cases h
     ·rename_i hx
      rw[gj,Bool.not_eq_false]at hx
      unfold Ph LS at hx
      simp only[bc]at hx
      exact hx.1.2
noncomputable def Tt:VC:=qw Try.prog akt [(8,{boxes:=B5}),(10,{drop:=[4006011]})] s16 Try.f16
attribute [irreducible] Tt
def auQ(x:D)(s:RS):Prop:=
 ((true=true→Ok s 0))∧(
 let Xq:=(Fj (aN 27 x []) s)
 (True)∧(((Xq !=0)=false→
  ((true=true→Ok s 1))∧(
  let np:=wS (aN 27 x []) s
  (True)∧(((np.1.2 !=0)=false→
   ((true=true→Ok np.2 0))∧(
   let Lu:=(fO np.2)
   ((true=true→Ok np.2 0∧gC (aN 2 Lu [])=true))∧(
   let kL:=(iM (aN 2 Lu []) np.2)
   VC.Jk cF pre H7 (fun _ _ l=>qS np kL (l.getD 0 .top).aq (ub (l.drop 1))) [] (VC.lp 82 Tt) (fU (fU (fU (fU (fun i=>([x] ++encS s).getD i .top) 61 (D.int .i64 Xq)) 67 (OP np)) 78 (Lu)) 79 (D.list kL))))))))))
def anN(np:(D×Int)×RS)(kL:List D)(i82:Int)(t82:RS):Prop:=
 ((decide (i82<((kL:List D).length:Int))=true→
  (true=true→((decide (0≤i82))&&(decide (i82<((kL:List D).length:Int))))=true)∧(
  (((((((kL).getD (i82:Int).toNat .top)).aq)==0)=true→
   (((t82.yc==((cD 0 np.1.1).aq))=true→
    ((true=true→Ok t82 1∧(0:Int)≤0∧(0:Int)≤5))∧(
    True)))∧(True)))∧(((((((kL).getD (i82:Int).toNat .top)).aq)==0)=false→
   (((((((kL).getD (i82:Int).toNat .top)).aq)==1)=true→
    (((t82.xu==((cD 0 np.1.1).aq))=true→
     ((true=true→Ok t82 1∧(0:Int)≤1∧(1:Int)≤5))∧(
     True)))∧(True)))∧(((((((kL).getD (i82:Int).toNat .top)).aq)==1)=false→
    (((((((kL).getD (i82:Int).toNat .top)).aq)==2)=true→
     (((t82.xr==((cD 0 np.1.1).aq))=true→
      ((true=true→Ok t82 1∧(0:Int)≤2∧(2:Int)≤5))∧(
      True)))∧(True)))∧(((((((kL).getD (i82:Int).toNat .top)).aq)==2)=false→
     (((((((kL).getD (i82:Int).toNat .top)).aq)==3)=true→
      (((t82.xq==((cD 0 np.1.1).aq))=true→
       ((true=true→Ok t82 1∧(0:Int)≤3∧(3:Int)≤5))∧(
       True)))∧(True)))∧(((((((kL).getD (i82:Int).toNat .top)).aq)==3)=false→
      (((((((kL).getD (i82:Int).toNat .top)).aq)==4)=true→
       (((t82.xp==((cD 0 np.1.1).aq))=true→
        ((true=true→Ok t82 1∧(0:Int)≤4∧(4:Int)≤5))∧(
        True)))∧(True)))∧(((((((kL).getD (i82:Int).toNat .top)).aq)==4)=false→
       (((((((kL).getD (i82:Int).toNat .top)).aq)==5)=true→
        (((t82.xn==((cD 0 np.1.1).aq))=true→
         ((true=true→Ok t82 1∧(0:Int)≤5∧(5:Int)≤5))∧(
         True)))∧(True)))∧(((((((kL).getD (i82:Int).toNat .top)).aq)==5)=false→
        False)))))))))))))))∧((decide (i82<((kL:List D).length:Int))=false→
  ((true=true→Ok t82 1))∧(
  True)))
theorem Zg(x:D)(s:RS)(hs:dK (.dJ fq) (encS s))(h:Ok s 20):auQ x s:=by
 refine⟨fun _=>h.le (by omega),?_⟩
 intro Xq
 have au8:Xq=Fj (aN 27 x []) s:=rfl
 clear_value Xq
 refine⟨trivial,fun hz=>⟨fun _=>h.le (by omega),?_⟩⟩
 intro np
 have hp:Ok np.2 12:=fy.put (k:=12) (h.le (by omega)) (Zn (s:=s) (by rw[←au8];simpa using hz))
 clear_value np
 refine⟨trivial,fun hq=>⟨fun _=>hp.le (by omega),?_⟩⟩
 intro Lu
 have h78:gC (aN 2 Lu [])=true:=mA hp
 clear_value Lu
 refine⟨fun _=>⟨hp.le (by omega),h78⟩,?_⟩
 intro kL
 have ak3:=mr (c:=aN 2 Lu []) (s:=np.2) h78
 change kL.length≤10∧ ∀y∈kL,1≤y.aq∧y.aq≤5 at ak3
 clear_value kL
 obtain⟨hl,hr⟩:=ak3
 have hg: ∀i:Int,0≤i→i<kL.length→1≤(kL.getD i.toNat .top).aq∧(kL.getD i.toNat .top).aq≤5:=by
  intro i h0 h1
  have iJ:i.toNat<kL.length:=by omega
  rw[av,aW iJ]
  exact hr _ (aX iJ)
 refine VC.kH 82 (by kernel_rfl) ?_
 refine VC.jc (Φ:=cF) (Pre:=pre) (triv:=triv) (v0:=82) (decL:=fun l=>((l.getD 0 .top).aq,ub (l.drop 1))) (encL:=fun a:Int×RS=>([D.int .i64 a.1] ++Me a.2)) (dec:=VL) (enc:=H7) (lp:=fun _ _ _ _=>((.top,0,.top),dR)) (bad:=.inr ((.top,0,.top),dR)) (bd:=((.top,0,.top),dR)) (by kernel_rfl) (fun a:Int×RS=>oV np kL a.1 a.2) (fun a:Int×RS=>0≤a.1∧a.1≤kL.length∧Ok a.2 (1+(10-a.1.toNat))) (fun a:Int×RS=>Bi np kL a.1 a.2) (0,np.2) l3 (by kernel_rfl) ?Z2 (fun a=>rfl) ?R5 (by kernel_rfl) (fun a ha=>by kernel_rfl) (fun a=>by kernel_rfl) (fun a=>by kernel_rfl) (fun a ha jA=>zE (β:=anN np kL a.1 a.2) ?C2) (by kernel_rfl)
 ·exact⟨cA 0,gL _,hp.le (by show 1+(10-0)≤_;omega)⟩
 ·rintro⟨i,t⟩ ⟨h1,h2,h3⟩
  simp only at h1 h2 h3
  unfold oV
  by_cases bP:decide (i<(kL.length:Int))=true
  ·rw[if_pos bP]
   rw[bQ]at bP
   have hw:IntKind.wrap .i64 (i+1)=i+1:=wrap64 (by omega) (by omega)
   dsimp only
   rw[hw]
   obtain⟨g1,g5⟩:=hg i h1 bP
   have N2:(kL.getD i.toNat .top).aq=1∨(kL.getD i.toNat .top).aq=2∨(kL.getD i.toNat .top).aq=3∨(kL.getD i.toNat .top).aq=4∨(kL.getD i.toNat .top).aq=5:=by omega
   rcases N2 with hv|hv|hv|hv|hv
   ·rw[if_neg (by rw[hv];decide),if_pos (by rw[hv];rfl)]
    by_cases hn:(t.xu==((cD 0 np.1.1).aq))=true
    ·rw[if_pos hn]
     refine⟨⟨by show 0≤i+1;omega,by show i+1≤_;omega,?_⟩,by show kL.length-(i+1).toNat<kL.length-i.toNat;omega⟩
     show Ok (gE 1 t) (1+(10-(i+1).toNat))
     exact fy.JF (h3.le (by show 1+(10-(i+1).toNat)+1≤_;omega)) (by decide) (by decide)
    ·rw[if_neg hn]
     exact⟨⟨by show 0≤i+1;omega,by show i+1≤_;omega,h3.le (by show 1+(10-(i+1).toNat)≤_;omega)⟩,by show kL.length-(i+1).toNat<kL.length-i.toNat;omega⟩
   ·rw[if_neg (by rw[hv];decide),if_neg (by rw[hv];decide),if_pos (by rw[hv];rfl)]
    by_cases hn:(t.xr==((cD 0 np.1.1).aq))=true
    ·rw[if_pos hn]
     refine⟨⟨by show 0≤i+1;omega,by show i+1≤_;omega,?_⟩,by show kL.length-(i+1).toNat<kL.length-i.toNat;omega⟩
     show Ok (gE 2 t) (1+(10-(i+1).toNat))
     exact fy.JF (h3.le (by show 1+(10-(i+1).toNat)+1≤_;omega)) (by decide) (by decide)
    ·rw[if_neg hn]
     exact⟨⟨by show 0≤i+1;omega,by show i+1≤_;omega,h3.le (by show 1+(10-(i+1).toNat)≤_;omega)⟩,by show kL.length-(i+1).toNat<kL.length-i.toNat;omega⟩
   ·rw[if_neg (by rw[hv];decide),if_neg (by rw[hv];decide),if_neg (by rw[hv];decide),if_pos (by rw[hv];rfl)]
    by_cases hn:(t.xq==((cD 0 np.1.1).aq))=true
    ·rw[if_pos hn]
     refine⟨⟨by show 0≤i+1;omega,by show i+1≤_;omega,?_⟩,by show kL.length-(i+1).toNat<kL.length-i.toNat;omega⟩
     show Ok (gE 3 t) (1+(10-(i+1).toNat))
     exact fy.JF (h3.le (by show 1+(10-(i+1).toNat)+1≤_;omega)) (by decide) (by decide)
    ·rw[if_neg hn]
     exact⟨⟨by show 0≤i+1;omega,by show i+1≤_;omega,h3.le (by show 1+(10-(i+1).toNat)≤_;omega)⟩,by show kL.length-(i+1).toNat<kL.length-i.toNat;omega⟩
   ·rw[if_neg (by rw[hv];decide),if_neg (by rw[hv];decide),if_neg (by rw[hv];decide),if_neg (by rw[hv];decide),if_pos (by rw[hv];rfl)]
    by_cases hn:(t.xp==((cD 0 np.1.1).aq))=true
    ·rw[if_pos hn]
     refine⟨⟨by show 0≤i+1;omega,by show i+1≤_;omega,?_⟩,by show kL.length-(i+1).toNat<kL.length-i.toNat;omega⟩
     show Ok (gE 4 t) (1+(10-(i+1).toNat))
     exact fy.JF (h3.le (by show 1+(10-(i+1).toNat)+1≤_;omega)) (by decide) (by decide)
    ·rw[if_neg hn]
     exact⟨⟨by show 0≤i+1;omega,by show i+1≤_;omega,h3.le (by show 1+(10-(i+1).toNat)≤_;omega)⟩,by show kL.length-(i+1).toNat<kL.length-i.toNat;omega⟩
   ·rw[if_neg (by rw[hv];decide),if_neg (by rw[hv];decide),if_neg (by rw[hv];decide),if_neg (by rw[hv];decide),if_neg (by rw[hv];decide),if_pos (by rw[hv];rfl)]
    by_cases hn:(t.xn==((cD 0 np.1.1).aq))=true
    ·rw[if_pos hn]
     refine⟨⟨by show 0≤i+1;omega,by show i+1≤_;omega,?_⟩,by show kL.length-(i+1).toNat<kL.length-i.toNat;omega⟩
     show Ok (gE 5 t) (1+(10-(i+1).toNat))
     exact fy.JF (h3.le (by show 1+(10-(i+1).toNat)+1≤_;omega)) (by decide) (by decide)
    ·rw[if_neg hn]
     exact⟨⟨by show 0≤i+1;omega,by show i+1≤_;omega,h3.le (by show 1+(10-(i+1).toNat)≤_;omega)⟩,by show kL.length-(i+1).toNat<kL.length-i.toNat;omega⟩
  ·rw[if_neg bP];trivial
 ·obtain⟨i,t⟩:=a
  obtain⟨h1,h2,h3⟩:=ha
  simp only at h1 h2 h3
  refine⟨fun bP=> ?_,fun _=>⟨fun _=>h3.le (by omega),trivial⟩⟩
  rw[bQ]at bP
  obtain⟨g1,g5⟩:=hg i h1 bP
  refine⟨fun _=>by rw[bc,bQ,bQ];exact⟨h1,bP⟩,?_⟩
  generalize (kL.getD i.toNat .top).aq=v at g1 g5⊢
  (repeat' (first|exact trivial|apply And.intro|intro _))
  all_goals first
   |exact h3.le (by omega)
   |decide
   |(simp only[beq_eq_false_iff_ne,ne_eq]at*;omega)
theorem c16:bh Try.prog 16 s16 (fun ds=>Ok (jw (ds.drop 1)) 20) (fun ds=>H7 (cG (ds.getD 0 .top) (jw (ds.drop 1)))):=by
 refine jk (given:=[(8,{boxes:=B5}),(10,{drop:=[4006011]})]) mix aoZ Try.func16 rfl (by kernel_rfl) (v:=Tt) (by kernel_rfl) ?_
 intro ds h hp
 obtain⟨x,_,rfl,hx,h1⟩:=aj.1 h
 have hs:=h1
 obtain⟨s,rfl⟩:=gM h1
 refine zL VL H7 ((.top,0,.top),dR) (fun _ _ l=>(let Xq:=(Fj (aN 27 x []) s);let np:=wS (aN 27 x []) s;let Lu:=(fO np.2);let kL:=(iM (aN 2 Lu []) np.2);qS np kL (l.getD 0 .top).aq (ub (l.drop 1)))) (y:=cG x s) (zE (Zg x s hs hp))
structure Idle(s:RS):Prop where
 save:s.save=false
 snap:s.jG= .gW
 com:s.cb=[]
 Yw:s.dS=[]
 msgs:s.msgs=[]
structure One(s:RS)(es:List D):Prop where
 id:s.id=1
 fv:s.fv=[.int .i64 1]
 fl:s.fl=[]
 li:s.li=0
 lt:s.lt=0
 le:s.le=es
def yu(es:List D):Prop:= ∀e∈es,(cD 2 e).aq≠2
def Jz:D:=.agg [.list [.int .i64 1],.list []]
theorem wu{s:RS}{es:List D}(h:One s es)(hn:yu es)(hl:es.length≤4194304):fO s=Jz:=by
 unfold fO Dc uW
 dsimp only
 refine mC (fun a:Int×List D×List D=>a.1≤4194304) (fun r=>aN 2 r [] =Jz) (fun a=>(a.1-s.li).toNat) ?_ _ _ (by show s.li+(s.le.length:Int)≤_;rw[h.li,h.le];omega) (fb _)
 rintro⟨i,j,k⟩ ha
 simp only at ha
 unfold qb
 by_cases hi:decide (i>(iK s.li s.lt s.le).1)=true
 ·rw[if_pos hi]
  have Hg:0<i:=by
   have:=of_decide_eq_true hi
   rw[show(iK s.li s.lt s.le).1=s.li from rfl,h.li]at this
   exact this
  dsimp only
  rw[if_neg (by
   intro hq
   rw[bc,beq_iff_eq,beq_iff_eq]at hq
   obtain⟨h1,h2⟩:=hq
   have h1':(iS s.li s.le i 1).length=1:=by exact_mod_cast h1
   obtain⟨y,hy⟩:=bO.1 h1'
   have hm:y∈es:=by rw[←h.le];exact Gk (i:=s.li) (f:=i) (m:=1) (by rw[hy];exact aA.2 rfl)
   refine hn y hm ?_
   have e:fk s.li s.lt s.le i 1=[y] :=hy
   rw[e]at h2
   exact h2)]
  rw[wrap64 (by omega) (by omega)]
  refine⟨by show i-1≤_;omega,?_⟩
  show(i-1-s.li).toNat<(i-s.li).toNat
  rw[h.li];omega
 ·rw[if_neg hi]
  show aN 2 (qc s (iK s.li s.lt s.le)) [] =Jz
  unfold qc
  rw[if_neg (by rw[show(iK s.li s.lt s.le).1=s.li from rfl,h.li];decide),h.fv,h.fl]
  rfl
theorem Bj{s:RS}(fD:s.id=1):iM Jz s=[] :=by
 unfold iM rY
 have hm:kE (aN 2 Jz [])=[.int .i64 1] :=by rfl
 have e1:lB s [.int .i64 1] [] 0= .inl ([],1):=by
  unfold lB
  rw[if_pos (by decide),if_neg (by rw[fD];decide)];rfl
 have e2:lB s [.int .i64 1] [] 1= .inr [] :=by
  unfold lB
  rw[if_neg (by decide)];rfl
 rw[hm]
 show ik (fun a:List D×Int=>lB s [.int .i64 1] a.1 a.2) [] 2 ([],0)=[]
 simp only[ik,e1,e2]
theorem Qu{es:List D}{t:Int}(h0:0<es.length)(ht:fA 0 es=t):jE 0 0 es es.length=(t,0):=by
 unfold jE
 rw[if_neg (by omega),if_neg (by omega),show((es.length:Int)-0-1).toNat=es.length-1 by omega]
 obtain⟨x,hx⟩: ∃x,es[es.length-1]? =some x:=⟨_,aW (by omega)⟩
 rw[hx]
 dsimp only
 rw[←ht,wC hx]
theorem WO{es:List D}(h:yu es):ni es (D.fn 84 [])=false:=by
 unfold ni
 rw[List.any_eq_false]
 intro x hx
 have:=h x hx
 show¬rm x=true
 unfold rm
 simpa using this
theorem NW{m:Int}{r:List Int}(hm:0<m)(hr:r.length=4):px Jz (.list ((m::r).map (D.int .i64)))=m:=by
 unfold px
 rw[eX,Va]
 have hv:vo Jz=[1] :=by rfl
 rw[hv]
 unfold xI
 rw[if_neg (by simp)]
 have:ov (m::r) 1=m:=by
  unfold ov
  rw[if_pos ⟨by omega,by rw[bM];omega⟩]
  have e:(m::r).getD ((1:Int)-1).toNat 0=m:=rfl
  rw[e,if_pos hm]
 simp[kT,this]
theorem AP{s:RS}{es:List D}(h:One s es)(hn:yu es)(hl:es.length≤4194304)(hc:0≤s.aZ)(bP:s.aZ<es.length)(ht:fA 0 es=s.term):
  ji s={s with cb:=s.cb++es.drop s.aZ.toNat,aZ:=(es.length:Int)}:=by
 unfold ji rX
 dsimp only
 have hx:gn s.li s.lt s.le=((es.length:Int),s.term):=by
  unfold gn
  rw[h.li,h.lt,h.le,ht,Int.zero_add]
 rw[hx]
 generalize au9:((es.length:Int),s.term)=jm
 have e0: ∀l,je s jm l 0= .inl ((l.take (0:Int).toNat)++(D.int .i64 s.Cf::((l.drop (0:Int).toNat).drop (1:Int).toNat)),1):=fun _=>rfl
 have e1: ∀l,je s jm l 1= .inl ((l.take (1:Int).toNat)++(D.int .i64 s.BN::((l.drop (1:Int).toNat).drop (1:Int).toNat)),2):=fun _=>rfl
 have e2: ∀l,je s jm l 2= .inl ((l.take (2:Int).toNat)++(D.int .i64 s.BL::((l.drop (2:Int).toNat).drop (1:Int).toNat)),3):=fun _=>rfl
 have e3: ∀l,je s jm l 3= .inl ((l.take (3:Int).toNat)++(D.int .i64 s.BJ::((l.drop (3:Int).toNat).drop (1:Int).toNat)),4):=fun _=>rfl
 have e4: ∀l,je s jm l 4= .inl ((l.take (4:Int).toNat)++(D.int .i64 s.BH::((l.drop (4:Int).toNat).drop (1:Int).toNat)),5):=fun _=>rfl
 have e5: ∀l,je s jm l 5= .inr (nT s jm l):=fun _=>rfl
 show ik (fun a:List D×Int=>je s jm a.1 a.2) dR 6 ([D.int .i64 0,D.int .i64 0,D.int .i64 0,D.int .i64 0,D.int .i64 0],0)=_
 simp only[ik,e0,e1,e2,e3,e4,e5]
 show nT s jm [D.int .i64 s.Cf,D.int .i64 s.BN,D.int .i64 s.BL,D.int .i64 s.BJ,D.int .i64 s.BH] =_
 subst au9
 unfold nT
 dsimp only
 rw[wu h hn hl,h.id]
 have ha:px (aN 2 Jz []) (D.list (([D.int .i64 s.Cf,D.int .i64 s.BN,D.int .i64 s.BL,D.int .i64 s.BJ,D.int .i64 s.BH].take ((i64.wrap (1-1)):Int).toNat)++(D.int .i64 (es.length:Int)::(([D.int .i64 s.Cf,D.int .i64 s.BN,D.int .i64 s.BL,D.int .i64 s.BJ,D.int .i64 s.BH].drop ((i64.wrap (1-1)):Int).toNat).drop (1:Int).toNat))))=(es.length:Int):=
  NW (m:=(es.length:Int)) (r:=[s.BN,s.BL,s.BJ,s.BH]) (by omega) rfl
 rw[ha]
 have yd:jM s.li s.lt s.le (es.length:Int)=(s.term,0):=by
  unfold jM
  rw[h.li,h.lt,h.le]
  exact Qu (by omega) ht
 rw[yd]
 rw[if_neg (by simp;omega)]
 have Jg:jS (es.length:Int) s=(false,{s with cb:=s.cb++es.drop s.aZ.toNat,aZ:=(es.length:Int)}):=by
  unfold jS
  rw[if_neg (by simp;omega)]
  dsimp only
  have hs:fk s.li s.lt s.le (i64.wrap (s.aZ+1)) (i64.wrap ((es.length:Int)-s.aZ))=es.drop s.aZ.toNat:=by
   rw[wrap64 (by omega) (by omega),wrap64 (by omega) (by omega),h.li,h.le]
   unfold fk iS
   rw[if_neg (by omega),show(s.aZ+1-0-1).toNat=s.aZ.toNat by omega,eM (by rw[bF];omega)]
  rw[hs,WO (fun e he=>hn e (eL he))]
 rw[Jg]
 dsimp only
 rw[if_neg (by simp),h.id]
theorem ZC{l:List D}{n:Nat}(h:l.length=n):aN n (.agg l) [] = .agg l:=by
 unfold aN
 congr 1
 refine gi fun j=> ?_
 rw[ah]
 by_cases hj:j<n
 ·rw[dN hj]
  show some (l.getD j .top)=l[j]?
  rw[av,aW (by omega)];rfl
 ·rw[fM (by rw[gh];omega),fM (by omega)];rfl
def nE(es:List D)(T:Int)(x:D):D:=Yc 0 0 es T (aN 27 x [])
theorem VA(es:List D)(T:Int)(x:D):aN 29 (nE es T x) [] =nE es T x:=ZC (by simp[aN,D.aV])
theorem Ij{s:RS}{es:List D}{T:Int}{x:D}(h:One s es)(hT:s.term=T)(h1:1≤T)(hM:T≤MX)(hl:fA 0 es≤T)(hlen:(es.length:Int)<MX):
  wS x s=((nE es T x,0),{s with save:=true,li:=0,lt:=0,le:=es++[nE es T x],dS:=s.dS++[nE es T x]}):=by
 unfold wS
 have ho:X8 s.li s.lt s.le s.term (aN 27 x [])=((nE es T x,0),0,0,es++[nE es T x]):=by
  unfold X8
  have hp:tY 0 0 es T=0:=by
   unfold tY
   rw[if_neg (by omega),if_neg (by omega)]
  rw[h.li,h.lt,h.le,hT]
  unfold Fk wT
  rw[hp,if_pos rfl,if_pos rfl]
  rfl
 rw[ho]
 dsimp only
 rw[if_pos (by rfl),VA]
 rfl
theorem zk{es:List D}{T:Int}{x:D}(h:yu es)(hx:(cD 0 x).aq≠2):yu (es++[nE es T x]):=by
 intro e he
 rcases aS.1 he with he|he
 ·exact h e he
 ·rw[aA.1 he];exact hx
theorem wD{es:List D}{T:Int}{x:D}:fA 0 (es++[nE es T x])=T:=by
 rw[wC (x:=nE es T x) (by simp)];rfl
theorem vp{s:RS}{es:List D}{T:Int}{x:D}(h:One s es)(hn:yu es)(hlen:es.length<4194304)(hT:s.term=T)(h1:1≤T)(hM:T≤MX)(hl:fA 0 es=T)(hc:s.aZ=es.length)(hr:s.role=2)(wW:(cD 0 x).aq≠1)(r7:(cD 0 x).aq≠2):
  cG x s=((nE es T (aN 27 x []),0,(fj {s with save:=true,li:=0,lt:=0,le:=es++[nE es T (aN 27 x [])],dS:=s.dS++[nE es T (aN 27 x [])],cb:=s.cb++[nE es T (aN 27 x [])],aZ:=(es.length:Int)+1}).1),
   (fj {s with save:=true,li:=0,lt:=0,le:=es++[nE es T (aN 27 x [])],dS:=s.dS++[nE es T (aN 27 x [])],cb:=s.cb++[nE es T (aN 27 x [])],aZ:=(es.length:Int)+1}).2):=by
 have He:MX=1099511627776:=rfl
 have c0:(cD 0 (aN 27 x [])).aq=(cD 0 x).aq:=rfl
 unfold cG
 have hm:Fj (aN 27 x []) s=0:=by
  unfold Fj
  rw[if_neg (by rw[hr];decide),if_neg (by rw[c0];simpa using wW),if_pos (by rw[c0];simpa using r7)]
 dsimp only
 rw[hm,if_neg (by decide),Ij h hT h1 hM (by omega) (by omega)]
 dsimp only
 rw[if_neg (by decide)]
 generalize he:nE es T (aN 27 x [])=e
 have hn':yu (es++[e]):=by rw[←he];exact zk hn (by rw[c0];exact r7)
 have j6:fA 0 (es++[e])=T:=by rw[←he];exact wD
 have ho:One ({s with save:=true,li:=0,lt:=0,le:=es++[e],dS:=s.dS++[e]}:RS) (es++[e]):=⟨h.id,h.fv,h.fl,rfl,rfl,rfl⟩
 have OI:(es++[e]).length=es.length+1:=by simp
 rw[wu ho hn' (by omega)]
 rw[show aN 2 Jz [] =Jz from rfl,Bj ho.id]
 unfold qS
 show ik (fun a:Int×RS=>oV ((e,0),_) [] a.1 a.2) _ 1 (0,_)=_
 have e0: ∀t,oV ((e,0),({s with save:=true,li:=0,lt:=0,le:=es++[e],dS:=s.dS++[e]}:RS)) [] 0 t= .inr (vn ((e,0),({s with save:=true,li:=0,lt:=0,le:=es++[e],dS:=s.dS++[e]}:RS)) t):=fun _=>rfl
 simp only[ik,e0]
 unfold vn
 dsimp only
 rw[AP ho hn' (by omega) (by show 0≤s.aZ;omega) (by show s.aZ<_;rw[OI];omega) (by rw[j6];exact hT.symm)]
 have hd:(es++[e]).drop s.aZ.toNat=[e] :=by
  rw[hc,cE,List.drop_append_of_le_length (bn _),List.drop_length];rfl
 have av2:aN 29 e [] =e:=by rw[←he];exact VA _ _ _
 dsimp only
 rw[hd,av2,OI]
 rfl
structure Led(s t:RS)(es:List D):Prop where
 one:One t es
 role:t.role=2
 term:t.term=s.term
 vote:t.vote=s.vote
 aZ:t.aZ=es.length
 cb:t.cb=s.cb++es.drop s.aZ.toNat
 save:t.save=true
 msgs:t.msgs=s.msgs
 jG:t.jG=s.jG
 iZ:t.iZ=s.iZ
theorem Wn{s:RS}{es:List D}{T:Int}(h:One s es)(hn:yu es)(hlen:es.length<4194304)(hT:s.term=T)(h1:1≤T)(hM:T≤MX)(hl:fA 0 es≤T)(hc:0≤s.aZ)(wP:s.aZ≤es.length):
  Led s (tL s) (es++[nE es T (aN 27 JQ [(0,D.int .i64 1)])])∧(tL s).dS=s.dS++[nE es T (aN 27 JQ [(0,D.int .i64 1)])] :=by
 have He:MX=1099511627776:=rfl
 generalize he:nE es T (aN 27 JQ [(0,D.int .i64 1)])=e
 have hn':yu (es++[e]):=by rw[←he];exact zk hn (by decide)
 have j6:fA 0 (es++[e])=T:=by rw[←he];exact wD
 have OI:(es++[e]).length=es.length+1:=by simp
 unfold tL uV
 dsimp only
 generalize gn s.li s.lt s.le=jm
 have e0: ∀t,kD jm 0 t= .inl (1,({t with Ja:=0,yc:=(i64.wrap (jm.1+1)),BP:=0}:RS)):=fun _=>rfl
 have e1: ∀t,kD jm 1 t= .inl (2,({t with Cf:=0,xu:=(i64.wrap (jm.1+1)),BO:=0}:RS)):=fun _=>rfl
 have e2: ∀t,kD jm 2 t= .inl (3,({t with BN:=0,xr:=(i64.wrap (jm.1+1)),BM:=0}:RS)):=fun _=>rfl
 have e3: ∀t,kD jm 3 t= .inl (4,({t with BL:=0,xq:=(i64.wrap (jm.1+1)),BK:=0}:RS)):=fun _=>rfl
 have e4: ∀t,kD jm 4 t= .inl (5,({t with BJ:=0,xp:=(i64.wrap (jm.1+1)),BI:=0}:RS)):=fun _=>rfl
 have e5: ∀t,kD jm 5 t= .inl (6,({t with BH:=0,xn:=(i64.wrap (jm.1+1)),BG:=0}:RS)):=fun _=>rfl
 have e6: ∀t,kD jm 6 t= .inr (rR t):=fun _=>rfl
 have hl7: ∀t,ik (fun a:Int×RS=>kD jm a.1 a.2) dR 7 (0,t)=rR {t with Ja:=0,yc:=(i64.wrap (jm.1+1)),BP:=0,Cf:=0,xu:=(i64.wrap (jm.1+1)),BO:=0,BN:=0,xr:=(i64.wrap (jm.1+1)),BM:=0,BL:=0,xq:=(i64.wrap (jm.1+1)),BK:=0,BJ:=0,xp:=(i64.wrap (jm.1+1)),BI:=0,BH:=0,xn:=(i64.wrap (jm.1+1)),BG:=0}:=by
  intro t
  simp only[ik,e0,e1,e2,e3,e4,e5,e6]
 have al2:ng jm 0 ({s with role:=2,bR:=s.id,wait:=0,round:=0,reads:=[]}:RS)+1=7:=rfl
 rw[al2,hl7]
 generalize ht:({({s with role:=2,bR:=s.id,wait:=0,round:=0,reads:=[]}:RS) with Ja:=0,yc:=(i64.wrap (jm.1+1)),BP:=0,Cf:=0,xu:=(i64.wrap (jm.1+1)),BO:=0,BN:=0,xr:=(i64.wrap (jm.1+1)),BM:=0,BL:=0,xq:=(i64.wrap (jm.1+1)),BK:=0,BJ:=0,xp:=(i64.wrap (jm.1+1)),BI:=0,BH:=0,xn:=(i64.wrap (jm.1+1)),BG:=0}:RS)=t
 have ot:One t es:=by subst ht;exact⟨h.id,h.fv,h.fl,h.li,h.lt,h.le⟩
 have tT:t.term=T:=by subst ht;exact hT
 have tf:t.role=2∧t.vote=s.vote∧t.aZ=s.aZ∧t.cb=s.cb∧t.msgs=s.msgs∧t.jG=s.jG∧t.iZ=s.iZ∧t.dS=s.dS∧t.term=s.term:=by subst ht;exact⟨rfl,rfl,rfl,rfl,rfl,rfl,rfl,rfl,rfl⟩
 clear ht hl7 al2 e0 e1 e2 e3 e4 e5 e6
 obtain⟨t1,t2,t3,t4,t5,t6,t7,t8,t9⟩:=tf
 unfold rR
 dsimp only
 rw[Ij ot tT h1 hM hl (by omega),he]
 dsimp only
 have ho:One ({t with save:=true,li:=0,lt:=0,le:=es++[e],dS:=t.dS++[e]}:RS) (es++[e]):=⟨ot.id,ot.fv,ot.fl,rfl,rfl,rfl⟩
 rw[wu ho hn' (by omega),show aN 2 Jz [] =Jz from rfl,Bj ho.id]
 unfold wo
 have f0: ∀t,pI [] 0 t= .inr (AD t):=fun _=>rfl
 show Led s (ik (fun a:Int×RS=>pI [] a.1 a.2) dR 1 (0,_)) (es++[e])∧(ik (fun a:Int×RS=>pI [] a.1 a.2) dR 1 (0,_)).dS=_
 simp only[ik,f0]
 unfold AD
 dsimp only
 rw[AP ho hn' (by omega) (by show 0≤t.aZ;omega) (by show t.aZ<_;rw[OI];omega) (by rw[j6];exact tT.symm)]
 refine⟨⟨⟨ot.id,ot.fv,ot.fl,rfl,rfl,rfl⟩,t1,t9,t2,rfl,?_,rfl,t5,t6,t7⟩,?_⟩
 ·show t.cb++_=_
  rw[t4,t3]
 ·show t.dS++[e] =_
  rw[t8]
theorem Qy{s:RS}{es:List D}{T:Int}(h:One s es)(hT:s.term=T)(h0:0≤T)(hM:T<MX):
  rj Jz s=tL {s with save:=true,term:=T+1,vote:=1,role:=1,bR:=0,bJ:=[.int .i64 1]}:=by
 have He:MX=1099511627776:=rfl
 unfold rj ij
 dsimp only
 rw[hT,wrap64 (by omega) (by omega),h.id]
 have hm:mD (aN 2 Jz []) (D.list ([D.int .i64 1] :List D))=true:=by rfl
 rw[hm,if_pos rfl]
theorem Gi{s:RS}{j:Int}(hr:s.role=0)(hw:s.wait=j)(h0:0≤j)(h9:j<9)(he:s.end_=if j=0 then 0 else 10):fW 0 s=fj {s with wait:=j+1,end_:=10}:=by
 unfold fW
 rw[if_neg (by rw[hr];decide)]
 by_cases hj:j=0
 ·subst hj
  rw[if_pos rfl]at he
  rw[if_pos (by rw[he];decide),if_neg (by decide),hw,if_neg (by decide)]
  rfl
 ·rw[if_neg hj]at he
  rw[if_neg (by rw[he];decide),hw,wrap64 (by omega) (by omega),if_neg (by rw[he,bQ];omega)]
  have e:({s with wait:=j+1,end_:=10}:RS)={s with wait:=j+1,end_:=s.end_}:=by rw[he]
  rw[e]
  rfl
theorem Qt{s:RS}{es:List D}{T:Int}(h:One s es)(hn:yu es)(hlen:es.length≤4194304)(hr:s.role=0)(hw:s.wait=9)(he:s.end_=10)(hT:s.term=T)(h0:0≤T)(hM:T<MX):
  fW 0 s=fj (tL {s with wait:=0,end_:=0,save:=true,term:=T+1,vote:=1,role:=1,bR:=0,bJ:=[.int .i64 1]}):=by
 have He:MX=1099511627776:=rfl
 unfold fW
 rw[if_neg (by rw[hr];decide),if_neg (by rw[he];decide),if_pos (by rw[hw,he];decide)]
 have ho:One (nF ({s with wait:=i64.wrap (s.wait+1)}:RS)) es:=⟨h.id,h.fv,h.fl,h.li,h.lt,h.le⟩
 dsimp only
 rw[wu ho hn hlen,show aN 2 Jz [] =Jz from rfl,ho.id]
 have hv:nQ Jz 1=true:=by rfl
 have ht:(nF ({s with wait:=i64.wrap (s.wait+1)}:RS)).term=T:=hT
 rw[hv,ht,if_pos (by rw[Bool.true_and,bQ];omega),Qy ho ht h0 hM]
 rfl
end Go.Proofs.Ytjhmkaninmgilaa
namespace Go.dV
open Go Go.RowKit
section
variable{P:Program}{a:Act}{w:World}{dst:Option Nat}{ty:TypeId}{pos:String}{af:Array Edge}{gd:Option (Nat×Bool)}
theorem O4(a:Act)(d t:Nat)(v:Value):(a.put (some d) v).tmps[t]? =if d=t then(if d<a.tmps.size then some v else none) else a.tmps[t]? :=by
 simp only[Act.put,Array.getElem?_setIfInBounds]
theorem V6{a:Act}{d n:Nat}{v:Value}(h:a.tmps.size=n)(hd:d<n):(a.put (some d) v).tmps[d]? =some v:=by rw[O4,if_pos rfl,if_pos (by omega)]
theorem QI{a:Act}{d t:Nat}{v:Value}(h:d≠t):(a.put (some d) v).tmps[t]? =a.tmps[t]? :=by rw[O4,if_neg h]
theorem WH{a:Act}{t:Nat}{v:Value}(h:a.tmps[t]? =some v):a.eval (.tmp t)=v:=by simp[Act.eval,h]
theorem ES{t:TypeId}{f off b o:Nat}{x:Operand}(h:(nb P t f).map (fun y=>(y.1.offset,decide (0<y.2)))=some (off,true))(hx:a.eval x= .pointer (some ⟨b,o,none⟩)):
  (execOp a.eval ⟨dst,.fieldAddr t x f,ty,pos,af,gd⟩).run P w= .ok (.value (.pointer (some ⟨b,o+off,none⟩))) w:=by
 cases hf:nb P t f with
 |none=>rw[hf]at h;cases h
 |some y=>
  obtain⟨fl,n⟩:=y
  rw[hf]at h
  simp only[aP,ae,ai,bQ]at h
  obtain⟨rfl,hn⟩:=h
  obtain⟨n,rfl⟩: ∃m,n=m+1:=⟨n-1,by omega⟩
  unfold execOp;simp only[hx]
  rw[bA,mF hf b o];rfl
theorem NO{t:TypeId}{x:Operand}{ad:Addr}{v:Value}(ha:j5 P t=false)(hu:(P.underlying t).isSome=true)(hx:a.eval x= .pointer (some ad))(hc:w.cell? ad=some v):
  (execOp a.eval ⟨dst,.load t x,ty,pos,af,gd⟩).run P w= .ok (.value v) w:=by
 unfold execOp;simp only[hx]
 rw[bA,pA ha hu hc];rfl
theorem NN{t:TypeId}{x:Operand}{b off n:Nat}{vs:List Value}(hs:jF P t=some n)(ha:j5 P t=true)(hx:a.eval x= .pointer (some ⟨b,off,none⟩))(hl:vs.length=n)
  (hc: ∀(j:Nat) v,vs[j]? =some v→w.cell? ⟨b,off+j,none⟩=some v):
  (execOp a.eval ⟨dst,.load t x,ty,pos,af,gd⟩).run P w= .ok (.value (.agg vs.toArray)) w:=by
 unfold execOp;simp only[hx]
 rw[bA,lq hs ha hl hc];rfl
theorem Rj{x:Operand}:(execOp a.eval ⟨dst,.move x,ty,pos,af,gd⟩).run P w= .ok (.value (a.eval x)) w:=by unfold execOp;rfl
theorem Lf{x:Operand}:(execOp a.eval ⟨dst,.assign x,ty,pos,af,gd⟩).run P w= .ok (.value (a.eval x)) w:=by unfold execOp;rfl
theorem NM{t:TypeId}{x y:Operand}{b off:Nat}{cur:Array Value}{T:TypeId}{vs:List Value}(hs:jF P t=some vs.length)(hx:a.eval x= .pointer (some ⟨b,off,none⟩))(hy:(a.eval y).cells=vs.toArray)
  (kR:w.heap[b]? =some (.cells cur T (0,0))) (hlen:off+vs.length≤cur.size) (kv: ∀v∈vs,v.oneCell'=true):
  (execOp a.eval ⟨dst,.store t x y,ty,pos,af,gd⟩).run P w= .ok .skip (w.setRow b (cur.toList.take off++vs++cur.toList.drop (off+vs.length)).toArray):=by
 have oZ:=run_storeCells_at P b off T vs 0 cur w kR (by omega) kv
 simp only[ep]at oZ
 have h1:=jd (P:=P) (w:=w) hs
 unfold execOp;simp only[hx,Instr.storeAt,Instr.sureAddr]
 simp[storeVar,h1,hy]
 simp at oZ
 rw[oZ];rfl
theorem WG{t t2:TypeId}{x y:Operand}{k:IntKind}{m n:Int}(hx:a.eval x= .int k m)(hy:a.eval y= .int k n):(execOp a.eval ⟨dst,.binOp .add t x y t2,ty,pos,af,gd⟩).run P w= .ok (.value (.int k (k.wrap (m+n)))) w:=by
 unfold execOp;simp[hx,hy,eqGuard,binOp,Op.intArith]
theorem WE{t el:TypeId}{x:Operand}{A:Option Addr}{n c:Nat}(hu:P.underlying t=some (.slice el))(hx:a.eval x= .slice A n c):(execOp a.eval ⟨dst,.call {callee:=.builtin .len,args:= #[x],argTypes:= #[t]},ty,pos,af,gd⟩).run P w= .ok (.value (.int .i64 n)) w:=by
 unfold execOp;simp only[resolve,invoke,builtin]
 simp[Builtin.len_,hx,run_underlying hu,goInt]
theorem NP{t:TypeId}{n:Nat}(h:((P.info? t).bind (·.zero)).map (fun z=>z.cells.size)=some n):
  ∃zs:Array Value,zs.size=n∧(execOp a.eval ⟨dst,.alloc t,ty,pos,af,gd⟩).run P w= .ok (.value (.pointer (some ⟨w.heap.size,0,none⟩))) (w.alloc (.cells zs t)):=by
 cases hi:P.info? t with
 |none=>rw[hi]at h;cases h
 |some it=>
  cases hz:it.zero with
  |none=>rw[hi]at h;simp[hz]at h
  |some z=>
   rw[hi]at h
   simp[hz]at h
   refine⟨z.cells,h,?_⟩
   unfold execOp;simp only[Instr.alloc]
   simp[zeroValue,typeInfo,hi,hz,newVar,newRow]
theorem WD{t:TypeId}{x:Operand}{b:Bool}(hx:a.eval x= .bool b):(execOp a.eval ⟨dst,.unOp .not t x,ty,pos,af,gd⟩).run P w= .ok (.value (.bool (!b))) w:=by
 unfold execOp;simp[hx,Op.unary]
theorem Rk{k:Nat}{args:Array Operand}{ts:Array TypeId}{vs:List Value}(he: ∀(args:Array Value) (w:World),(callFunc k args).run P w= .ok (.enter k args) w)(hv:args.map a.eval=vs.toArray):
  (execOp a.eval ⟨dst,.call {callee:=.value (.func k),args,argTypes:=ts},ty,pos,af,gd⟩).run P w= .ok (.enter k vs.toArray) w:=by
 unfold execOp
 have:=he vs.toArray w
 simpa [resolve,Act.eval,Deferred.ofValue,invoke,hv]using this
variable{ops:Array Oper}{Q:Exit→Act→World→Prop}{rest:List Nat}{i:Nat}{o:Oper}
variable{S:World→Prop}{fuel:Nat}{bY:Array Bool}
end
def Du(id:Nat):Code→Array Oper
 |.region i ops _=>if i=id then ops else #[]
 |.seq a b| .cond _ a b=>if(Du id a).size=0 then Du id b else Du id a
 |.block _ c| .loop c| .scope c=>Du id c
 |_=> #[]
theorem Ep{l:List Value}{off:Nat}{v:Value}(h:off<l.length):l.take off++[v] ++l.drop (off+1)=l.set off v:=by
 rw[List.set_eq_take_append_cons_drop,if_pos h];simp
section
variable{P:Program}{ops:Array Oper}{Q:Exit→Act→World→Prop}{S:World→Prop}
def rf(P:Program)(ops:Array Oper)(Q:Exit→Act→World→Prop)(S:World→Prop)(L:Nat):Nat→Array Bool→Act→World→Prop
 |0,bY,a,w=>Region.ready .any ops bY=[] ∧Q .normal a w
 |fuel+1,bY,a,w=>
  (Region.ready .any ops bY=[] →Q .normal a w)∧
  ∀i∈Region.ready .any ops bY,wpOp P ops Q i (fun a' w'=>(i≠L→S w')∧rf P ops Q S L fuel (bY.setIfInBounds i true) a' w') a w
theorem qg{L:Nat}: ∀(fuel:Nat) (bY:Array Bool) (a:Act) (w:World),rf P ops Q S L fuel bY a w→wpAny P .any ops Q fuel bY a w
 |0,_,_,_,h=>h
 |fuel+1,_,_,_,h=>⟨h.1,fun i hi=>wpOp_mono (fun a' w' h'=>qg fuel _ a' w' h'.2) (h.2 i hi)⟩
theorem tl{L i:Nat}{oi:Oper}{v:Value}(hi:ops[i]? =some oi)(hiL:i≠L)(hL: ∀oL,ops[L]? =some oL→ ∃e∈oL.after,Region.binds .any e=true∧e.on=i)(SP: ∀(j:Nat) (o:Oper) cs b,ops[j]? =some o→o.op≠ .select cs b)
  (hQ: ∀c a w,Q (.panic c) (a.put oi.dst v) w→Q (.panic c) a w):
  ∀(fuel:Nat) (bY:Array Bool) (a:Act) (w:World),
   (∀j oj,ops[j]? =some oj→j≠i→bY.getD j true=false→(∀e∈oj.after,Region.binds .any e=true→e.on≠i)→oi.apart ops oj=true)→
   i∈Region.ready .any ops bY→YieldsIf P ops S oi v a→S w→
   rf P ops Q S L fuel (bY.setIfInBounds i true) (a.put oi.dst v) w→rf P ops Q S L (fuel+1) bY a w:=by
 intro fuel
 induction fuel with
 |zero=>
  intro bY a w _ hr hy hS H
  refine⟨fun h=>(by rw[h]at hr;cases hr),fun j hj=> ?_⟩
  by_cases FW:j=i
  ·subst FW;exact hy.wpOp hi hS ⟨fun _=>hS,H⟩
  ·have:=ready_mono hj FW
   rw[H.1]at this
   cases this
 |succ fuel ih=>
  intro bY a w rM hr hy hS H
  refine⟨fun h=>(by rw[h]at hr;cases hr),fun j hj=> ?_⟩
  by_cases FW:j=i
  ·subst FW;exact hy.wpOp hi hS ⟨fun _=>hS,H⟩
  ·have h1:=H.2 j (ready_mono hj FW)
   obtain⟨Tf,oj,xx,iG⟩:=mem_ready.1 hj
   have mS: ∀e∈oj.after,Region.binds .any e=true→e.on≠i:=fun e he hb heq=>by
    have h1:=iG e he hb
    have h0:=(mem_ready.1 hr).1
    rw[heq]at h1
    rcases Nat.lt_or_ge i bY.size with h'|h'
    ·simp[h']at h0 h1;rw[h0]at h1;cases h1
    ·simp[Array.getElem?_eq_none h']at h1
   have hjL:j≠L:=by
    rintro rfl
    obtain⟨e,he,hb,XI⟩:=hL oj xx
    exact mS e he hb XI
   have h2:=wpOp_putIf xx (rM j oj xx FW Tf mS) (fun cs b=>SP i oi cs b hi) (fun cs b=>SP j oj cs b xx) hQ hy h1
   have MY: ∀k ok,ops[k]? =some ok→k≠i→(bY.setIfInBounds j true).getD k true=false→
     (∀e∈ok.after,Region.binds .any e=true→e.on≠i)→oi.apart ops ok=true:=fun k ok hk hki hun tV=>by
    refine rM k ok hk hki ?_ tV
    by_cases N6:j=k
    ·subst N6;exact Tf
    ·rw[getD_set_ne true N6]at hun;exact hun
   refine wpOp_mono (fun a' w' h3=>⟨fun fY=>h3.2.1 fY,ih (bY.setIfInBounds j true) a' w' MY (ready_mono hr (Ne.symm FW)) h3.1 (h3.2.1 hjL) ?_⟩) h2
   rw[Array.setIfInBounds_comm _ _ FW]
   exact h3.2.2
def oD(P:Program)(ops:Array Oper)(Q:Exit→Act→World→Prop)(S:World→Prop)(n0:Nat):Nat→Nat→Act→World→Prop
 |0,_,a,w=>Q .normal a w
 |f+1,i,a,w=>match ops[i]? with
  |none=>False
  |some o=>if i<n0 then S w∧ ∃v,YieldsIf P ops S o v a∧oD P ops Q S n0 f (i+1) (a.put o.dst v) w
   else wpOp P ops Q i (fun a' w'=>(f≠0→S w')∧oD P ops Q S n0 f (i+1) a' w') a w
def iT(n i:Nat):Array Bool:=((List.range n).map fun j=>decide (j<i)).toArray
def tOk(ops:Array Oper)(n0:Nat):Bool:=
 decide (n0≤ops.size)&&Region.noSelect ops&&(List.range ops.size).all fun i=>
  if i<n0 then Region.free .any ops (iT ops.size i) i&&(Region.ready .any ops (iT ops.size i)).contains i&&
   (decide (n0=ops.size)||match ops[ops.size-1]? with|some oL=>oL.after.toList.any fun e=>Region.binds .any e&&e.on==i|none=>false)
  else Region.ready .any ops (iT ops.size i)==[i]
theorem tj{n i:Nat}(hi:i<n):(iT n i).setIfInBounds i true=iT n (i+1):=by
 apply Array.ext
 ·simp[iT]
 ·intro j h1 h2
  simp only[iT,Array.size_setIfInBounds,cS,aw,gh]at h1
  rw[Array.getElem_setIfInBounds (by simpa [iT]using h1)]
  by_cases yp:i=j
  ·subst yp;simp[iT]
  ·rw[if_neg yp]
   simp only[iT,List.getElem_toArray,List.getElem_map,List.getElem_range]
   congr 1
   exact propext ⟨fun h=>by omega,fun h=>by omega⟩
theorem Br(n:Nat):Array.replicate n false=iT n 0:=by
 apply Array.ext
 ·simp[iT]
 ·intro j h1 h2;simp[iT]
theorem DR{n0:Nat}(cI:tOk ops n0=true)(hQ: ∀c a d v w,Q (.panic c) (a.put d v) w→Q (.panic c) a w):
  ∀(f i:Nat) (a:Act) (w:World),i+f=ops.size→oD P ops Q S n0 f i a w→rf P ops Q S (if n0=ops.size then ops.size else ops.size-1) f (iT ops.size i) a w
 |0,i,a,w,hif,h=>by
  refine⟨?_,h⟩
  have:i=ops.size:=by omega
  subst this
  rw[fC]
  intro j hj
  obtain⟨h0,oj,xx,_⟩:=mem_ready.1 hj
  have lZ:j<ops.size:=(aK.1 xx).1
  simp[iT,lZ]at h0
 |f+1,i,a,w,hif,h=>by
  have yv:=cI
  unfold tOk at cI
  simp only[bc,bQ,cn,cW]at cI
  obtain⟨⟨N4,E1⟩,iG⟩:=cI
  have hi:i<ops.size:=by omega
  have hc:=iG i hi
  unfold oD at h
  have ho:ops[i]? =some ops[i] :=dC hi
  rw[ho]at h
  simp only at h
  by_cases bP:i<n0
  ·rw[if_pos bP]at h hc
   obtain⟨hS,v,hy,hr⟩:=h
   simp only[bc]at hc
   obtain⟨⟨rM,rn⟩,mS⟩:=hc
   refine tl ho (by split<;>omega) ?_ (Region.noSelect_spec E1) (fun c a w=>hQ c a _ _ w) f (iT ops.size i) a w (Region.free_spec ho rM) (by simpa using rn) hy hS ?_
   ·intro oL R9
    by_cases hz:n0=ops.size
    ·rw[if_pos hz]at R9
     simp at R9
    ·rw[if_neg hz]at R9
     rw[R9]at mS
     simp only[fB,bQ,gH,bc,beq_iff_eq]at mS
     obtain⟨e,he,hb,XI⟩:=mS.resolve_left hz
     exact⟨e,by simpa using he,hb,XI⟩
   ·rw[tj hi]
    exact DR yv hQ f (i+1) _ w (by omega) hr
  ·rw[if_neg bP]at h hc
   have hr:Region.ready .any ops (iT ops.size i)=[i] :=by simpa using hc
   refine⟨fun h0=>(by rw[hr]at h0;cases h0),fun j hj=> ?_⟩
   rw[hr,aA]at hj
   subst hj
   refine wpOp_mono (fun a' w' h'=>⟨fun fY=>h'.1 (by split at fY<;>omega),?_⟩) h
   rw[tj hi]
   exact DR yv hQ f (j+1) a' w' (by omega) h'.2
theorem DQ{n0:Nat}: ∀(f i:Nat) (a:Act) (w:World),i+f=ops.size→oD P ops Q S n0 f i a w→wpOps P ops Q (List.range' i f) a w
 |0,i,a,w,_,h=>h
 |f+1,i,a,w,hif,h=>by
  have hi:i<ops.size:=by omega
  have ho:ops[i]? =some ops[i] :=dC hi
  unfold oD at h
  rw[ho]at h
  simp only at h
  rw[List.range'_succ]
  have key:wpOp P ops Q i (fun a' w'=>wpOps P ops Q (List.range' (i+1) f) a' w') a w:=by
   by_cases bP:i<n0
   ·rw[if_pos bP]at h
    obtain⟨hS,v,hy,hr⟩:=h
    exact hy.wpOp ho hS (DQ f (i+1) _ w (by omega) hr)
   ·rw[if_neg bP]at h
    exact wpOp_mono (fun a' w' h'=>DQ f (i+1) a' w' (by omega) h'.2) h
  rw[wpOps_cons]
  exact key
end
structure Cn(w w':World):Prop where
 heap:w'.heap=w.heap
 os:w'.os=w.os
 tape:w'.tape=w.tape
 output:w'.output=w.output
theorem Cn.refl(w:World):Cn w w:=⟨rfl,rfl,rfl,rfl⟩
theorem Cn.drew(w:World):Cn w {w with drawn:=w.drawn+1}:=⟨rfl,rfl,rfl,rfl⟩
theorem Cn.cell{w w':World}(h:Cn w w')(ad:Addr):w'.cell? ad=w.cell? ad:=by simp only[World.cell?,h.heap]
def SX(X:Nat→Prop)(w w':World):Prop:=w.heap.size≤w'.heap.size∧ ∀b,b<w.heap.size→ ¬X b→w'.heap[b]? =w.heap[b]?
theorem SX.refl(X:Nat→Prop)(w:World):SX X w w:=⟨bn _,fun _ _ _=>rfl⟩
def QP(Q:Exit→Act→World→Prop):Prop:= ∀c a d v w,Q (.panic c) (a.put d v) w→Q (.panic c) a w
def ax(_:Nat):Prop:=False
def Kn(n:Nat)(a:Act)(m:List (Nat×Value)):Prop:=a.tmps.size=n∧a.defers=[] ∧ ∀t v,lk m t=some v→a.tmps[t]? =some v
def Tr(m:List (Nat×Value)):List (Nat×Value)→Prop
 | [] =>True
 |p::r=>lk m p.1=some p.2∧Tr m r
theorem Tr.get{m:List (Nat×Value)}: ∀{l:List (Nat×Value)},Tr m l→ ∀p∈l,lk m p.1=some p.2
 | [],_,p,hp=>by cases hp
 |q::r,h,p,hp=>by
  rcases aM.1 hp with rfl|hp
  ·exact h.1
  ·exact Tr.get h.2 p hp
theorem Kn.put{n:Nat}{a:Act}{m:List (Nat×Value)}(h:Kn n a m)(d:Nat)(v:Value)(hd:d<n):Kn n (a.put (some d) v) ((d,v)::m):=by
 refine⟨by simp[Act.put,h.1],h.2.1,fun t u ht=> ?_⟩
 simp only[lk]at ht
 split at ht
 ·rename_i he
  injection ht with ht;subst ht
  have:d=t:=(by simpa using he:t=d).symm
  subst this
  exact V6 h.1 hd
 ·rename_i he
  rw[QI (fun e=>he (by simp[e]))]
  exact h.2.2 t u ht
theorem Kn.sub{n:Nat}{a:Act}{m l:List (Nat×Value)}(h:Kn n a m)(hl:Tr m l):Kn n a l:=
 ⟨h.1,h.2.1,fun t v ht=>h.2.2 t v (hl.get (t,v) (jK ht))⟩
def oh(m:List (Nat×Value)):Operand→Option Value
 |.tmp t=>lk m t
 |.const v=>some v
 |.global g=>some (.pointer (some ⟨g,0,none⟩))
 |.func f=>some (.func (.func f) #[] #[])
theorem Kn.op{n:Nat}{a:Act}{m:List (Nat×Value)}(h:Kn n a m){x:Operand}{v:Value}(hx:oh m x=some v):a.eval x=v:=by
 cases x with
 |tmp t=>exact WH (h.2.2 t v hx)
 |const u=>injection hx with hx
 |global g=>injection hx with hx
 |func f=>injection hx with hx
abbrev OK:=Option Nat×Op×Option (Nat×Bool)
def WZ(o:Oper):OK:=(o.dst,o.op,o.guard)
def b8(ops:Array Oper):List OK:=ops.toList.map WZ
def tW(L:List OK)(m:List (Nat×Value)):Option (Nat×Bool)→Option Bool
 |none=>some true
 |some (j,b)=>match (L[j]?).bind (·.1) with
  |some t=>match lk m t with
   |some (.bool c)=>some (c==b)
   |_=>none
  |none=>none
theorem Kn.gd{n:Nat}{a:Act}{m:List (Nat×Value)}{ops:Array Oper}{o:Oper}{b:Bool}(h:Kn n a m)(hg:tW (b8 ops) m o.guard=some b):Region.wanted o (yielded ops a.tmps)=b:=by
 unfold Region.wanted
 cases E3:o.guard with
 |none=>rw[E3]at hg;injection hg
 |some jb=>
  obtain⟨j,bb⟩:=jb
  rw[E3]at hg
  simp only[tW]at hg
  have hj:((b8 ops)[j]?).bind (·.1)=(ops[j]?).bind (·.dst):=by
   unfold b8
   rw[ah]
   cases ho:ops[j]? with
   |none=>simp[ho]
   |some o=>simp[ho,WZ]
  rw[hj]at hg
  cases ho:(ops[j]?).bind (·.dst) with
  |none=>rw[ho]at hg;cases hg
  |some t=>
   rw[ho]at hg
   simp only at hg
   split at hg
   ·rename_i c hc
    injection hg with hg
    have:=h.2.2 t _ hc
    simp only[yielded,ho,cu,this]
    rw[←hg]
    cases c<;>cases bb<;>rfl
   ·cases hg
section
variable{P:Program}{ops:Array Oper}{Q:Exit→Act→World→Prop}{S:World→Prop}{n n0 i d:Nat}{a:Act}{w:World}{m:List (Nat×Value)}{gd:Option (Nat×Bool)}{L r:List OK}
def TL(P:Program)(ops:Array Oper)(Q:Exit→Act→World→Prop)(S:World→Prop)(n0:Nat)(L r:List OK)(i:Nat)(a:Act)(w:World):Prop:=b8 ops=L→L.drop i=r→oD P ops Q S n0 r.length i a w
theorem lR{id:Nat}{draw:Bool}(n0:Nat)(X:Nat→Prop)(hm:P.follows .mixedOrders=true)(hQ:QP Q)(hl:b8 ops=L)(hd:draw=true→tOk ops n0=true)(h: ∀w1,Cn w w1→TL P ops Q (SX X w1) n0 L L 0 a w1):(Code.region id ops draw).wp P Q a w:=by
 have hlen:L.length=ops.size:=by rw[←hl];simp[b8]
 cases draw with
 |true=>
  refine wp_region_any hm ?_
  have h1:=DR (hd rfl) hQ ops.size 0 a _ (by omega) (hlen▸h _ (Cn.drew w) hl rfl)
  rw[←Br]at h1
  exact qg _ _ _ _ h1
 |false=>
  refine wp_region ?_
  rw[List.range_eq_range']
  exact DQ ops.size 0 a w (by omega) (hlen▸h w (Cn.refl w) hl rfl)
theorem vN{x:OK}(hl:b8 ops=L)(hr:L.drop i=x::r):(∃o,ops[i]? =some o∧WZ o=x)∧L.drop (i+1)=r:=by
 have h1:L[i]? =some x:=by
  have:=congrArg (fun l=>l[0]?) hr
  simpa using this
 refine⟨?_,?_⟩
 ·rw[←hl]at h1
  unfold b8 at h1
  rw[ah,da]at h1
  obtain⟨o,ho,hx⟩:=h1
  exact⟨o,by simpa using ho,hx⟩
 ·have:=congrArg (List.drop 1) hr
  simpa using this
theorem aJ(h:Q .normal a w):TL P ops Q S n0 L [] i a w:=fun _ _=>h
theorem tX{op:Op}{v:Value}(k:Kn n a m)(hS:S w)(hg:tW L m gd=some true)(hd:d<n)
  (he: ∀ty pos af w',S w'→(execOp a.eval ⟨some d,op,ty,pos,af,gd⟩).run P w'= .ok (.value v) w') (h: ∀a',Kn n a' ((d,v)::m)→TL P ops Q S n0 L r (i+1) a' w):TL P ops Q S n0 L ((some d,op,gd)::r) i a w:=by
 intro hl hr
 obtain⟨⟨o,ho,hx⟩,nK⟩:=vN hl hr
 obtain⟨dst,W0,ty,pos,af,Xm⟩:=o
 simp only[WZ,ai]at hx
 obtain⟨rfl,rfl,rfl⟩:=hx
 have hw:=k.gd (ops:=ops) (o:=⟨some d,W0,ty,pos,af,Xm⟩) (by rw[hl];exact hg)
 show oD P ops Q S n0 (r.length+1) i a w
 unfold oD
 rw[ho]
 simp only
 by_cases hi:i<n0
 ·rw[if_pos hi]
  exact⟨hS,v,.inl ⟨hw,he ty pos af⟩,h _ (k.put d v hd) hl nK⟩
 ·rw[if_neg hi]
  exact(YieldsIf.wpOp (S:=S) ho (.inl ⟨hw,he ty pos af⟩) hS ⟨fun _=>hS,h _ (k.put d v hd) hl nK⟩)
theorem atE{op:Op}(k:Kn n a m)(hS:S w)(hg:tW L m gd=some false)(hd:d<n)
  (h: ∀a',Kn n a' ((d,undef)::m)→TL P ops Q S n0 L r (i+1) a' w):TL P ops Q S n0 L ((some d,op,gd)::r) i a w:=by
 intro hl hr
 obtain⟨⟨o,ho,hx⟩,nK⟩:=vN hl hr
 obtain⟨dst,W0,ty,pos,af,Xm⟩:=o
 simp only[WZ,ai]at hx
 obtain⟨rfl,rfl,rfl⟩:=hx
 have hw:=k.gd (ops:=ops) (o:=⟨some d,W0,ty,pos,af,Xm⟩) (by rw[hl];exact hg)
 show oD P ops Q S n0 (r.length+1) i a w
 unfold oD
 rw[ho]
 simp only
 by_cases hi:i<n0
 ·rw[if_pos hi]
  exact⟨hS,undef,.inr ⟨hw,rfl⟩,h _ (k.put d undef hd) hl nK⟩
 ·rw[if_neg hi]
  exact(YieldsIf.wpOp (S:=S) ho (.inr ⟨hw,rfl⟩) hS ⟨fun _=>hS,h _ (k.put d undef hd) hl nK⟩)
theorem yq{op:Op}(k:Kn n a m)(hi:n0≤i)(hg:tW L m gd=some true)(hd:d<n)
  (he: ∀ty pos af,∃v w',(execOp a.eval ⟨some d,op,ty,pos,af,gd⟩).run P w= .ok (.value v) w'∧(r≠ [] →S w')∧ ∀a',Kn n a' ((d,v)::m)→TL P ops Q S n0 L r (i+1) a' w'):TL P ops Q S n0 L ((some d,op,gd)::r) i a w:=by
 intro hl hr
 obtain⟨⟨o,ho,hx⟩,nK⟩:=vN hl hr
 obtain⟨dst,W0,ty,pos,af,Xm⟩:=o
 simp only[WZ,ai]at hx
 obtain⟨rfl,rfl,rfl⟩:=hx
 have hw:=k.gd (ops:=ops) (o:=⟨some d,W0,ty,pos,af,Xm⟩) (by rw[hl];exact hg)
 obtain⟨v,w',h1,h2,h3⟩:=he ty pos af
 show oD P ops Q S n0 (r.length+1) i a w
 unfold oD
 rw[ho]
 simp only
 rw[if_neg (by omega)]
 unfold wpOp
 rw[ho]
 simp only
 rw[if_pos hw]
 refine .inl ?_
 rw[Oper.wp,h1]
 exact⟨fun hf=>h2 (fun e=>hf (by rw[e];rfl)),h3 _ (k.put d v hd) hl nK⟩
theorem atF{op:Op}{w':World}(k:Kn n a m)(hi:n0≤i)(hg:tW L m gd=some true)
  (he: ∀ty pos af,(execOp a.eval ⟨none,op,ty,pos,af,gd⟩).run P w= .ok .skip w') (hS:r≠ [] →S w') (h: ∀a',Kn n a' m→TL P ops Q S n0 L r (i+1) a' w'):TL P ops Q S n0 L ((none,op,gd)::r) i a w:=by
 intro hl hr
 obtain⟨⟨o,ho,hx⟩,nK⟩:=vN hl hr
 obtain⟨dst,W0,ty,pos,af,Xm⟩:=o
 simp only[WZ,ai]at hx
 obtain⟨rfl,rfl,rfl⟩:=hx
 have hw:=k.gd (ops:=ops) (o:=⟨none,W0,ty,pos,af,Xm⟩) (by rw[hl];exact hg)
 show oD P ops Q S n0 (r.length+1) i a w
 unfold oD
 rw[ho]
 simp only
 rw[if_neg (by omega)]
 unfold wpOp
 rw[ho]
 simp only
 rw[if_pos hw]
 refine .inl ?_
 rw[Oper.wp,he ty pos af]
 exact⟨fun hf=>hS (fun e=>hf (by rw[e];rfl)),h _ k hl nK⟩
theorem j3{kf:Nat}{args:Array Operand}{ts:Array TypeId}{vs:List Value}{R:Ending→World→Prop}(k:Kn n a m)(hi:n0≤i)(hg:tW L m gd=some true)(hd:d<n)
  (hen: ∀(args:Array Value) (w:World),(callFunc kf args).run P w= .ok (.enter kf args) w) (hv:args.toList.map (oh m)=vs.map some) (hc:Calls P kf vs.toArray w R)
  (h: ∀e w',R e w'→ ∃v,e= .returned v∧(r≠ [] →S w')∧ ∀a',Kn n a' ((d,v)::m)→TL P ops Q S n0 L r (i+1) a' w'):TL P ops Q S n0 L ((some d,.call {callee:=.value (.func kf),args:=args,argTypes:=ts},gd)::r) i a w:=by
 intro hl hr
 obtain⟨⟨o,ho,hx⟩,nK⟩:=vN hl hr
 obtain⟨dst,W0,ty,pos,af,Xm⟩:=o
 simp only[WZ,ai]at hx
 obtain⟨rfl,rfl,rfl⟩:=hx
 have hw:=k.gd (ops:=ops) (o:=⟨some d,.call {callee:=.value (.func kf),args:=args,argTypes:=ts},ty,pos,af,Xm⟩) (by rw[hl];exact hg)
 have BZ:args.map a.eval=vs.toArray:=by
  apply dg
  rw[Array.toList_map]
  have key: ∀(l:List Operand) (us:List Value),l.map (oh m)=us.map some→l.map a.eval=us:=by
   intro l
   induction l with
   |nil=>intro us h;cases us with|nil=>rfl|cons=>cases h
   |cons x l ih=>
    intro us h
    cases us with
    |nil=>cases h
    |cons u us=>
     simp only[cZ,eJ]at h
     rw[cZ,k.op h.1,ih us h.2]
  simpa using key args.toList vs hv
 show oD P ops Q S n0 (r.length+1) i a w
 unfold oD
 rw[ho]
 simp only
 rw[if_neg (by omega)]
 unfold wpOp
 rw[ho]
 simp only
 rw[if_pos hw]
 refine .inl ?_
 rw[Oper.wp,Rk hen BZ]
 refine hc.mono fun e w' he=> ?_
 obtain⟨v,rfl,hs,h2⟩:=h e w' he
 exact⟨fun hf=>hs (fun e=>hf (by rw[e];rfl)),h2 _ (k.put d v hd) hl nK⟩
variable{x y z:Operand}{t t2:TypeId}{v u:Value}
theorem YH(k:Kn n a m)(hS:S w)(hg:tW L m gd=some true)(hd:d<n)(hx:oh m x=some v)
  (h: ∀a',Kn n a' ((d,v)::m)→TL P ops Q S n0 L r (i+1) a' w):TL P ops Q S n0 L ((some d,.move x,gd)::r) i a w:=
 tX k hS hg hd (fun _ _ _ w' _=>by rw[Rj,k.op hx]) h
theorem Gg(k:Kn n a m)(hS:S w)(hg:tW L m gd=some true)(hd:d<n)(hx:oh m x=some v)
  (h: ∀a',Kn n a' ((d,v)::m)→TL P ops Q S n0 L r (i+1) a' w):TL P ops Q S n0 L ((some d,.assign x,gd)::r) i a w:=
 tX k hS hg hd (fun _ _ _ w' _=>by rw[Lf,k.op hx]) h
theorem afC{ad:Addr}(k:Kn n a m)(hS:S w)(hg:tW L m gd=some true)(hd:d<n)(hx:oh m x=some (.pointer (some ad)))
  (h: ∀a',Kn n a' ((d,.pointer (some ad))::m)→TL P ops Q S n0 L r (i+1) a' w):TL P ops Q S n0 L ((some d,.nilCheck x,gd)::r) i a w:=
 tX k hS hg hd (fun _ _ _ w' _=>by have:=k.op hx;unfold execOp;simp only[this];rfl) h
theorem amf{b o off fl:Nat}(k:Kn n a m)(hS:S w)(hg:tW L m gd=some true)(hd:d<n)(hx:oh m x=some (.pointer (some ⟨b,o,none⟩)))
  (hf:(nb P t fl).map (fun y=>(y.1.offset,decide (0<y.2)))=some (off,true)) (h: ∀a',Kn n a' ((d,.pointer (some ⟨b,o+off,none⟩))::m)→TL P ops Q S n0 L r (i+1) a' w):TL P ops Q S n0 L ((some d,.fieldAddr t x fl,gd)::r) i a w:=
 tX k hS hg hd (fun _ _ _ w' _=>ES hf (k.op hx)) h
theorem qD{ad:Addr}(k:Kn n a m)(hS:S w)(hg:tW L m gd=some true)(hd:d<n)(hx:oh m x=some (.pointer (some ad)))
  (ha:j5 P t=false) (hu:(P.underlying t).isSome=true) (hc: ∀w',S w'→w'.cell? ad=some v) (h: ∀a',Kn n a' ((d,v)::m)→TL P ops Q S n0 L r (i+1) a' w):TL P ops Q S n0 L ((some d,.load t x,gd)::r) i a w:=
 tX k hS hg hd (fun _ _ _ w' hs=>NO ha hu (k.op hx) (hc w' hs)) h
theorem afD{b off nn:Nat}{vs:List Value}(k:Kn n a m)(hS:S w)(hg:tW L m gd=some true)(hd:d<n)(hx:oh m x=some (.pointer (some ⟨b,off,none⟩)))
  (hs:jF P t=some nn) (ha:j5 P t=true) (hl:vs.length=nn) (hc: ∀w',S w'→ ∀(j:Nat) v,vs[j]? =some v→w'.cell? ⟨b,off+j,none⟩=some v)
  (h: ∀a',Kn n a' ((d,.agg vs.toArray)::m)→TL P ops Q S n0 L r (i+1) a' w):TL P ops Q S n0 L ((some d,.load t x,gd)::r) i a w:=
 tX k hS hg hd (fun _ _ _ w' hw=>NN hs ha (k.op hx) hl (hc w' hw)) h
theorem qE{el:TypeId}{b off nn cap sz:Nat}{kk:IntKind}{mm:Int}(k:Kn n a m)(hS:S w)(hg:tW L m gd=some true)(hd:d<n)
  (hx:oh m x=some (.slice (some ⟨b,off,none⟩) nn cap)) (hy:oh m y=some (.int kk mm)) (hu:P.underlying t=some (.slice el)) (iY:jF P el=some sz) (h0:0≤mm) (h1:mm<nn)
  (h: ∀a',Kn n a' ((d,.pointer (some ⟨b,off+mm.toNat*sz,none⟩))::m)→TL P ops Q S n0 L r (i+1) a' w):TL P ops Q S n0 L ((some d,.indexAddr t x y,gd)::r) i a w:=by
 refine tX k hS hg hd (fun _ _ _ w' _=> ?_) h
 have r7:=k.op hx
 have zW:=k.op hy
 have h2:=jd (P:=P) (w:=w') iY
 unfold execOp;simp only[r7,zW,Instr.indexAt,asIntOf]
 simp[run_underlying hu,h0,h1,h2,gF]
def slB(P:Program)(t:TypeId):Bool:=match P.underlying t with
 |some (.slice _)=>true
 |_=>false
theorem Ml{A:Option Addr}{nn c:Nat}(k:Kn n a m)(hS:S w)(hg:tW L m gd=some true)(hd:d<n)
  (hx:oh m x=some (.slice A nn c)) (hu:slB P t=true) (h: ∀a',Kn n a' ((d,.int .i64 nn)::m)→TL P ops Q S n0 L r (i+1) a' w):TL P ops Q S n0 L ((some d,.call {callee:=.builtin .len,args:= #[x],argTypes:= #[t]},gd)::r) i a w:=by
 unfold slB at hu
 split at hu
 ·rename_i el he
  exact tX k hS hg hd (fun _ _ _ w' _=>WE he (k.op hx)) h
 ·cases hu
theorem YG{c:Bool}(k:Kn n a m)(hS:S w)(hg:tW L m gd=some true)(hd:d<n)(hx:oh m x=some (.bool c))(hy:oh m (if c then y else z)=some v)
  (h: ∀a',Kn n a' ((d,v)::m)→TL P ops Q S n0 L r (i+1) a' w):TL P ops Q S n0 L ((some d,.pick x y z,gd)::r) i a w:=by
 refine tX k hS hg hd (fun _ _ _ w' _=> ?_) h
 have h1:=k.op hx
 have h2:=k.op hy
 unfold execOp
 cases c
 ·simp only[ak,if_false]at h2;simp[h1,h2,asBool]
 ·simp only[if_true]at h2;simp[h1,h2,asBool]
theorem uO{c:Bool}(k:Kn n a m)(hS:S w)(hg:tW L m gd=some true)(hd:d<n)(hx:oh m x=some (.bool c))
  (h: ∀a',Kn n a' ((d,.bool (!c))::m)→TL P ops Q S n0 L r (i+1) a' w):TL P ops Q S n0 L ((some d,.unOp .not t x,gd)::r) i a w:=
 tX k hS hg hd (fun _ _ _ w' _=>WD (k.op hx)) h
def Hz:BinOp→Int→Int→Option Bool
 |.lss,m,n=>some (decide (m<n))
 |.leq,m,n=>some (decide (m≤n))
 |.gtr,m,n=>some (decide (m>n))
 |.geq,m,n=>some (decide (m≥n))
 |.eql,m,n=>some (m==n)
 |.neq,m,n=>some (m !=n)
 |_,_,_=>none
theorem afE{bo:BinOp}{kk:IntKind}{p q:Int}{c:Bool}(k:Kn n a m)(hS:S w)(hg:tW L m gd=some true)(hd:d<n)(hx:oh m x=some (.int kk p))(hy:oh m y=some (.int kk q))
  (hc:Hz bo p q=some c) (h: ∀a',Kn n a' ((d,.bool c)::m)→TL P ops Q S n0 L r (i+1) a' w):TL P ops Q S n0 L ((some d,.binOp bo t x y t2,gd)::r) i a w:=by
 refine tX k hS hg hd (fun _ _ _ w' _=> ?_) h
 have h1:=k.op hx
 have h2:=k.op hy
 unfold execOp
 cases bo<;>simp only[Hz,ae,reduceCtorEq]at hc<;>subst hc<;>simp[h1,h2,eqGuard,binOp,Op.intCmp]
theorem lI{kk:IntKind}{p q s:Int}(k:Kn n a m)(hS:S w)(hg:tW L m gd=some true)(hd:d<n)(hx:oh m x=some (.int kk p))(hy:oh m y=some (.int kk q))
  (hc:kk.wrap (p+q)=s) (h: ∀a',Kn n a' ((d,.int kk s)::m)→TL P ops Q S n0 L r (i+1) a' w):TL P ops Q S n0 L ((some d,.binOp .add t x y t2,gd)::r) i a w:=by
 subst hc
 exact tX k hS hg hd (fun _ _ _ w' _=>WG (k.op hx) (k.op hy)) h
end
abbrev Ow:=Nat→Option Nat
structure Wf(w:World)(S:bU)(ow:Ow):Prop where
 s: ∀b o,S b o→b<w.heap.size
 o: ∀b l,ow b=some l→b<w.heap.size
 d: ∀b o l,S b o→ow b=some l→1000≤l
structure br(L X:Nat→Prop)(w:World)(S:bU)(ow:Ow)(w':World)(S':bU)(bX:Ow):Prop where
 size:w.heap.size≤w'.heap.size
 os:w'.os=w.os
 tape:w'.tape=w.tape
 output:w'.output=w.output
 CJ: ∀b l,b<w.heap.size→ow b=some l→ ¬L l→w'.heap[b]? =w.heap[b]?
 free: ∀b,b<w.heap.size→ow b=none→ ¬X b→w'.heap[b]? =w.heap[b]?
 kJ: ∀b o,S b o→S' b o
 cell: ∀b o,S b o→w'.cell? ⟨b,o,none⟩=w.cell? ⟨b,o,none⟩
 keep: ∀b l,ow b=some l→ ¬L l→bX b=some l
 new: ∀b o,S' b o→S b o∨w.heap.size≤b∨ ∃l,ow b=some l∧L l
 rQ: ∀b,b<w.heap.size→ow b=none→bX b=none
 jD: ∀b l,bX b=some l→ow b=some l∨L l
def kG(l:Nat)(x:Nat):Prop:=x=l
theorem cB{l x:Nat}(h: ¬x=l:=by omega): ¬kG l x:=h
section
variable{L L' X X':Nat→Prop}{w w' BE:World}{S S' Sr:bU}{ow bX CY:Ow}
theorem br.refl(L X:Nat→Prop)(w:World)(S:bU)(ow:Ow):br L X w S ow w S ow:=
 ⟨bn _,rfl,rfl,rfl,fun _ _ _ _ _=>rfl,fun _ _ _ _=>rfl,fun _ _ h=>h,fun _ _ _=>rfl,fun _ _ h _=>h,fun _ _ h=>.inl h,fun _ _ h=>h,fun _ _ h=>.inl h⟩
theorem br.bu{w w1:World}(h:Cn w w1)(L X:Nat→Prop)(S:bU)(ow:Ow):br L X w S ow w1 S ow:=
 ⟨by rw[h.heap];exact bn _,h.os,h.tape,h.output,fun _ _ _ _ _=>by rw[h.heap],fun _ _ _ _=>by rw[h.heap],fun _ _ h=>h,fun _ _ _=>h.cell _,fun _ _ h _=>h,fun _ _ h=>.inl h,fun _ _ h=>h,fun _ _ h=>.inl h⟩
theorem br.trans(hw:Wf w S ow)(lu:Wf w' S' bX)(h:br L X w S ow w' S' bX)(k:br L' X' w' S' bX BE Sr CY)(hX: ∀b,X' b→X b∨w.heap.size≤b)(hk: ∀b l,b<w.heap.size→bX b=some l→L l∨L' l→ ∃l0,ow b=some l0∧(L l0∨L' l0)):
  br (fun l=>L l∨L' l) X w S ow BE Sr CY:=by
 refine⟨aR h.size k.size,k.os.trans h.os,k.tape.trans h.tape,k.output.trans h.output,?_,?_,fun b o hs=>k.kJ b o (h.kJ b o hs),fun b o hs=>(k.cell b o (h.kJ b o hs)).trans (h.cell b o hs),?_,?_,?_,fun b l hl=>(k.jD b l hl).elim (fun h1=>(h.jD b l h1).imp id .inl) (fun h1=>.inr (.inr h1))⟩
 ·intro b l hb ho hl
  exact(k.CJ b l (ar hb h.size) (h.keep b l ho (fun hh=>hl (.inl hh))) (fun hh=>hl (.inr hh))).trans (h.CJ b l hb ho (fun hh=>hl (.inl hh)))
 ·intro b hb ho hx
  refine(k.free b (ar hb h.size) (h.rQ b hb ho) (fun hh=> ?_)).trans (h.free b hb ho hx)
  rcases hX b hh with h1|h1
  ·exact hx h1
  ·omega
 ·intro b l ho hl
  exact k.keep b l (h.keep b l ho (fun hh=>hl (.inl hh))) (fun hh=>hl (.inr hh))
 ·intro b o hs
  rcases k.new b o hs with h1|h1|⟨l,h1,h2⟩
  ·rcases h.new b o h1 with h2|h2|⟨l,h2,h3⟩
   ·exact .inl h2
   ·exact .inr (.inl h2)
   ·exact .inr (.inr ⟨l,h2,.inl h3⟩)
  ·exact .inr (.inl (aR h.size h1))
  ·by_cases hb:b<w.heap.size
   ·obtain⟨l0,h3,h4⟩:=hk b l hb h1 (.inr h2)
    exact .inr (.inr ⟨l0,h3,h4⟩)
   ·exact .inr (.inl (by omega))
 ·intro b hb ho
  exact k.rQ b (ar hb h.size) (h.rQ b hb ho)
theorem br.mono(h:br L X w S ow w' S' bX)(hL: ∀l,L l→L' l)(hX: ∀b,X b→X' b):br L' X' w S ow w' S' bX:=
 ⟨h.size,h.os,h.tape,h.output,fun b l hb ho hl=>h.CJ b l hb ho (fun hh=>hl (hL l hh)),fun b hb ho hx=>h.free b hb ho (fun hh=>hx (hX b hh)),h.kJ,h.cell,fun b l ho hl=>h.keep b l ho (fun hh=>hl (hL l hh)),fun b o hs=>(h.new b o hs).imp id (fun h1=>h1.imp id fun⟨l,h2,h3⟩=>⟨l,h2,hL l h3⟩),h.rQ,fun b l hl=>(h.jD b l hl).imp id (hL l)⟩
theorem cH.bw{v:Value}{d:D}(h:cH w S v d)(st:br L X w S ow w' S' bX):cH w' S' v d:=h.keep st.kJ st.cell
structure dW(w:World)(S:bU)(ow:Ow)(l:Nat)(T:TypeId)(t:Ty)(v:Value)(xs:List D):Prop where
 has:Has (.list t) (.list xs)
 sz:0<t.cells.length
 jD: ∀b,v.ownBlock=some b→ow b=some l
 ll:l<1000
 own: ∃vs,w.ownsRow 0 T t.cells.length v xs.length vs∧ ∀(i:Nat) d (j:Nat) u c,xs[i]? =some d→d.cells[j]? =some c→vs[i*t.cells.length+j]? =some u→cH w S u c
theorem pD{T:TypeId}{sz n:Nat}{v:Value}{vs:List Value}(h:w.ownsRow 0 T sz v n vs)(hb: ∀b,v.ownBlock=some b→w'.heap[b]? =w.heap[b]?):w'.ownsRow 0 T sz v n vs:=by
 refine⟨h.1,?_⟩
 rcases h.2 with hn|⟨g,cap,cur,rfl,h0,hg,h1,h2,h3,h4⟩
 ·exact .inl hn
 ·exact .inr ⟨g,cap,cur,rfl,h0,(hb g rfl).trans hg,h1,h2,h3,h4⟩
theorem dW.bw{l:Nat}{T:TypeId}{t:Ty}{v:Value}{xs:List D}(h:dW w S ow l T t v xs)(hw:Wf w S ow)(st:br L X w S ow w' S' bX)(hl: ¬L l):dW w' S' bX l T t v xs:=by
 obtain⟨vs,h1,h2⟩:=h.own
 exact⟨h.has,h.sz,fun b hb=>st.keep b l (h.jD b hb) hl,h.ll,vs,pD h1 (fun b hb=>st.CJ b l (hw.o b l (h.jD b hb)) (h.jD b hb) hl),fun i d j u c a1 a2 a3=>(h2 i d j u c a1 a2 a3).bw st⟩
theorem dW.nil{l:Nat}{T:TypeId}{t:Ty}(hs:0<t.cells.length)(hl:l<1000):dW w S ow l T t (.slice none 0 0) [] :=
 ⟨⟨[],rfl,ft t,fun _ h=>(by cases h)⟩,hs,fun b hb=>(by cases hb),hl,[],eR _ _ _ _,fun i d j u c h=>(by simp at h)⟩
theorem dW.slice{l:Nat}{T:TypeId}{t:Ty}{v:Value}{xs:List D}(h:dW w S ow l T t v xs): ∃A cap,v= .slice A xs.length cap:=by
 obtain⟨vs,h1,_⟩:=h.own
 rcases h1.2 with⟨rfl,hn⟩|⟨g,cap,cur,rfl,_⟩
 ·exact⟨none,0,by rw[hn]⟩
 ·exact⟨_,cap,rfl⟩
theorem dW.len{l:Nat}{T:TypeId}{t:Ty}{v:Value}{xs:List D}(h:dW w S ow l T t v xs):oG t xs.length:=by
 obtain⟨ys,h1,h2,_⟩:=bK.1 h.has
 injection h1 with h1;subst h1;exact h2
theorem dW.all{l:Nat}{T:TypeId}{t:Ty}{v:Value}{xs:List D}(h:dW w S ow l T t v xs): ∀x∈xs,Has t x:=by
 obtain⟨ys,h1,_,h2⟩:=bK.1 h.has
 injection h1 with h1;subst h1;exact h2
theorem dW.elem{l:Nat}{T:TypeId}{t:Ty}{v:Value}{xs:List D}(h:dW w S ow l T t v xs){i:Nat}{d:D}(hi:xs[i]? =some d):
  ∃(b cap:Nat) (us:List Value),v= .slice (some ⟨b,0,none⟩) xs.length cap∧b<w.heap.size∧ow b=some l∧us.length=t.cells.length∧(∀(j:Nat) u,us[j]? =some u→w.cell? ⟨b,i*t.cells.length+j,none⟩=some u)∧
   ∀(j:Nat) u c,us[j]? =some u→d.cells[j]? =some c→cH w S u c:=by
 obtain⟨vs,h1,h2⟩:=h.own
 have iJ:i<xs.length:=(aH.1 hi).1
 rcases h1.2 with⟨rfl,hn⟩|⟨g,cap,cur,rfl,_,hg,ke,He,kP,LB⟩
 ·omega
 ·have hmul:(i+1)*t.cells.length≤xs.length*t.cells.length:=az _ iJ
  rw[cw,Nat.one_mul]at hmul
  have zX:vs.length=xs.length*t.cells.length:=h1.1
  refine⟨g,cap,(vs.drop (i*t.cells.length)).take t.cells.length,rfl,(aK.1 hg).1,h.jD g rfl,by rw[bj,bF];omega,?_,?_⟩
  ·intro j u hu
   rw[aG]at hu
   split at hu
   ·rw[aO]at hu
    have:=h1.cells (g:=g) rfl _ _ hu
    rw[gF,ay]at this
    exact this
   ·cases hu
  ·intro j u c hu hc
   rw[aG]at hu
   split at hu
   ·rw[aO]at hu
    exact h2 i d j u c hi hc hu
   ·cases hu
theorem dW.freeze{l:Nat}{T:TypeId}{t:Ty}{v:Value}{xs:List D}(h:dW w S ow l T t v xs)(hw:Wf w S ow):
  ∃S' bX,br (kG l) ax w S ow w S' bX∧Wf w S' bX∧cH w S' v (.list xs)∧(∀b,bX b≠some l):=by
 obtain⟨vs,h1,h2⟩:=h.own
 refine⟨fun b o=>S b o∨(v.ownBlock=some b∧o<vs.length),fun b=>if ow b=some l then none else ow b,?_,?_,?_,?_⟩
 ·refine⟨bn _,rfl,rfl,rfl,fun _ _ _ _ _=>rfl,fun _ _ _ _=>rfl,fun _ _ h=>.inl h,fun _ _ _=>rfl,?_,?_,?_,fun b l' hl=>(by
   split at hl
   ·cases hl
   ·exact .inl hl)⟩
  ·intro b l' ho hl
   rw[if_neg (by rw[ho];intro e;injection e with e;exact hl e)];exact ho
  ·intro b o hs
   rcases hs with hs|⟨hs,_⟩
   ·exact .inl hs
   ·exact .inr (.inr ⟨l,h.jD b hs,rfl⟩)
  ·intro b _ ho
   simp[ho]
 ·refine⟨?_,?_,?_⟩
  ·intro b o hs
   rcases hs with hs|⟨hs,_⟩
   ·exact hw.s b o hs
   ·exact hw.o b l (h.jD b hs)
  ·intro b l' ho
   split at ho
   ·cases ho
   ·exact hw.o b l' ho
  ·intro b o l' hs ho
   split at ho
   ·cases ho
   ·rcases hs with hs|⟨hs,_⟩
    ·exact hw.d b o l' hs ho
    ·exact absurd (h.jD b hs) (by assumption)
 ·have hk: ∀u c,cH w S u c→cH w (fun b o=>S b o∨(v.ownBlock=some b∧o<vs.length)) u c:=fun u c hr=>hr.keep (fun _ _ h=>.inl h) (fun _ _ _=>rfl)
  rcases h1.2 with⟨rfl,hn⟩|⟨g,cap,cur,rfl,_,hg,ke,He,kP,LB⟩
  ·have:xs=[] :=au hn
   subst this
   exact .nil _ _
  ·by_cases fY:xs=[]
   ·subst fY;exact .nil _ _
   ·refine .list g 0 cap t.cells.length vs xs h.sz fY ke h1.1 (fun i hi=>.inr ⟨rfl,by omega⟩) ?_ ?_ ?_
    ·intro i u hu
     have:=h1.cells (g:=g) rfl i u hu
     rw[gF,ay]at this
     rw[ay];exact this
    ·intro i d hd
     exact(cN (h.all d (ca hd))).1
    ·intro i d j u c hd hc hu
     exact hk u c (h2 i d j u c hd hc hu)
 ·intro b hb
  simp only at hb
  split at hb
  ·cases hb
  ·exact absurd hb (by assumption)
theorem dW.grow{l:Nat}{T:TypeId}{t:Ty}{v v':Value}{xs ys:List D}{news:List Value}(h:dW w S ow l T t v xs)(hw:Wf w S ow)(PC: ∀y∈ys,Has t y)(hlen:oG t (xs++ys).length)
  (yo:news.length=ys.length*t.cells.length) (BS: ∀(i:Nat) d (j:Nat) u c,ys[i]? =some d→d.cells[j]? =some c→news[i*t.cells.length+j]? =some u→cH w S u c)
  (fh: ∀vs,w.ownsRow 0 T t.cells.length v xs.length vs→w'.ownsRow 0 T t.cells.length v' (xs.length+ys.length) (vs++news)∧((v'.ownBlock=v.ownBlock∧w.grownBy w' v.ownBlock)∨(v'.ownBlock=some w.heap.size∧w.grownBy w' none))):
  ∃bX,br (kG l) ax w S ow w' S bX∧Wf w' S bX∧dW w' S bX l T t v' (xs++ys)∧ ∀b,bX b=some l→(v'.ownBlock=some b∨ow b=some l):=by
 obtain⟨vs,h1,h2⟩:=h.own
 obtain⟨dm,gY⟩:=fh vs h1
 have Cg:w'.os=w.os∧w'.tape=w.tape∧w'.output=w.output∧w.heap.size≤w'.heap.size:=by
  rcases gY with⟨_,hg⟩|⟨_,hg⟩<;>exact⟨hg.os,hg.tape,hg.output,hg.size⟩
 have fZ: ∀b,b<w.heap.size→v.ownBlock≠some b→w'.heap[b]? =w.heap[b]? :=by
  intro b hb fY
  rcases gY with⟨_,hg⟩|⟨_,hg⟩
  ·exact hg.block b hb (fun e=>fY e.symm)
  ·exact hg.block b hb (by simp)
 have Jm: ∀b,v.ownBlock=some b→ ∀o,¬S b o:=fun b hb o hs=>by have:=hw.d b o l hs (h.jD b hb);have:=h.ll;omega
 have eW: ∀b o,S b o→w'.cell? ⟨b,o,none⟩=w.cell? ⟨b,o,none⟩:=fun b o hs=>bg (fZ b (hw.s b o hs) (fun hb=>Jm b hb o hs))
 have oZ:br (kG l) ax w S ow w' S (fun b=>if v'.ownBlock=some b then some l else ow b):=by
  refine⟨Cg.2.2.2,Cg.1,Cg.2.1,Cg.2.2.1,?_,?_,fun _ _ h=>h,eW,?_,fun _ _ h=>.inl h,?_,fun b l' hl=>(by
   split at hl
   ·injection hl with hl;exact .inr hl.symm
   ·exact .inl hl)⟩
  ·intro b l' hb ho hl
   exact fZ b hb (fun hv=>hl (by have:=(h.jD b hv).symm.trans ho;injection this with this;exact this.symm))
  ·intro b hb ho _
   exact fZ b hb (fun hv=>by rw[h.jD b hv]at ho;cases ho)
  ·intro b l' ho hl
   rw[if_neg ?_]
   ·exact ho
   ·intro hv
    rcases gY with⟨he,_⟩|⟨he,_⟩
    ·have:=(h.jD b (he▸hv)).symm.trans ho
     injection this with this;exact hl this.symm
    ·rw[he]at hv;injection hv with hv
     have:=hw.o b l' ho
     omega
  ·intro b hb ho
   rw[if_neg ?_]
   ·exact ho
   ·intro hv
    rcases gY with⟨he,_⟩|⟨he,_⟩
    ·rw[h.jD b (he▸hv)]at ho;cases ho
    ·rw[he]at hv;injection hv with hv;omega
 refine⟨_,oZ,⟨fun b o hs=>ar (hw.s b o hs) Cg.2.2.2,?_,?_⟩,⟨?_,h.sz,fun b hb=>by simp[hb],h.ll,vs++news,by rw[an];exact dm,?_⟩,?_⟩
 ·intro b l' ho
  split at ho
  ·rename_i hv;exact(dm.lt b hv).2
  ·exact ar (hw.o b l' ho) Cg.2.2.2
 ·intro b o l' hs ho
  split at ho
  ·rename_i hv
   rcases gY with⟨he,_⟩|⟨he,_⟩
   ·exact absurd hs (Jm b (he▸hv) o)
   ·rw[he]at hv;injection hv with hv
    have:=hw.s b o hs
    omega
  ·exact hw.d b o l' hs ho
 ·refine⟨xs++ys,rfl,hlen,fun x hx=> ?_⟩
  rcases aS.1 hx with hx|hx
  ·exact h.all x hx
  ·exact PC x hx
 ·intro i d j u c hd hc hu
  have zX:vs.length=xs.length*t.cells.length:=h1.1
  by_cases hi:i<xs.length
  ·have jY:d.cells.length=t.cells.length:=by
    rw[aB hi]at hd
    exact(cN (h.all d (ca hd))).1
   have hj:j<t.cells.length:=by rw[←jY];exact(aH.1 hc).1
   have hmul:(i+1)*t.cells.length≤xs.length*t.cells.length:=az _ hi
   rw[cw,Nat.one_mul]at hmul
   rw[aB hi]at hd
   rw[aB (by omega)]at hu
   exact(h2 i d j u c hd hc hu).bw oZ
  ·rw[aF (by omega)]at hd
   have hmul:xs.length*t.cells.length≤i*t.cells.length:=az _ (by omega)
   rw[aF (by omega)]at hu
   refine(BS (i-xs.length) d j u c hd hc ?_).bw oZ
   rw[←hu];congr 1
   rw[Nat.sub_mul];omega
 ·intro b hb
  split at hb
  ·rename_i hv;exact .inl hv
  ·exact .inr hb
end
def OT(P:Program)(tt T:TypeId)(t:Ty):Bool:=match P.underlying tt with
 |some (.slice e)=>e==T&&(match P.info? T with
  |some ie=>ie.size==t.cells.length&&ie.bytes==t.bytes&&(match ie.zero with
   |some z=>z.cells.size==t.cells.length
   |none=>false)
  |none=>false)
 |_=>false
section
variable{L L' X X':Nat→Prop}{w w' BE:World}{S S' Sr:bU}{ow bX CY:Ow}{P:Program}
theorem dW.pv{l:Nat}{tt T:TypeId}{t:Ty}{v:Value}{xs ys:List D}(h:dW w S ow l T t v xs)(cI:OT P tt T t=true)(mf:t.cells.all Ty.scalar=true)(hw:Wf w S ow)(ty:TypeId)(A:Option Addr)(c:Nat)(news:List Value)
  (hA:A=none→ys.length=0) (yo:news.length=ys.length*t.cells.length) (rL: ∀ad,A=some ad→ ∀(j:Nat) u,news[j]? =some u→w.cell? (ad.add j)=some u) (PC: ∀y∈ys,Has t y)
  (BS: ∀(i:Nat) d (j:Nat) u c,ys[i]? =some d→d.cells[j]? =some c→news[i*t.cells.length+j]? =some u→cH w S u c) (hlen:oG t (xs.length+ys.length)):
  ∃v' w',(Builtin.append_ #[tt,tt] ty #[v,.slice A ys.length c]).run P w= .ok v' w'∧ ∃bX,br (kG l) ax w S ow w' S bX∧Wf w' S bX∧dW w' S bX l T t v' (xs++ys):=by
 unfold OT at cI
 split at cI
 ·rename_i e hu
  rw[bc,beq_iff_eq]at cI
  obtain⟨rfl,cI⟩:=cI
  split at cI
  ·rename_i ie vL
   simp only[bc,beq_iff_eq]at cI
   obtain⟨⟨h1,h2⟩,h3⟩:=cI
   split at h3
   ·rename_i z hz
    rw[beq_iff_eq]at h3
    have iY:=h.sz
    have kv: ∀u∈news,u.oneCell'=true:=by
     intro uu huu
     obtain⟨q,hq⟩:=aE huu
     have FU:q<news.length:=(aH.1 hq).1
     have hi:q/t.cells.length<ys.length:=by rw[fL iY,←yo];exact FU
     have hj:q % t.cells.length<t.cells.length:=Nat.mod_lt _ iY
     have hd:ys[q/t.cells.length]? =some (ys[q/t.cells.length]'hi):=aW hi
     have jA:t.cells[q % t.cells.length]? =some (t.cells[q % t.cells.length]'hj):=aW hj
     obtain⟨cc,qt,Hw⟩:=(cN (PC _ (ca hd))).2 _ _ jA
     have XF:q/t.cells.length*t.cells.length+q % t.cells.length=q:=by rw[Nat.mul_comm];exact Nat.div_add_mod _ _
     exact(BS _ _ _ uu cc hd qt (by rw[XF];exact hq)).ko Hw (cn.1 mf _ (aX hj))
    obtain⟨vs,dm,_⟩:=h.own
    obtain⟨v',w',fh,ho,gY⟩:=jW (P:=P) w 0 tt ty e ie z t.cells.length hu vL hz h1 h3 v xs.length vs dm A ys.length c news hA yo rL kv hlen.1 (by rw[h2];exact hlen.2) (bf _)
    obtain⟨bX,a1,a2,a3,_⟩:=h.grow hw PC (by rw[an];exact hlen) yo BS (w':=w') (v':=v') (fun vs2 Jo=>by
     have:vs2=vs:=by
      rcases dm.2 with⟨rfl,hn⟩|⟨g,cap,cur,rfl,_,hg,_,_,_,ht⟩
      ·have e1:=dm.1;have e2:=Jo.1
       rw[hn,Nat.zero_mul]at e1 e2
       rw[au e1,au e2]
      ·rcases Jo.2 with⟨hh,_⟩|⟨g2,awy,awv,hh,_,AV,_,_,_,N3⟩
       ·cases hh
       ·injection hh with hh1 _ _
        injection hh1 with hh1
        injection hh1 with hh1 _
        subst hh1
        rw[hg]at AV
        injection AV with AV
        injection AV with AV
        subst AV
        exact N3.symm.trans ht
     subst this
     exact⟨ho,gY⟩)
    exact⟨v',w',fh,bX,a1,a2,a3⟩
   ·cases h3
  ·cases cI
 ·cases cI
theorem k8{dst:Option Nat}{tt ty:TypeId}{pos:String}{af:Array Edge}{gd:Option (Nat×Bool)}{a:Act}{x y:Operand}{v u v':Value}(hx:a.eval x=v)(hy:a.eval y=u)(h:(Builtin.append_ #[tt,tt] ty #[v,u]).run P w= .ok v' w'):
  (execOp a.eval ⟨dst,.call {callee:=.builtin .append,args:= #[x,y],argTypes:= #[tt,tt]},ty,pos,af,gd⟩).run P w= .ok (.value v') w':=by
 unfold execOp;simp only[resolve,invoke,builtin]
 simp[hx,hy,h]
theorem br.alloc(hw:Wf w S ow)(o:Obj):br ax ax w S ow (w.alloc o) S ow∧Wf (w.alloc o) S ow:=
 ⟨⟨by simp,rfl,rfl,rfl,fun b _ hb _ _=>Below.heap_alloc w o _ hb,fun b hb _ _=>Below.heap_alloc w o _ hb,fun _ _ h=>h,fun b o' hs=>bg (Below.heap_alloc w o _ (hw.s b o' hs)),fun _ _ h _=>h,fun _ _ h=>.inl h,fun _ _ h=>h,fun _ _ h=>.inl h⟩,
  ⟨fun b o' hs=>ar (hw.s b o' hs) (by simp),fun b l hl=>ar (hw.o b l hl) (by simp),hw.d⟩⟩
structure iH(w:World)(S:bU)(ow:Ow)(b:Nat)(T:TypeId)(vs:List Value):Prop where
 heap:w.heap[b]? =some (.cells vs.toArray T (0,0))
 ow:ow b=none
 s: ∀o,¬S b o
theorem iH.new(hw:Wf w S ow)(T:TypeId)(vs:List Value):iH (w.alloc (.cells vs.toArray T)) S ow w.heap.size T vs:=
 ⟨heap_alloc_new w _,by cases h:ow w.heap.size with|none=>rfl|some l=>have:=hw.o _ _ h;omega,fun o hs=>by have:=hw.s _ _ hs;omega⟩
theorem iH.lt{b:Nat}{T:TypeId}{vs:List Value}(h:iH w S ow b T vs):b<w.heap.size:=(aK.1 h.heap).1
theorem iH.bw{b:Nat}{T:TypeId}{vs:List Value}(h:iH w S ow b T vs)(st:br L X w S ow w' S' bX)(hx: ¬X b):iH w' S' bX b T vs:=by
 refine⟨(st.free b h.lt h.ow hx).trans h.heap,st.rQ b h.lt h.ow,fun o hs=> ?_⟩
 rcases st.new b o hs with h1|h1|⟨l,h1,_⟩
 ·exact h.s o h1
 ·have:=h.lt;omega
 ·rw[h.ow]at h1;cases h1
theorem iH.set{b:Nat}{T:TypeId}{vs us:List Value}(h:iH w S ow b T vs)(hw:Wf w S ow):br ax (kG b) w S ow (w.setRow b us.toArray) S ow∧Wf (w.setRow b us.toArray) S ow∧iH (w.setRow b us.toArray) S ow b T us:=by
 have ho: ∀k,k≠b→(w.setRow b us.toArray).heap[k]? =w.heap[k]? :=fun k hk=>setRow_other w _ k _ hk
 refine⟨⟨by simp,rfl,rfl,rfl,fun k l hk hl _=>ho k (fun e=>by rw[e,h.ow]at hl;cases hl),fun k hk _ hx=>ho k hx,fun _ _ h=>h,fun k o hs=>bg (ho k (fun e=>h.s o (e▸hs))),fun _ _ h _=>h,fun _ _ h=>.inl h,fun _ _ h=>h,fun _ _ h=>.inl h⟩,⟨fun k o hs=>by simpa using hw.s k o hs,fun k l hl=>by simpa using hw.o k l hl,hw.d⟩,⟨?_,h.ow,h.s⟩⟩
 exact setRow_heap w b _ _ T (0,0) h.heap
structure Ai(w:World)(ow:Ow)(l b:Nat)(T:TypeId)(vs:List Value):Prop where
 heap:w.heap[b]? =some (.cells vs.toArray T (0,0))
 ow:ow b=some l
 ll:l<1000
theorem Ai.lt{l b:Nat}{T:TypeId}{vs:List Value}(h:Ai w ow l b T vs):b<w.heap.size:=(aK.1 h.heap).1
theorem Ai.bw{l b:Nat}{T:TypeId}{vs:List Value}(h:Ai w ow l b T vs)(st:br L X w S ow w' S' bX)(hl: ¬L l):Ai w' bX l b T vs:=⟨(st.CJ b l h.lt h.ow hl).trans h.heap,st.keep b l h.ow hl,h.ll⟩
theorem Ai.set{l b:Nat}{T:TypeId}{vs us:List Value}(h:Ai w ow l b T vs)(hw:Wf w S ow):br (kG l) ax w S ow (w.setRow b us.toArray) S ow∧Wf (w.setRow b us.toArray) S ow∧Ai (w.setRow b us.toArray) ow l b T us:=by
 have ho: ∀k,k≠b→(w.setRow b us.toArray).heap[k]? =w.heap[k]? :=fun k hk=>setRow_other w _ k _ hk
 refine⟨⟨by simp,rfl,rfl,rfl,fun k l' hk lD hn=>ho k (fun e=>hn (by rw[e,h.ow]at lD;injection lD with lD;exact lD.symm)),fun k hk hn _=>ho k (fun e=>by rw[e,h.ow]at hn;cases hn),fun _ _ h=>h,fun k o hs=>bg (ho k (fun e=>by subst e;have:=hw.d _ _ _ hs h.ow;have:=h.ll;omega)),fun _ _ h _=>h,fun _ _ h=>.inl h,fun _ _ h=>h,fun _ _ h=>.inl h⟩,⟨fun k o hs=>by simpa using hw.s k o hs,fun k l hl=>by simpa using hw.o k l hl,hw.d⟩,⟨?_,h.ow,h.ll⟩⟩
 exact setRow_heap w b _ _ T (0,0) h.heap
theorem k9{b j:Nat}{T:TypeId}{vs:List Value}{v:Value}(h:w.heap[b]? =some (.cells vs.toArray T (0,0)))(hj:vs[j]? =some v):w.cell? ⟨b,j,none⟩=some v:=by
 rw[cell_of_row w b j _ T (0,0) h];simpa using hj
theorem dW.set{l i:Nat}{T:TypeId}{t:Ty}{v:Value}{xs:List D}{d:D}{us:List Value}(h:dW w S ow l T t v xs)(hw:Wf w S ow)(hi:i<xs.length)(hd:Has t d)(zP:us.length=t.cells.length)
  (Hb: ∀(j:Nat) u c,us[j]? =some u→d.cells[j]? =some c→cH w S u c):
  ∃(b cap:Nat) (cur:Array Value),v= .slice (some ⟨b,0,none⟩) xs.length cap∧w.heap[b]? =some (.cells cur T (0,0))∧i*t.cells.length+us.length≤cur.size∧b<w.heap.size∧ow b=some l∧
   br (kG l) ax w S ow (w.setRow b (cur.toList.take (i*t.cells.length)++us++cur.toList.drop (i*t.cells.length+us.length)).toArray) S ow∧Wf (w.setRow b (cur.toList.take (i*t.cells.length)++us++cur.toList.drop (i*t.cells.length+us.length)).toArray) S ow∧
   dW (w.setRow b (cur.toList.take (i*t.cells.length)++us++cur.toList.drop (i*t.cells.length+us.length)).toArray) S ow l T t v (xs.set i d):=by
 obtain⟨vs,h1,h2⟩:=h.own
 rcases h1.2 with⟨rfl,hn⟩|⟨b,cap,cur,rfl,h0,hg,ke,He,kP,LB⟩
 ·omega
 ·have hmul:(i+1)*t.cells.length≤xs.length*t.cells.length:=az _ hi
  have ayC:xs.length*t.cells.length≤cap*t.cells.length:=az _ ke
  rw[cw,Nat.one_mul]at hmul
  have fX:=h.jD b rfl
  have lz:i*t.cells.length+us.length≤cur.size:=by omega
  have ho: ∀(r:Array Value) k,k≠b→(w.setRow b r).heap[k]? =w.heap[k]? :=fun r k hk=>setRow_other w _ k _ hk
  have hnS: ∀o,¬S b o:=fun o hs=>by have:=hw.d b o l hs fX;have:=h.ll;omega
  have oZ: ∀r,br (kG l) ax w S ow (w.setRow b r) S ow:=fun r=>
   ⟨by simp,rfl,rfl,rfl,fun k l' hk lD hn=>ho r k (fun e=>hn (by rw[e,fX]at lD;injection lD with lD;exact lD.symm)),fun k hk hn _=>ho r k (fun e=>by rw[e,fX]at hn;cases hn),fun _ _ h=>h,fun k o hs=>bg (ho r k (fun e=>hnS o (e▸hs))),fun _ _ h _=>h,fun _ _ h=>.inl h,fun _ _ h=>h,fun _ _ h=>.inl h⟩
  refine⟨b,cap,cur,rfl,hg,lz,(aK.1 hg).1,fX,oZ _,⟨fun k o hs=>by simpa using hw.s k o hs,fun k l hl=>by simpa using hw.o k l hl,hw.d⟩,⟨?_,h.sz,h.jD,h.ll,vs.take (i*t.cells.length)++us++vs.drop (i*t.cells.length+us.length),?_,?_⟩⟩
  ·refine⟨_,rfl,by rw[bE];exact h.len,fun x hx=> ?_⟩
   rcases List.mem_or_eq_of_mem_set hx with hx|rfl
   ·exact h.all x hx
   ·exact hd
  ·have zX:vs.length=xs.length*t.cells.length:=h1.1
   refine⟨by simp only[an,bj,bF,bE];omega,.inr ⟨b,cap,_,by rw[bE],h0,setRow_heap w b _ _ T (0,0) hg,by rw[bE];exact ke,He,?_,?_⟩⟩
   ·simp only[cS,an,bj,bF,gz];omega
   ·rw[←LB,bE]
    apply gi
    intro j
    simp only[dG,aG,aO,bj,an,gz,bF]
    by_cases c1:j<i*t.cells.length
    ·have e1:j<xs.length*t.cells.length:=by omega
     have e2:j<i*t.cells.length+us.length:=by omega
     have e3:j<min (i*t.cells.length) cur.size:=by omega
     have e4:j<min (i*t.cells.length) cur.size+us.length:=by omega
     have e5:j<min (i*t.cells.length) (min (xs.length*t.cells.length) cur.size):=by omega
     have e6:j<min (i*t.cells.length) (min (xs.length*t.cells.length) cur.size)+us.length:=by omega
     simp only[e1,e3,e4,e5,e6,c1,if_true]
    ·by_cases c2:j<i*t.cells.length+us.length
     ·rw[if_pos (by omega),if_pos (by omega),if_neg (by omega),if_pos (by omega),if_neg (by omega)]
      congr 1;omega
     ·by_cases c3:j<xs.length*t.cells.length
      ·rw[if_pos c3,if_neg (by omega),if_neg (by omega),if_pos (by omega)]
       congr 1;omega
      ·rw[if_neg c3,if_neg (by omega),if_neg (by omega)]
  ·intro k dk j u c hk hc hu
   have zX:vs.length=xs.length*t.cells.length:=h1.1
   have jY:dk.cells.length=t.cells.length:=by
    rcases List.mem_or_eq_of_mem_set (ca hk) with hx|rfl
    ·exact(cN (h.all _ hx)).1
    ·exact(cN hd).1
   have hj:j<t.cells.length:=by rw[←jY];exact(aH.1 hc).1
   have hkl:k<xs.length:=by have:=(aH.1 hk).1;rwa [bE]at this
   have hmk:(k+1)*t.cells.length≤xs.length*t.cells.length:=az _ hkl
   rw[cw,Nat.one_mul]at hmk
   simp only[dG,aG,aO,bj,an]at hu
   rw[cT]at hk
   by_cases PM:i=k
   ·subst PM
    rw[if_pos rfl,if_pos hi]at hk
    injection hk with hk
    subst hk
    rw[if_pos (by omega),if_neg (by omega)]at hu
    refine(Hb j u c ?_ hc).bw (oZ _)
    rw[←hu];congr 1;omega
   ·rw[if_neg PM]at hk
    have fY:k*t.cells.length+j<i*t.cells.length∨i*t.cells.length+us.length≤k*t.cells.length+j:=by
     rcases Nat.lt_or_ge k i with h3|h3
     ·have:(k+1)*t.cells.length≤i*t.cells.length:=az _ h3
      rw[cw,Nat.one_mul]at this;omega
     ·have:(i+1)*t.cells.length≤k*t.cells.length:=az _ (by omega)
      rw[cw,Nat.one_mul]at this;omega
    refine(h2 k dk j u c hk hc ?_).bw (oZ _)
    rw[←hu]
    rcases fY with h3|h3
    ·rw[if_pos (by omega),if_pos (by omega),if_pos (by omega)]
    ·rw[if_neg (by omega)]
     congr 1;omega
end
section
variable{L L' X X':Nat→Prop}{w w' BE:World}{S S' Sr:bU}{ow bX CY:Ow}{P:Program}
structure lC(w:World)(ow:Ow)(l:Nat)(T:TypeId)(v:Value)(vs:List Value):Prop where
 own:w.ownsRow 0 T 1 v vs.length vs
 jD: ∀b,v.ownBlock=some b→ow b=some l
 ll:l<1000
theorem lC.bw{l:Nat}{T:TypeId}{v:Value}{vs:List Value}(h:lC w ow l T v vs)(hw:Wf w S ow)(st:br L X w S ow w' S' bX)(hl: ¬L l):lC w' bX l T v vs:=
 ⟨pD h.own (fun b hb=>st.CJ b l (hw.o b l (h.jD b hb)) (h.jD b hb) hl),fun b hb=>st.keep b l (h.jD b hb) hl,h.ll⟩
theorem lC.nil{l:Nat}{T:TypeId}(hl:l<1000):lC w ow l T (.slice none 0 0) [] :=⟨eR _ _ _ _,fun b hb=>(by cases hb),hl⟩
theorem lC.elem{l:Nat}{T:TypeId}{v:Value}{vs:List Value}(h:lC w ow l T v vs){i:Nat}{u:Value}(hi:vs[i]? =some u):
  ∃b cap,v= .slice (some ⟨b,0,none⟩) vs.length cap∧b<w.heap.size∧ow b=some l∧w.cell? ⟨b,i,none⟩=some u:=by
 have iJ:i<vs.length:=(aH.1 hi).1
 rcases h.own.2 with⟨rfl,hn⟩|⟨g,cap,cur,rfl,_,hg,ke,He,kP,LB⟩
 ·omega
 ·refine⟨g,cap,rfl,(aK.1 hg).1,h.jD g rfl,?_⟩
  have:=h.own.cells (g:=g) rfl i u hi
  rw[gF,ay]at this
  exact this
theorem lC.slice{l:Nat}{T:TypeId}{v:Value}{vs:List Value}(h:lC w ow l T v vs): ∃A cap,v= .slice A vs.length cap:=by
 rcases h.own.2 with⟨rfl,hn⟩|⟨g,cap,cur,rfl,_⟩
 ·exact⟨none,0,by rw[hn]⟩
 ·exact⟨_,cap,rfl⟩
def aaI(P:Program)(tt T:TypeId):Bool:=match P.underlying tt with
 |some (.slice e)=>e==T&&(match P.info? T with
  |some ie=>ie.size==1&&decide (ie.bytes≤24)&&(match ie.zero with
   |some z=>z.cells.size==1
   |none=>false)
  |none=>false)
 |_=>false
theorem lC.pv{l:Nat}{tt T:TypeId}{v u:Value}{vs:List Value}(h:lC w ow l T v vs)(cI:aaI P tt T=true)(hw:Wf w S ow)(ty:TypeId)(A:Addr)(c:Nat)(hu:w.cell? A=some u)(kv:u.oneCell'=true)(hlen:vs.length+1≤1000000):
  ∃v' w',(Builtin.append_ #[tt,tt] ty #[v,.slice (some A) 1 c]).run P w= .ok v' w'∧ ∃bX,br (kG l) ax w S ow w' S bX∧Wf w' S bX∧lC w' bX l T v' (vs++[u]):=by
 unfold aaI at cI
 split at cI
 ·rename_i e hue
  rw[bc,beq_iff_eq]at cI
  obtain⟨rfl,cI⟩:=cI
  split at cI
  ·rename_i ie vL
   simp only[bc,beq_iff_eq,bQ]at cI
   obtain⟨⟨h1,h2⟩,h3⟩:=cI
   split at h3
   ·rename_i z hz
    rw[beq_iff_eq]at h3
    obtain⟨v',w',fh,ho,gY⟩:=jW (P:=P) w 0 tt ty e ie z 1 hue vL hz h1 h3 v vs.length vs h.own (some A) 1 c [u] (by intro h;cases h) rfl
     (by
      intro ad E4 j x hx
      injection E4 with E4;subst E4
      match j,hx with
      |0,hx=>simp at hx;subst hx;simpa [Addr.add]using hu) (by simpa using kv) (by simp only[maxLen];omega) (by
      have:(vs.length+1)*ie.bytes≤1000000*24:=Nat.mul_le_mul hlen h2
      omega) (bf _)
    have Cg:w'.os=w.os∧w'.tape=w.tape∧w'.output=w.output∧w.heap.size≤w'.heap.size:=by
     rcases gY with⟨_,hg⟩|⟨_,hg⟩<;>exact⟨hg.os,hg.tape,hg.output,hg.size⟩
    have fZ: ∀b,b<w.heap.size→v.ownBlock≠some b→w'.heap[b]? =w.heap[b]? :=by
     intro b hb fY
     rcases gY with⟨_,hg⟩|⟨_,hg⟩
     ·exact hg.block b hb (fun e=>fY e.symm)
     ·exact hg.block b hb (by simp)
    have Jm: ∀b,v.ownBlock=some b→ ∀o,¬S b o:=fun b hb o hs=>by have:=hw.d b o l hs (h.jD b hb);have:=h.ll;omega
    refine⟨v',w',fh,fun b=>if v'.ownBlock=some b then some l else ow b,⟨Cg.2.2.2,Cg.1,Cg.2.1,Cg.2.2.1,?_,?_,fun _ _ h=>h,?_,?_,fun _ _ h=>.inl h,?_,fun b l' hl=>(by
     replace hl:(if v'.ownBlock=some b then some l else ow b)=some l':=hl
     split at hl
     ·injection hl with hl;exact .inr hl.symm
     ·exact .inl hl)⟩,⟨fun b o hs=>ar (hw.s b o hs) Cg.2.2.2,?_,?_⟩,?_,?_,h.ll⟩
    ·intro b l' hb ho hl
     exact fZ b hb (fun hv=>hl (by have:=(h.jD b hv).symm.trans ho;injection this with this;exact this.symm))
    ·intro b hb ho _
     exact fZ b hb (fun hv=>by rw[h.jD b hv]at ho;cases ho)
    ·intro b o hs
     exact bg (fZ b (hw.s b o hs) (fun hb=>Jm b hb o hs))
    ·intro b l' ho hl
     show(if v'.ownBlock=some b then some l else ow b)=some l'
     rw[if_neg ?_]
     ·exact ho
     ·intro hv
      rcases gY with⟨he,_⟩|⟨he,_⟩
      ·have:=(h.jD b (he▸hv)).symm.trans ho
       injection this with this;exact hl this.symm
      ·rw[he]at hv;injection hv with hv
       have:=hw.o b l' ho
       omega
    ·intro b hb ho
     show(if v'.ownBlock=some b then some l else ow b)=none
     rw[if_neg ?_]
     ·exact ho
     ·intro hv
      rcases gY with⟨he,_⟩|⟨he,_⟩
      ·rw[h.jD b (he▸hv)]at ho;cases ho
      ·rw[he]at hv;injection hv with hv;omega
    ·intro b l' zR
     replace zR:(if v'.ownBlock=some b then some l else ow b)=some l':=zR
     split at zR
     ·rename_i hv;exact(ho.lt b hv).2
     ·exact ar (hw.o b l' zR) Cg.2.2.2
    ·intro b o l' hs zR
     replace zR:(if v'.ownBlock=some b then some l else ow b)=some l':=zR
     split at zR
     ·rename_i hv
      rcases gY with⟨he,_⟩|⟨he,_⟩
      ·exact absurd hs (Jm b (he▸hv) o)
      ·rw[he]at hv;injection hv with hv
       have:=hw.s b o hs
       omega
     ·exact hw.d b o l' hs zR
    ·rw[an];exact ho
    ·intro b hb
     show(if v'.ownBlock=some b then some l else ow b)=some l
     rw[if_pos hb]
   ·cases h3
  ·cases cI
 ·cases cI
theorem lC.set{l i:Nat}{T:TypeId}{v u:Value}{vs:List Value}(h:lC w ow l T v vs)(hw:Wf w S ow)(hi:i<vs.length):
  ∃(b cap:Nat) (cur:Array Value),v= .slice (some ⟨b,0,none⟩) vs.length cap∧w.heap[b]? =some (.cells cur T (0,0))∧i+1≤cur.size∧b<w.heap.size∧ow b=some l∧
   br (kG l) ax w S ow (w.setRow b (cur.toList.take i++[u] ++cur.toList.drop (i+1)).toArray) S ow∧Wf (w.setRow b (cur.toList.take i++[u] ++cur.toList.drop (i+1)).toArray) S ow∧
   lC (w.setRow b (cur.toList.take i++[u] ++cur.toList.drop (i+1)).toArray) ow l T v (vs.set i u):=by
 rcases h.own.2 with⟨rfl,hn⟩|⟨b,cap,cur,rfl,h0,hg,ke,He,kP,LB⟩
 ·omega
 ·rw[cd]at kP LB
  have fX:=h.jD b rfl
  have ho: ∀(r:Array Value) k,k≠b→(w.setRow b r).heap[k]? =w.heap[k]? :=fun r k hk=>setRow_other w _ k _ hk
  have hnS: ∀o,¬S b o:=fun o hs=>by have:=hw.d b o l hs fX;have:=h.ll;omega
  refine⟨b,cap,cur,rfl,hg,by omega,(aK.1 hg).1,fX,
   ⟨by simp,rfl,rfl,rfl,fun k l' hk lD hn=>ho _ k (fun e=>hn (by rw[e,fX]at lD;injection lD with lD;exact lD.symm)),fun k hk hn _=>ho _ k (fun e=>by rw[e,fX]at hn;cases hn),fun _ _ h=>h,fun k o hs=>bg (ho _ k (fun e=>hnS o (e▸hs))),fun _ _ h _=>h,fun _ _ h=>.inl h,fun _ _ h=>h,fun _ _ h=>.inl h⟩,
   ⟨fun k o hs=>by simpa using hw.s k o hs,fun k l hl=>by simpa using hw.o k l hl,hw.d⟩,⟨⟨by simp,.inr ⟨b,cap,_,by rw[bE],h0,setRow_heap w b _ _ T (0,0) hg,by rw[bE];exact ke,He,?_,?_⟩⟩,h.jD,h.ll⟩⟩
  ·simp only[cS,an,bj,bF,gz,bG];omega
  ·have iJ:i<cur.toList.length:=by rw[gz];omega
   rw[bE,cd,Ep iJ]
   show List.take _ (cur.toList.set i u)=_
   rw[List.take_set,LB]
def mP(w:World)(S:bU)(ow:Ow)(l:Nat)(ob:Ob)(b:Nat)(cells:List (List D)):Prop:=
 ∃(β:Nat→Nat) (τ:Nat→Value),β 0=b∧Ge w S ob β τ [.pointer (some ⟨b,0,none⟩)] [] cells∧(∀CJ,xB ob β τ CJ→ow CJ=some l)
theorem mP.bw{l:Nat}{ob:Ob}{b:Nat}{cells:List (List D)}(h:mP w S ow l ob b cells)(hw:Wf w S ow)(lu:Wf w' S' bX)(st:br L X w S ow w' S' bX)(hl: ¬L l)(XC:ob.shape=[true]):mP w' S' bX l ob b cells:=by
 obtain⟨β,τ,hb,ly,yf⟩:=h
 have fZ: ∀k,xB ob β τ k→w'.heap[k]? =w.heap[k]? :=fun k hk=>st.CJ k l (hw.o k l (yf k hk)) (yf k hk) hl
 have hSk: ∀k o,xB ob β τ k→S' k o→S k o:=by
  intro k o hk hs
  rcases st.new k o hs with h1|h1|⟨l',h1,h2⟩
  ·exact h1
  ·have:=hw.o k l (yf k hk);omega
  ·rw[yf k hk]at h1;injection h1 with h1;subst h1;exact absurd h2 hl
 refine⟨β,τ,hb,⟨lu.s,?_,ly.len,?_,ly.inj,ly.own,ly.eV,?_⟩,fun k hk=>st.keep k l (yf k hk) hl⟩
 ·have:=ly.args
  rw[XC]at this⊢
  exact this
 ·intro o rc cs ho hc
  obtain⟨jZ,T,h1,h2,h3,h4,h5⟩:=ly.cC o rc cs ho hc
  have mM:o<ob.cC.length:=(aH.1 ho).1
  have hmo:xB ob β τ (β o):=.inl ⟨o,mM,rfl⟩
  refine⟨jZ,T,(fZ _ hmo).trans h1,h2,h3,?_,fun o' hs=>h5 o' (hSk _ _ hmo hs)⟩
  intro i r v d hr hv hd
  have hc:=h4 i r v d hr hv hd
  obtain⟨t,ro⟩:=r
  cases ro with
  |none=>exact⟨hc.1.bw st,hc.2⟩
  |some jT=>
   obtain⟨j,TT⟩:=jT
   obtain⟨rfl,hO⟩:=hc
   have hj:j∈ob.kU:=dh.2 ⟨rc,ca ho,bH.2 ⟨_,ca hr,rfl⟩⟩
   refine⟨rfl,hO.has,hO.sz,?_⟩
   obtain⟨xs,l',a1,a2,a3,a4⟩:=hO.own
   refine⟨xs,l',a1,pD a2 (fun k hk=>fZ k (.inr ⟨j,hj,hk⟩)),fun k hk o=> ?_,fun i d j u c b1 b2 b3=>(a4 i d j u c b1 b2 b3).bw st⟩
   rw[←a3 k hk o]
   exact⟨hSk k o (.inr ⟨j,hj,hk⟩),st.kJ k o⟩
 ·intro bP o c rc ho hc
  have mM:o<ob.cC.length:=(aH.1 ho).1
  rw[bg (fZ _ (.inl ⟨o,mM,rfl⟩))]
  exact ly.link bP o c rc ho hc
end
section
variable{w w':World}{S S':bU}{ow bX:Ow}{P:Program}
theorem EI{β:Nat→Nat}: ∀{n:Nat} {vs:List Value} {ds:List D} {o:Nat},vs.length=n→ds.length=n→(∀(i:Nat) v d,vs[i]? =some v→ds[i]? =some d→cH w S v d)→uN w S β (List.replicate n false) o vs ds
 |0,[],[],_,_,_,_=>trivial
 |n+1,v::vs,d::ds,o,hv,hd,h=>by
  refine⟨h 0 v d rfl rfl,EI (by simpa using hv) (by simpa using hd) fun i u e hu he=>h (i+1) u e (by simpa using hu) (by simpa using he)⟩
theorem mP.call{f:Nat}{sig:dQ}{ob ob0:Ob}{Pre:List D→Prop}{Φ:List D→D}{l b n:Nat}{cells:List (List D)}{vs:List Value}{dd:List D}(hf:bh P f sig Pre Φ)(fX:sig.ob=some ob)(xw:ob.Ae=false)(XC:ob.shape=true::List.replicate n false)(nM:ob.cC=ob0.cC)
  (ku:ob.outs=ob0.cC) (alc:ob0.shape=[true]) (h2:1≤ob0.cC.length) (h2m:2≤ob0.cC.length∨ob.mv=false) (dm:cO sig.res=[]) (qY:1000≤l) (h:mP w S ow l ob0 b cells) (hw:Wf w S ow) (zX:vs.length=n) (wN:dd.length=n) (jf: ∀(i:Nat) v d,vs[i]? =some v→dd[i]? =some d→cH w S v d)
  (jA:dK (.dJ sig.params) (dd++cells.flatten)) (ks:Pre (dd++cells.flatten)):
  Calls P f (.pointer (some ⟨b,0,none⟩)::vs).toArray w fun e w'=> ∃v S' bX τ d0 outs,e= .returned v∧Φ (dd++cells.flatten)= .fx (d0::outs.map .agg)∧outs.length=ob0.cC.length∧br (kG l) ax w S ow w' S' bX∧Wf w' S' bX∧mP w' S' bX l ob0 b outs∧iL w' 0 S' τ sig.res v d0:=by
 obtain⟨β,τ,hb,ly,yf⟩:=h
 have jN:ob.new=false:=by unfold Ob.new;rw[ku,nM];simp
 have qZ:ja ob.shape=1:=by
  have hz:(List.filter (fun b=>b) (List.replicate n false)).length=0:=by
   rw[List.length_eq_zero_iff,List.filter_eq_nil_iff]
   intro x hx
   rw[(List.mem_replicate.1 hx).2]
   decide
  rw[XC]
  simp only[ja,List.filter_cons,if_true,bM]
  omega
 have PT:ja ob0.shape=1:=by rw[alc];rfl
 have Hf:ob.kU=ob0.kU:=by unfold Ob.kU;rw[nM]
 have SZ: ∀k,xB ob β τ k↔xB ob0 β τ k:=fun k=>by unfold xB;rw[nM,Hf]
 have Qb:Ge w S ob β τ (.pointer (some ⟨b,0,none⟩)::vs) dd cells:=by
  refine⟨ly.lt,?_,by rw[nM];exact ly.len,by rw[nM];exact ly.cC,by rw[nM];exact ly.inj,by rw[Hf];exact ly.own,by rw[Hf,nM];exact ly.eV,fun hc=>by rw[nM];exact ly.link (by rw[PT];rw[qZ,nM]at hc;exact hc)⟩
  rw[XC]
  exact⟨by rw[hb],EI zX wN jf⟩
 refine(hf.Dx ob fX xw w S β τ _ dd cells Qb jA ks).mono ?_
 rintro e w1 ⟨v,S',τ',βn,rfl,ho⟩
 obtain⟨d0,outs,hd,mM,fi,oH⟩:=ho.res
 rw[jN]at fi
 simp only[ak,if_false]at fi
 have Dk:outs.length=ob0.cC.length:=by rw[mM,ku]
 have FY: ∀o,o<ob0.cC.length→lF ob β βn o=β o∨(o=ob0.cC.length-1∧ob.mv=true∧lF ob β βn o=βn):=by
  intro o mM
  unfold lF
  rw[nM]
  by_cases hc:ob.mv=true∧o=ob0.cC.length-1
  ·exact .inr ⟨hc.2,hc.1,if_neg (fun h=>h.2 hc)⟩
  ·exact .inl (if_pos ⟨mM,hc⟩)
 have awe: ∀o,o<ob0.cC.length→xB ob0 β τ (lF ob β βn o)∨w.heap.size≤lF ob β βn o:=by
  intro o mM
  rcases FY o mM with h1|⟨_,h1,h2⟩
  ·rw[h1];exact .inl (.inl ⟨o,mM,rfl⟩)
  ·rw[h2]
   rcases ho.mvd h1 with h3|h3
   ·rw[h3,nM];exact .inl (.inl ⟨_,by omega,rfl⟩)
   ·exact .inr h3
 have uD: ∀j,j∈ob0.kU→j∈mn sig ob:=by
  intro j hj
  unfold mn
  rw[dm,ku]
  exact hj
 have Ta: ∀k,xB ob0 (lF ob β βn) τ' k→xB ob0 β τ k∨w.heap.size≤k:=by
  rintro k (⟨o,mM,rfl⟩|⟨j,hj,hk⟩)
  ·exact awe o mM
  ·rcases ho.gS j k (uD j hj) hk with h1|h1
   ·exact .inr h1
   ·exact .inl ((SZ k).1 h1)
 have Lr: ∀k,xB ob0 β τ k→k<w.heap.size:=fun k hk=>hw.o k l (yf k hk)
 have iY:=ho.below.size
 classical
 refine⟨v,S',fun k=>if xB ob0 (lF ob β βn) τ' k then some l else if ow k=some l then none else ow k,τ',d0,outs,rfl,hd,Dk,⟨iY,ho.below.os,ho.below.tape,ho.below.output,?_,?_,ho.kJ,ho.keep,?_,?_,?_,fun k l' hk=>(by
   replace hk:(if xB ob0 (lF ob β βn) τ' k then some l else if ow k=some l then none else ow k)=some l':=hk
   split at hk
   ·injection hk with hk;exact .inr hk.symm
   ·split at hk
    ·cases hk
    ·exact .inl hk)⟩,⟨ho.lt,?_,?_⟩,⟨lF ob β βn,τ',?_,⟨ho.lt,?_,by rw[Dk],?_,?_,?_,?_,?_⟩,fun k hk=>if_pos hk⟩,fi⟩
 ·intro k l' hk mM hn
  exact ho.below.block k hk (fun hm=>hn (by have:=(yf k ((SZ k).1 hm)).symm.trans mM;injection this with this;exact this.symm))
 ·intro k hk hn _
  exact ho.below.block k hk (fun hm=>by rw[yf k ((SZ k).1 hm)]at hn;cases hn)
 ·intro k l' hk hn
  show(if xB ob0 (lF ob β βn) τ' k then some l else if ow k=some l then none else ow k)=some l'
  rw[if_neg,if_neg,hk]
  ·rw[hk];intro e;injection e with e;exact hn e
  ·intro hm
   rcases Ta k hm with h1|h1
   ·have:=(yf k h1).symm.trans hk
    injection this with this;exact hn this.symm
   ·have:=hw.o k l' hk;omega
 ·intro k o hs
  rcases ho.new k o hs with h1|h1|h1
  ·exact .inl h1
  ·exact .inr (.inl h1)
  ·exact .inr (.inr ⟨l,yf k ((SZ k).1 h1),rfl⟩)
 ·intro k hk hn
  show(if xB ob0 (lF ob β βn) τ' k then some l else if ow k=some l then none else ow k)=none
  rw[if_neg,if_neg (by rw[hn];intro e;cases e)]
  ·exact hn
  ·intro hm
   rcases Ta k hm with h1|h1
   ·rw[yf k h1]at hn;cases hn
   ·omega
 ·intro k l' hk
  replace hk:(if xB ob0 (lF ob β βn) τ' k then some l else if ow k=some l then none else ow k)=some l':=hk
  split at hk
  ·rename_i hm
   rcases Ta k hm with h1|h1
   ·exact ar (Lr k h1) iY
   ·rcases hm with⟨o,mM,rfl⟩|⟨j,hj,Fa⟩
    ·obtain⟨rc,pT⟩: ∃rc,ob0.cC[o]? =some rc:=⟨_,aW mM⟩
     obtain⟨cs,kP⟩: ∃cs,outs[o]? =some cs:=⟨_,aW (by omega)⟩
     obtain⟨jZ,T,hh,_⟩:=oH o rc cs (by rw[ku];exact pT) kP
     exact(aK.1 hh).1
    ·obtain⟨rc,pT,hjr⟩:=dh.1 hj
     obtain⟨x,hx,hxj⟩:=bH.1 hjr
     obtain⟨o,mM,hoe⟩:=gw pT
     obtain⟨i,iJ,vL⟩:=gw hx
     obtain⟨cs,kP⟩: ∃cs,outs[o]? =some cs:=⟨_,aW (by omega)⟩
     obtain⟨jZ,T,hh,h3,h4,h5,_⟩:=oH o rc cs (by rw[ku,aW mM,hoe]) kP
     have hc:=h5 i x (jZ[i]'(by omega)) (cs[i]'(by omega)) (by rw[aW iJ,vL]) (aW _) (aW _)
     obtain⟨t,ro⟩:=x
     cases ro with
     |none=>cases hxj
     |some jT=>
      simp only[aP,ae]at hxj
      subst hxj
      obtain⟨_,hO⟩:=hc
      obtain⟨xs,l2,_,a2,_⟩:=hO.own
      exact(a2.lt k Fa).2
  ·split at hk
   ·cases hk
   ·exact ar (hw.o k l' hk) iY
 ·intro k o l' hs hk
  replace hk:(if xB ob0 (lF ob β βn) τ' k then some l else if ow k=some l then none else ow k)=some l':=hk
  split at hk
  ·injection hk with hk;omega
  ·split at hk
   ·cases hk
   ·rename_i fY
    rcases ho.new k o hs with h1|h1|h1
    ·exact hw.d k o l' h1 hk
    ·have:=hw.o k l' hk;omega
    ·exact absurd (yf k ((SZ k).1 h1)) fY
 ·rcases FY 0 (by omega) with h1|⟨h1,h3,_⟩
  ·rw[h1,hb]
  ·rcases h2m with h4|h4
   ·omega
   ·rw[h3]at h4;cases h4
 ·rw[alc]
  refine⟨?_,trivial⟩
  rcases FY 0 (by omega) with h1|⟨h1,h3,_⟩
  ·rw[h1,hb]
  ·rcases h2m with h4|h4
   ·omega
   ·rw[h3]at h4;cases h4
 ·intro o rc cs h1 h3
  exact oH o rc cs (by rw[ku];exact h1) h3
 ·intro i j hi hj he
  rcases FY i hi with h1|⟨h1,hm1,h3⟩
  ·rcases FY j hj with h4|⟨h4,hm4,h5⟩
   ·rw[h1,h4]at he
    exact ly.inj i j hi hj he
   ·rw[h1,h5]at he
    rcases ho.mvd hm4 with h6|h6
    ·rw[h6,nM]at he
     have:=ly.inj i (ob0.cC.length-1) hi (by omega) he
     omega
    ·have:=Lr (β i) (.inl ⟨i,hi,rfl⟩);omega
  ·rcases FY j hj with h4|⟨h4,_⟩
   ·rw[h3,h4]at he
    rcases ho.mvd hm1 with h6|h6
    ·rw[h6,nM]at he
     have:=ly.inj (ob0.cC.length-1) j (by omega) hj he
     omega
    ·have:=Lr (β j) (.inl ⟨j,hj,rfl⟩);omega
   ·omega
 ·intro j k b' hj hk h1 h3
  exact ho.own j k b' (uD j hj) (uD k hk) h1 h3
 ·intro j o b' hj mM h1
  exact ho.eV j o b' (uD j hj) (by rw[ku];exact mM) h1
 ·intro bP o c rc h1 h3
  have:=ho.link (by rw[qZ,nM];rw[PT]at bP;exact bP) o c rc (by rw[ku];exact h1) h3
  rw[nM]at this
  exact this
theorem Gt{f:Nat}{sig:dQ}{Pre:List D→Prop}{Φ:List D→D}{vs:List Value}{dd:List D}(hf:bh P f sig Pre Φ)(fX:sig.ob=none)(hw:Wf w S ow)(hl:vs.length=dd.length)(jf: ∀(i:Nat) v d,vs[i]? =some v→dd[i]? =some d→cH w S v d)
  (jA:dK (.dJ sig.params) dd) (ks:Pre dd):
  Calls P f vs.toArray w fun e w'=> ∃v S' τ,e= .returned v∧br ax ax w S ow w' S' ow∧Wf w' S' ow∧iL w' 0 S' τ sig.res v (Φ dd):=by
 refine(hf.calls fX w S vs dd hw.s hl jf jA ks).mono ?_
 rintro e w1 ⟨v,S',τ,rfl,hb,h1,h2,h3,h4,_⟩
 refine⟨v,S',τ,rfl,⟨hb.size,hb.os,hb.tape,hb.output,fun b _ ju _ _=>hb.block b ju,fun b ju _ _=>hb.block b ju,h1,fun b o hs=>bg (hb.block b (hw.s b o hs)),fun _ _ h _=>h,fun b o hs=>(h3 b o hs).imp id .inl,fun _ _ h=>h,fun _ _ h=>.inl h⟩,⟨h2,fun b l hl=>ar (hw.o b l hl) hb.size,?_⟩,h4⟩
 intro b o l hs hl
 rcases h3 b o hs with h5|h5
 ·exact hw.d b o l h5 hl
 ·have:=hw.o b l hl;omega
end
theorem V3{P:Program}(w:World)(tt T:TypeId)(u:Value)(ie:TypeInfo)(z:Value)(hu:P.underlying tt=some (.slice T))(vL:P.info? T=some ie)(hz:ie.zero=some z)(iY:u.cells.size=ie.size)(ir:0<ie.size)(DE:ie.size≤2 ^ 24):
  (Instr.buildSlice tt 1 #[(0,u)]).run P w= .ok (.slice (some ⟨w.heap.size,0,none⟩) 1 1) (w.alloc (.cells u.cells T)):=by
 refine run_buildSlice w tt T 1 _ u.cells ie z hu vL hz (by omega) (by omega) ?_
 obtain⟨us,PI⟩: ∃us:List Value,u.cells=us.toArray:=⟨u.cells.toList,by simp⟩
 simp only[Instr.fill,Nat.zero_mul,Nat.one_mul,ay]
 rw[PI]at iY⊢
 have Fs:us.length=ie.size:=by simpa using iY
 obtain⟨vs,RZ,zX⟩: ∃vs:List Value,(Array.range ie.size).map (fun x=>z.cells[x % z.cells.size]!)=vs.toArray∧vs.length=ie.size:=⟨((Array.range ie.size).map (fun x=>z.cells[x % z.cells.size]!)).toList,by rw[Array.toArray_toList],by simp⟩
 rw[RZ]
 have hf:=foldl_set 0 us 0 vs (by omega)
 simp only[ay,List.take_zero,eI]at hf
 have aoA:vs.drop us.length=[] :=ck (by omega)
 rw[aoA,cQ]at hf
 have mV: ¬((us.toArray.size≠ie.size||decide (us.toArray.size>vs.toArray.size))=true):=by
  simp[Fs,zX]
 rw[if_neg mV]
 have h3:us.toArray.zipIdx.foldl (fun cs (x:Value×Nat)=>cs.setIfInBounds x.2 x.1) vs.toArray=us.toArray:=by
  rw[show us.toArray.zipIdx=(us.zipIdx).toArray by simp]
  exact(List.foldl_toArray' _ _ _ (by simp)).trans hf
 exact congrArg some h3
def Uj(P:Program)(tt T:TypeId)(k:Nat):Bool:=match P.underlying tt with
 |some (.slice e)=>e==T&&(match P.info? T with
  |some ie=>ie.size==k&&ie.zero.isSome&&decide (0<k)&&decide (k≤100)
  |none=>false)
 |_=>false
theorem Q3{P:Program}{tt T:TypeId}{k:Nat}(h:Uj P tt T k=true)(w:World)(u:Value)(hu:u.cells.size=k):(Instr.buildSlice tt 1 #[(0,u)]).run P w= .ok (.slice (some ⟨w.heap.size,0,none⟩) 1 1) (w.alloc (.cells u.cells T)):=by
 unfold Uj at h
 split at h
 ·rename_i e he
  rw[bc,beq_iff_eq]at h
  obtain⟨rfl,h⟩:=h
  split at h
  ·rename_i ie vL
   simp only[bc,beq_iff_eq,bQ]at h
   obtain⟨⟨⟨h1,h2⟩,h3⟩,h4⟩:=h
   obtain⟨z,hz⟩:=dH.1 h2
   exact V3 w tt e u ie z he vL hz (by omega) (by omega) (by omega)
  ·cases h
 ·cases h
section
variable{P:Program}{ops:Array Oper}{Q:Exit→Act→World→Prop}{SS:World→Prop}{n n0 i d:Nat}{a:Act}{w:World}{m:List (Nat×Value)}{gd:Option (Nat×Bool)}{LL r:List OK}
variable{x y z:Operand}{t t2 tt T:TypeId}{v u:Value}{S:bU}{ow:Ow}
theorem uP{us:List Value}(k:Kn n a m)(hi:n0≤i)(hg:tW LL m gd=some true)(hd:d<n)(hx:oh m x=some v)(hc:v.cells=us.toArray)(hS:r≠ [] →SS (w.alloc (.cells us.toArray t)))
  (h: ∀a',Kn n a' ((d,.pointer (some ⟨w.heap.size,0,none⟩))::m)→TL P ops Q SS n0 LL r (i+1) a' (w.alloc (.cells us.toArray t))):TL P ops Q SS n0 LL ((some d,.box t x,gd)::r) i a w:=by
 refine yq k hi hg hd (fun ty pos af=>⟨_,_,?_,hS,h⟩)
 have:=k.op hx
 unfold execOp;simp only[Instr.box]
 simp[newVar,newRow,this,hc]
theorem oO{nn:Nat}(k:Kn n a m)(hi:n0≤i)(hg:tW LL m gd=some true)(hd:d<n)(hz:((P.info? t).bind (·.zero)).map (fun z=>z.cells.size)=some nn)(hS: ∀zs:List Value,r≠ [] →SS (w.alloc (.cells zs.toArray t)))
  (h: ∀zs:List Value,zs.length=nn→ ∀a',Kn n a' ((d,.pointer (some ⟨w.heap.size,0,none⟩))::m)→TL P ops Q SS n0 LL r (i+1) a' (w.alloc (.cells zs.toArray t))):TL P ops Q SS n0 LL ((some d,.alloc t,gd)::r) i a w:=by
 refine yq k hi hg hd (fun ty pos af=> ?_)
 obtain⟨zs,h1,h2⟩:=NP (P:=P) (a:=a) (w:=w) (dst:=some d) (ty:=ty) (pos:=pos) (af:=af) (gd:=gd) hz
 refine⟨_,_,?_,hS zs.toList,h zs.toList (by simpa using h1)⟩
 simpa using h2
theorem qK{kk:Nat}(k:Kn n a m)(hi:n0≤i)(hg:tW LL m gd=some true)(hd:d<n)(hx:oh m x=some v)(hl:Uj P tt T kk=true)(hc:v.cells.size=kk)(hS:r≠ [] →SS (w.alloc (.cells v.cells T)))
  (h: ∀a',Kn n a' ((d,.slice (some ⟨w.heap.size,0,none⟩) 1 1)::m)→TL P ops Q SS n0 LL r (i+1) a' (w.alloc (.cells v.cells T))):TL P ops Q SS n0 LL ((some d,.buildSlice tt 1 #[(0,x)],gd)::r) i a w:=by
 refine yq k hi hg hd (fun ty pos af=>⟨_,_,?_,hS,h⟩)
 have:=k.op hx
 have h1:=Q3 hl w v hc
 unfold execOp
 simp[this,h1]
theorem p9{parts:Array (Nat×Operand)}{ps:List (Nat×Value)}{vs:List Value}(k:Kn n a m)(hS:SS w)(hg:tW LL m gd=some true)(hd:d<n)(hp:parts.toList.map (fun y=>(oh m y.2).map fun v=>(y.1,v))=ps.map some)(hb:P.built t ps=some vs.toArray)
  (h: ∀a',Kn n a' ((d,.agg vs.toArray)::m)→TL P ops Q SS n0 LL r (i+1) a' w):TL P ops Q SS n0 LL ((some d,.build t parts,gd)::r) i a w:=by
 refine tX k hS hg hd (fun ty pos af w' _=> ?_) h
 have hq:(parts.map fun(i,x)=>(i,a.eval x)).toList=ps:=by
  rw[Array.toList_map]
  have key: ∀(l:List (Nat×Operand)) (qs:List (Nat×Value)),l.map (fun y=>(oh m y.2).map fun v=>(y.1,v))=qs.map some→l.map (fun y=>(y.1,a.eval y.2))=qs:=by
   intro l
   induction l with
   |nil=>intro qs h;cases qs with|nil=>rfl|cons=>cases h
   |cons y l ih=>
    intro qs h
    cases qs with
    |nil=>cases h
    |cons q qs=>
     simp only[cZ,eJ,da]at h
     obtain⟨⟨v,h1,h2⟩,h3⟩:=h
     rw[cZ,ih qs h3,k.op h1,h2]
  exact key parts.toList ps hp
 unfold execOp;simp only[bA,run_build w' t _ _ (hq▸hb),ct]
 rfl
theorem pX{b off:Nat}{cur:Array Value}{TT:TypeId}{vs:List Value}(k:Kn n a m)(hi:n0≤i)(hg:tW LL m gd=some true)(hs:jF P t=some vs.length)(hx:oh m x=some (.pointer (some ⟨b,off,none⟩)))(hy:oh m y=some v)(hc:v.cells=vs.toArray)
  (kR:w.heap[b]? =some (.cells cur TT (0,0))) (hlen:off+vs.length≤cur.size) (kv: ∀v∈vs,v.oneCell'=true) (hS:r≠ [] →SS (w.setRow b (cur.toList.take off++vs++cur.toList.drop (off+vs.length)).toArray))
  (h: ∀a',Kn n a' m→TL P ops Q SS n0 LL r (i+1) a' (w.setRow b (cur.toList.take off++vs++cur.toList.drop (off+vs.length)).toArray)):TL P ops Q SS n0 LL ((none,.store t x y,gd)::r) i a w:=
 atF k hi hg (fun ty pos af=>NM hs (k.op hx) (by rw[k.op hy];exact hc) kR hlen kv) hS h
theorem mW{b off:Nat}{cur:List Value}{TT:TypeId}(k:Kn n a m)(hi:n0≤i)(hg:tW LL m gd=some true)(hs:jF P t=some 1)(hx:oh m x=some (.pointer (some ⟨b,off,none⟩)))(hy:oh m y=some v)(hc:v.cells= #[v])
  (kR:w.heap[b]? =some (.cells cur.toArray TT (0,0))) (hlen:off<cur.length) (kv:v.oneCell'=true) (hS:r≠ [] →SS (w.setRow b (cur.set off v).toArray))
  (h: ∀a',Kn n a' m→TL P ops Q SS n0 LL r (i+1) a' (w.setRow b (cur.set off v).toArray)):TL P ops Q SS n0 LL ((none,.store t x y,gd)::r) i a w:=by
 have e:(cur.toArray.toList.take off++[v] ++cur.toArray.toList.drop (off+[v].length))=cur.set off v:=Ep hlen
 refine pX (vs:=[v]) (cur:=cur.toArray) k hi hg hs hx hy (by rw[hc]) kR (by simp;omega) (by simpa using kv) ?_ ?_
 ·rw[e];exact hS
 ·rw[e];exact h
def VJ(P:Program)(t f:Nat):Option Nat:=match nb P t f with
 |some (fl,nn)=>if j5 P fl.type=false∧(P.underlying fl.type).isSome=true∧nn=1 then some fl.offset else none
 |none=>none
theorem VU{f off:Nat}{vs:List Value}(k:Kn n a m)(hS:SS w)(hg:tW LL m gd=some true)(hd:d<n)(hx:oh m x=some (.agg vs.toArray))(hf:VJ P t f=some off)(hv:vs[off]? =some v)
  (h: ∀a',Kn n a' ((d,v)::m)→TL P ops Q SS n0 LL r (i+1) a' w):TL P ops Q SS n0 LL ((some d,.field t x f,gd)::r) i a w:=by
 refine tX k hS hg hd (fun ty pos af w' _=> ?_) h
 unfold VJ at hf
 split at hf
 ·rename_i fl nn hfo
  split at hf
  ·rename_i mV
   obtain⟨ha,hq,rfl⟩:=mV
   injection hf with hf
   subst hf
   obtain⟨dsc,hq⟩:=dH.1 hq
   obtain⟨fs,hu,lE,hs⟩:=xZ hfo
   have bP:=(aH.1 hv).1
   have hp:=uU (w:=w') (n:=1) (off:=fl.offset) hq hs vs (by omega) (fun _=>by decide)
   have SL:valOf P fl.type ((vs.drop fl.offset).take 1)=v:=by
    have e:(vs.drop fl.offset).take 1=[v] :=by
     apply gi
     intro j
     rw[aG,aO]
     match j with
     |0=>simpa using hv
     |j+1=>simp
    rw[e]
    simp[valOf,ha]
   rw[SL]at hp
   unfold execOp;simp only[k.op hx,Instr.field,asAgg]
   simp[run_underlying hu,lE,hp]
  ·cases hf
 ·cases hf
end
theorem results_tmp{fn:Func}{t:Nat}(h:fn.results= #[.tmp t])(tmps:Array Value)(P:Program)(w:World):(results fn tmps).run P w= .ok (tmps.getD t undef) w:=by
 simp[results,h]
theorem nU{P:Program}{fn:Func}{R:Ending→World→Prop}{a:Act}{w:World}{n:Nat}{m:List (Nat×Value)}(hr:fn.results= #[])(k:Kn n a m)(h:R (.returned (.tuple #[])) w):bodyPost P fn R .ret a w∧bodyPost P fn R .normal a w:=
 ⟨⟨k.2.1,_,results_none hr _ _ _,h⟩,⟨k.2.1,_,results_none hr _ _ _,h⟩⟩
theorem uX{P:Program}{fn:Func}{R:Ending→World→Prop}{a:Act}{w:World}{n t:Nat}{m:List (Nat×Value)}{v:Value}(hr:fn.results= #[.tmp t])(k:Kn n a m)(ht:lk m t=some v)(h:R (.returned v) w):bodyPost P fn R .ret a w∧bodyPost P fn R .normal a w:=by
 have h1:=k.2.2 t v ht
 have h2:a.tmps.getD t undef=v:=by simp[h1]
 exact⟨⟨k.2.1,_,results_tmp hr _ _ _,by rw[h2];exact h⟩,⟨k.2.1,_,results_tmp hr _ _ _,by rw[h2];exact h⟩⟩
theorem kj{P:Program}{fn:Func}{R:Ending→World→Prop}:QP (bodyPost P fn R):=fun c a d v w h=>(by cases d<;>exact h)
def Kd:List Value→Nat→List (Nat×Value)
 | [],_=> []
 |v::r,i=>(i,v)::Kd r (i+1)
theorem GY: ∀(l:List Value) (i t:Nat) (v:Value),lk (Kd l i) t=some v→i≤t∧l[t-i]? =some v
 | [],_,_,_,h=>by cases h
 |x::r,i,t,v,h=>by
  simp only[Kd,lk]at h
  split at h
  ·rename_i he
   have Jt:t=i:=by simpa using he
   subst Jt
   injection h with h;subst h
   exact⟨bn _,by simp⟩
  ·obtain⟨h1,h2⟩:=GY r (i+1) t v h
   refine⟨by omega,?_⟩
   rw[show t-i=(t-(i+1))+1 by omega]
   simpa using h2
theorem VX{n:Nat}{vs:List Value}(h:vs.length≤n):Kn n {tmps:=vs.toArray++Array.replicate (n-vs.toArray.size) undef,defers:=[]} (Kd vs 0):=by
 refine⟨by simp;omega,rfl,fun t v ht=> ?_⟩
 obtain⟨_,h2⟩:=GY vs 0 t v ht
 rw[Nat.sub_zero]at h2
 have hl:=(aH.1 h2).1
 rw[Array.getElem?_append_left (by simpa using hl)]
 simpa using h2
theorem lU{P:Program}{f:FuncId}{fn:Func}{n:Nat}{c:Code}{vs:List Value}{w:World}{R:Ending→World→Prop}(hf:P.funcs[f]? =some fn)(hb:fn.body=some (jz fn))(hc:jz fn=c)(hn:fn.ntmps=n)(hl:vs.length≤n)
  (h: ∀a,Kn n a (Kd vs 0)→c.wp P (bodyPost P fn R) a w):Calls P f vs.toArray w R:=by
 refine calls_of_wp hf hb ?_
 rw[hc,hn]
 exact h _ (VX hl)
theorem bz{P:Program}{Q:Exit→Act→World→Prop}{n:Nat}{a:Act}{w:World}{m:List (Nat×Value)}{c:Operand}{x y:Code}{b:Bool}(k:Kn n a m)(hc:oh m c=some (.bool b))(h:(if b then x else y).wp P Q a w):(Code.cond c x y).wp P Q a w:=wp_cond (k.op hc) h
section
variable{L L' X X':Nat→Prop}{w w' BE:World}{S S' Sr:bU}{ow bX CY:Ow}
theorem br.tr(hw:Wf w S ow)(lu:Wf w' S' bX)(h:br L X w S ow w' S' bX)(k:br L' X' w' S' bX BE Sr CY)(hX: ∀b,X' b→X b∨w.heap.size≤b):br (fun l=>L l∨L' l) X w S ow BE Sr CY:=by
 refine br.trans hw lu h k hX ?_
 intro b l hb ho hl
 cases h0:ow b with
 |none=>rw[h.rQ b hb h0]at ho;cases ho
 |some l0=>
  refine⟨l0,rfl,?_⟩
  by_cases hL:L l0
  ·exact .inl hL
  ·rw[h.keep b l0 h0 hL]at ho
   injection ho with ho
   subst ho;exact hl
theorem br.RB{l:Nat}(hw:Wf w S ow)(lu:Wf w' S' bX)(h:br (kG l) X w S ow w' S' bX)(k:br (kG l) X' w' S' bX BE Sr CY)(hX: ∀b,X' b→X b∨w.heap.size≤b):br (kG l) X w S ow BE Sr CY:=
 (h.tr hw lu k hX).mono (fun _ h=>h.elim id id) (fun _ h=>h)
theorem br.trN{l:Nat}(hw:Wf w S ow)(lu:Wf w' S' bX)(h:br ax X w S ow w' S' bX)(k:br (kG l) X' w' S' bX BE Sr CY)(hX: ∀b,X' b→X b∨w.heap.size≤b):br (kG l) X w S ow BE Sr CY:=
 (h.tr hw lu k hX).mono (fun _ h=>h.elim (fun h=>h.elim) id) (fun _ h=>h)
theorem br.sx{l:Nat}(h:br (kG l) ax w S ow w' S' bX):SX (fun b=>ow b=some l) w w':=by
 refine⟨h.size,fun b hb hx=> ?_⟩
 cases ho:ow b with
 |none=>exact h.free b hb ho (fun h=>h)
 |some l'=>exact h.CJ b l' hb ho (fun e=>hx (ho.trans (congrArg some e)))
theorem br.I8(h:br ax ax w S ow w' S' bX)(X:Nat→Prop):SX X w w':=by
 refine⟨h.size,fun b hb _=> ?_⟩
 cases ho:ow b with
 |none=>exact h.free b hb ho (fun h=>h)
 |some l'=>exact h.CJ b l' hb ho (fun h=>h)
theorem SX.alloc(X:Nat→Prop)(w:World)(o:Obj):SX X w (w.alloc o):=⟨by simp,fun b hb _=>Below.heap_alloc w o b hb⟩
theorem SX.trans{X:Nat→Prop}(h:SX X w w')(k:SX X w' BE):SX X w BE:=⟨aR h.1 k.1,fun b hb hx=>(k.2 b (ar hb h.1) hx).trans (h.2 b hb hx)⟩
theorem SX.jD{X:Nat→Prop}{l:Nat}(hX: ∀b,ow b=some l→X b)(h:br (kG l) ax w S ow w' S' bX):SX X w w':=⟨h.size,fun b hb hx=>h.sx.2 b hb (fun e=>hx (hX b e))⟩
theorem dW.Qm{P:Program}{l:Nat}{tt T:TypeId}{t:Ty}{v:Value}{xs:List D}{d:D}(h:dW w S ow l T t v xs)(cI:OT P tt T t=true)(mf:t.cells.all Ty.scalar=true)(hw:Wf w S ow)(ty:TypeId)(B:Nat)(hd:Has t d){us:List Value}(zP:us.length=t.cells.length)
  (hB:w.heap[B]? =some (.cells us.toArray T (0,0))) (hr: ∀(j:Nat) u c,us[j]? =some u→d.cells[j]? =some c→cH w S u c) (hlen:oG t (xs.length+1)):
  ∃v' w',(Builtin.append_ #[tt,tt] ty #[v,.slice (some ⟨B,0,none⟩) 1 1]).run P w= .ok v' w'∧ ∃bX,br (kG l) ax w S ow w' S bX∧Wf w' S bX∧dW w' S bX l T t v' (xs++[d]):=by
 refine h.pv (ys:=[d]) cI mf hw ty (some ⟨B,0,none⟩) 1 us (by intro h;cases h) (by rw[zP];simp) ?_ (by simpa using hd) ?_ hlen
 ·intro ad E4 j u hu
  injection E4 with E4;subst E4
  rw[gF,ay]
  exact k9 hB hu
 ·intro i dd j u c h1 h2 h3
  match i,h1 with
  |0,h1=>
   simp at h1;subst h1
   rw[Nat.zero_mul,ay]at h3
   exact hr j u c h3 h2
end
section
variable{w w':World}{S:bU}{ow:Ow}{P:Program}{ops:Array Oper}{Q:Exit→Act→World→Prop}{SS:World→Prop}{n n0 i d:Nat}{a:Act}{m:List (Nat×Value)}{gd:Option (Nat×Bool)}{LL r:List OK}{x y z:Operand}{t:TypeId}{v:Value}
theorem Mm{el:TypeId}{b nn cap sz s:Nat}{kk:IntKind}(k:Kn n a m)(hS:SS w)(hg:tW LL m gd=some true)(hd:d<n)(hx:oh m x=some (.slice (some ⟨b,0,none⟩) nn cap))(hy:oh m y=some (.int kk (s:Int)))(hu:P.underlying t=some (.slice el))(iY:jF P el=some sz)(h1:s<nn)
  (h: ∀a',Kn n a' ((d,.pointer (some ⟨b,s*sz,none⟩))::m)→TL P ops Q SS n0 LL r (i+1) a' w):TL P ops Q SS n0 LL ((some d,.indexAddr t x y,gd)::r) i a w:=by
 refine qE (off:=0) k hS hg hd hx hy hu iY (by omega) (by omega) ?_
 rw[ay,cE]
 exact h
theorem gf{X:Nat→Prop}{b o:Nat}{v:Value}(hb:b<w.heap.size)(hX: ¬X b)(h:w.cell? ⟨b,o,none⟩=some v): ∀w',SX X w w'→w'.cell? ⟨b,o,none⟩=some v:=fun w' hw=>(bg (hw.2 b hb hX)).trans h
theorem iH.cell{b j:Nat}{T:TypeId}{vs:List Value}{v:Value}(h:iH w S ow b T vs){X:Nat→Prop}(hX: ¬X b)(hj:vs[j]? =some v): ∀w',SX X w w'→w'.cell? ⟨b,j,none⟩=some v:=gf h.lt hX (k9 h.heap hj)
end
theorem dW.zm{w:World}{S:bU}{ow:Ow}{jD i T:Nat}{v:Value}{l:List D}{n:Int}(h:dW w S ow jD T (.int .i64) v l)(hi:l[i]? =some (.int .i64 n)):
  ∃b cap,v= .slice (some ⟨b,0,none⟩) l.length cap∧b<w.heap.size∧ow b=some jD∧w.cell? ⟨b,i*1,none⟩=some (.int .i64 n):=by
 obtain⟨b,cap,us,h1,h2,h3,h4,h5,h6⟩:=h.elem hi
 have h4':us.length=1:=h4
 match us,h4' with
 | [u],_=>
  have hu:=(h6 0 u (.int .i64 n) rfl rfl).cX
  subst hu
  exact⟨b,cap,h1,h2,h3,h5 0 _ rfl⟩
theorem iH.bu{w w1:World}{S:bU}{ow:Ow}{b:Nat}{T:TypeId}{vs:List Value}(h:iH w S ow b T vs)(e:Cn w w1):iH w1 S ow b T vs:=h.bw (br.bu e ax ax S ow) (fun h=>h)
theorem ahc{p q:Int}(h:p<q):Hz .lss p q=some true:=congrArg some (decide_eq_true h)
theorem ahe{p q:Int}(h: ¬p<q):Hz .lss p q=some false:=congrArg some (decide_eq_false h)
theorem ahd{p q:Int}(h:p>q):Hz .gtr p q=some true:=congrArg some (decide_eq_true h)
theorem VP{p q:Int}(h: ¬p>q):Hz .gtr p q=some false:=congrArg some (decide_eq_false h)
theorem br.gX{L:Nat→Prop}{w0 w w1:World}{S0 S S1:bU}{og ow fE:Ow}{l:Nat}(gO:Wf w0 S0 og)(hw:Wf w S ow)(h:br L ax w0 S0 og w S ow)(k:br (kG l) ax w S ow w1 S1 fE)(hl:L l):br L ax w0 S0 og w1 S1 fE:=
 (h.tr gO hw k (fun _ h=>h.elim)).mono (fun _ h=>h.elim id (fun e=>by rw[show _=l from e];exact hl)) (fun _ h=>h)
theorem br.ba{L X:Nat→Prop}{w0 w w1:World}{S0 S S1:bU}{og ow fE:Ow}(gO:Wf w0 S0 og)(hw:Wf w S ow)(h:br L ax w0 S0 og w S ow)(k:br ax X w S ow w1 S1 fE)(hX: ∀b,X b→w0.heap.size≤b):br L ax w0 S0 og w1 S1 fE:=
 (h.tr gO hw k (fun b h=>.inr (hX b h))).mono (fun _ h=>h.elim id (fun e=>e.elim)) (fun _ h=>h)
section
variable{P:Program}{ops:Array Oper}{Q:Exit→Act→World→Prop}{SS:World→Prop}{n n0 i d:Nat}{a:Act}{w:World}{m:List (Nat×Value)}{gd:Option (Nat×Bool)}{LL r:List OK}{x y z:Operand}{t t2:TypeId}{v:Value}
def ptB(P:Program)(t:TypeId):Bool:=match P.underlying t with
 |some (.pointer _)=>true
 |_=>false
theorem afB{p:Option Addr}(hu:ptB P t=true)(k:Kn n a m)(hS:SS w)(hg:tW LL m gd=some true)(hd:d<n)(hx:oh m x=some (.pointer p))(hy:oh m y=some (.pointer none))
  (h: ∀a',Kn n a' ((d,.bool p.isSome)::m)→TL P ops Q SS n0 LL r (i+1) a' w):TL P ops Q SS n0 LL ((some d,.binOp .neq t x y t2,gd)::r) i a w:=by
 refine tX k hS hg hd (fun ty pos af w' _=> ?_) h
 have h1:=k.op hx
 have h2:=k.op hy
 unfold execOp
 unfold ptB at hu
 split at hu
 ·rename_i el he
  have h3:=ru (w:=w') he p x y
  have h4:(do eqGuard .neq t x y (.pointer p) (.pointer none);binOp .neq t (.pointer p) (.pointer none):Sem Value).run P w'= .ok (.bool p.isSome) w':=by rw[h3];cases p<;>rfl
  simp only[h1,h2]
  rw[bA,h4];rfl
 ·cases hu
theorem cH.OR{w:World}{S:bU}{v:Value}{l:List D}{t:Ty}{j:Nat}{d:D}(h:cH w S v (.list l))(hj:l[j]? =some d)(hd:Has t d)(iY:0<t.cells.length):
  ∃(b off cap:Nat) (us:List Value),v= .slice (some ⟨b,off,none⟩) l.length cap∧S b (off+j*t.cells.length)∧us.length=t.cells.length∧(∀(q:Nat) u,us[q]? =some u→w.cell? ⟨b,off+j*t.cells.length+q,none⟩=some u)∧ ∀(q:Nat) u c,us[q]? =some u→d.cells[q]? =some c→cH w S u c:=by
 obtain⟨b,off,cap,u,hv,hu⟩:=h.KE hj
 have hl:=(cN hd).1
 refine⟨b,off,cap,(List.range t.cells.length).map u,hv,?_,by simp,?_,?_⟩
 ·obtain⟨h1,_⟩:=hu 0 _ (aW (by omega))
  rw[hl]at h1
  exact h1
 ·intro q y hq
  rw[ah,da]at hq
  obtain⟨q',Hd,rfl⟩:=hq
  have FU:q<t.cells.length:=by have:=(aH.1 Hd).1;simpa using this
  have:q'=q:=by
   rw[dN FU]at Hd
   injection Hd with Hd;exact Hd.symm
  subst this
  obtain⟨_,h2,_⟩:=hu q' _ (aW (by omega))
  rw[hl]at h2
  exact h2
 ·intro q y c hq hc
  rw[ah,da]at hq
  obtain⟨q',Hd,rfl⟩:=hq
  have FU:q<t.cells.length:=by have:=(aH.1 Hd).1;simpa using this
  have:q'=q:=by
   rw[dN FU]at Hd
   injection Hd with Hd;exact Hd.symm
  subst this
  exact(hu q' c hc).2.2
theorem Wf.nx{w:World}{S:bU}{ow:Ow}(h:Wf w S ow){b o l:Nat}(hs:S b o)(hl:l<1000): ¬ow b=some l:=fun e=>by have:=h.d b o l hs e;omega
end
end Go.dV
