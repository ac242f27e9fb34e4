/- Part 6 of the proof of RaftOne; no condition. -/
import Derived.Test.YtjhmkaninmgilaaS05
set_option linter.unusedVariables false
set_option linter.unusedSimpArgs false
set_option maxHeartbeats 4000000
namespace Go.Proofs.Ytjhmkaninmgilaa
open Go Go.RowKit Go.dV Go.Proofs
theorem VO:kr Try.prog pre cF aaz:=aL c12<|aL c38<|aL c68<|aL c69<|aL c76<|aL c32<|aL c29<|aL c49<|aL c65<|aL c74<|aL c50<|aL c25<|aL c28<|aL c26<|aL c24<|aL acS<|aL acR<|aL c60<|aL c52<|aL c20<|aL c70<|aL c72<|aL c66<|aL c63<|aL c36<|aL c21<|aL c55<|aL c61<|aL c56<|aL c79<|yU
theorem c57:bh Try.prog 57 s57 (pre 57) (cF 57):=by
 refine zF VO Try.func57 (v:=ajs) ?_
 intro ds h hp
 obtain⟨a,_,rfl,⟨a,rfl,ha⟩,b,_,rfl,⟨b,rfl,hb⟩,c,_,rfl,⟨c,rfl,hc⟩,rfl⟩:=h
 simp[ajs,fG,eE,eC,cM,eD,dE,fF,fI,fH,den,B.den,cF,ue,bZ,cU]
theorem acj:kr Try.prog pre cF aj8:=aL c57 VO
theorem c58:bh Try.prog 58 dw (pre 58) (cF 58):=by
 refine zF acj Try.func58 (v:=ajr) ?_
 intro ds h hp
 obtain⟨_,_,rfl,⟨i,rfl,hi⟩,_,_,rfl,⟨t,rfl,ht⟩,_,_,rfl,⟨l,rfl,hlen,hL⟩,rfl⟩:=h
 have qq:=hlen.1
 simp only[maxLen]at qq
 have hR:cF 58 [.int .i64 i,.int .i64 t,.list l] = .bool (fN i t l):=rfl
 have hw: ∀n lo hi:Int,cF 57 [.int .i64 n,.int .i64 lo,.int .i64 hi] = .bool (ue n lo hi):=fun _ _ _=>rfl
 simp[ajr,fG,eE,eC,cM,eD,dE,fF,fI,fH,gJ,den,U.den,B.den,fU,aU,db,eH,eF,eG,fV,bZ,cU,pre,cD,fl,vr,cr,rp,E.dJ,List.range',hR,hw,ue]
 refine⟨fun h=> ?_,fun h1 h2 h3 h4=> ?_⟩
 ·have:okB i t=false:=by rw[dF];intro hk;obtain⟨k1,k2,k3,k4⟩:=ma.1 hk;simp only[MX]at k2 k4;omega
  simp[fN,this]
 refine m7.intro (MJ i t l) (FM l 3) ⟨0,i,t,rfl,bf _,ma.2 ⟨h1,h2,h3,h4⟩,rfl⟩ ?_
 intro xs tF hJ
 obtain⟨n,j,u,rfl,hle,cI,hf⟩:=hJ
 obtain⟨k1,k2,k3,k4⟩:=ma.1 cI
 simp only[MX]at k2 k4
 rcases hx:l[n]? with _|x
 ·have ou:l.length≤n:=by rwa [eO]at hx
  rw[ck ou]at hf
  have bP: ¬((n:Int)<l.length):=by omega
  have hm:fN i t l=true:=by simp[fN,ma.2 ⟨h1,h2,h3,h4⟩,←hf,yi]
  simp[bZ,bP,hm]
 ·obtain⟨bP,ou⟩:=aH.1 hx
  obtain⟨e0,e1,r0,r1⟩:=H6 (hL x (ca hx))
  rw[xd]at r0 r1
  rw[cY bP,ou]at hf
  have lP:(n:Int)<l.length:=by omega
  simp[bZ,cU,hx,e0,e1,lP,hw,ue]
  by_cases hk:ix x=j+1∧u≤tm x∧ix x≤MX∧tm x≤MX
  ·obtain⟨g1,g2,g3,g4⟩:=hk
   simp only[MX]at g3 g4
   rw[wrap64 (n:=ix x-1) (by omega) (by omega),wrap64 (n:=(n:Int)+1) (by omega) (by omega)]
   refine⟨⟨fun hq=>by omega,fun _ _ _ _ _ _=>⟨⟨n+1,ix x,tm x,rfl,bP,ma.2 ⟨by omega,by simp only[MX];omega,by omega,by simp only[MX];omega⟩,?_⟩,?_⟩⟩,fun hq=>by omega⟩
   ·rw[←hf];simp[yi,g1,g2,MX,show j+1≤1099511627776 by omega,show tm x≤1099511627776 by omega]
   ·show l.length-((n:Int)+1).toNat<l.length-(n:Int).toNat
    omega
  ·have hm:fN i t l=false:=by
    simp only[fN,←hf,Bool.and_eq_false_iff]
    right
    rw[dF]
    intro hc
    obtain⟨a1,a2,a3,a4,_⟩:=kF.1 hc
    exact hk ⟨a1,a2,a3,a4⟩
   simp only[MX]at hk
   refine⟨⟨fun _=>hm,fun w1 w2 w3 w4 w5 w6=> ?_⟩,fun hq=>by omega⟩
   exact absurd ⟨by
    by_cases afd:ix x= -9223372036854775808
    ·rw[afd]at w3;omega
    ·rw[wrap64 (n:=ix x-1) (by omega) (by omega)]at w1;omega,w2,w4,w6⟩ hk
theorem aci:kr Try.prog pre cF aj7:=aL c58 acj
theorem c23:bh Try.prog 23 s23 (pre 23) (cF 23):=by
 refine zO aci Try.func23 (v:=ajO) ?_
 intro ds h hp
 obtain⟨_,_,rfl,⟨pi,rfl,hpi⟩,_,_,rfl,⟨pt,rfl,hpt⟩,_,_,rfl,⟨es,rfl,ayD,heL⟩,_,_,rfl,⟨i,rfl,hi⟩,_,_,rfl,⟨t,rfl,ht⟩,_,_,rfl,⟨l,rfl,hlen,hL⟩,rfl⟩:=h
 obtain⟨hp,XB,hse⟩:=hp
 replace hp:fN i t l=true:=hp
 replace XB:l.length<4294967296:=XB
 replace hse:es.length<4294967296:=hse
 obtain⟨⟨k1,k2,k3,k4⟩,hc⟩:=iX.1 hp
 have Sg:=As k2 hc
 simp only[MX]at Sg k2 k4
 have hm:cF 58 [.int .i64 pi,.int .i64 pt,.list es] = .bool (fN pi pt es):=rfl
 have hT: ∀k:Int,cF 50 [.ptr [.int .i64 i,.int .i64 t,.list l],.int .i64 k] = .fx [.int .i64 (jE i t l k).1,.int .i64 (jE i t l k).2] :=fun _=>rfl
 have hR:cF 23 [.int .i64 pi,.int .i64 pt,.list es,.int .i64 i,.int .i64 t,.list l] = .fx [.fx [.int .i64 (lH i t l pi pt es).1,.bool (nI i t l pi pt es)],yk i t (lH i t l pi pt es).2] :=rfl
 simp[ajO,fG,eE,eC,cM,eD,dE,fF,fI,fH,gJ,den,U.den,B.den,fU,aU,db,eH,eF,eG,fV,bZ,cU,pre,cD,fl,vr,cr,rp,E.dJ,List.range',hm,hT,hR,yk,hp]
 refine⟨fun h=> ?_,fun h=>⟨fun h2=> ?_,fun h2 h3=> ?_⟩⟩
 ·have:nI i t l pi pt es=false:=by simp[nI,h]
  simp[lH,this]
 ·have:nI i t l pi pt es=false:=by
   rw[dF];intro hk
   simp only[nI,bc,beq_iff_eq]at hk
   rcases h2 with h2|h2
   ·exact h2 hk.1.2
   ·exact h2 hk.2
  simp[lH,this]
 ·have hA:nI i t l pi pt es=true:=by simp[nI,h,h2,h3]
  obtain⟨q1,q2,q3⟩:=uS h2
  obtain⟨_,RP⟩:=iX.1 h
  refine m7.intro (AJ i t l es) (FM es 2) ⟨0,(pi-i).toNat,rfl,bf _,by omega,?_,rfl⟩ ?_
  ·rw[←q3,h3,show i+(((pi-i).toNat:Nat):Int)=pi by omega];exact RP
  intro xs tF hJ
  obtain⟨n,s,rfl,hle,hs,XP,Hx⟩:=hJ
  rcases hx:es[n]? with _|x
  ·have ou:es.length≤n:=by rwa [eO]at hx
   rw[ck ou]at Hx
   have bP: ¬((n:Int)<es.length):=by omega
   simp[bZ,db,bP,lH,hA,←Hx,yA]
  ·obtain⟨bP,ou⟩:=aH.1 hx
   obtain⟨e0,e1,_,_⟩:=H6 (heL x (ca hx))
   rw[cY bP,ou]at Hx XP
   have lP:(n:Int)<es.length:=by omega
   obtain⟨c1,c2,c3,c4,_⟩:=kF.1 XP
   simp only[MX]at c3 c4
   simp[bZ,db,eF,eH,cU,hx,e0,e1,lP,eG,cD,fl,vr,List.range',hT,yk,hp]
   refine⟨⟨fun g1 g2=> ?_,fun tV=> ?_⟩,fun hq=>by omega⟩
   ·have hh:B1 i t l x=true:=by simp[B1,g1,g2]
    obtain⟨z1,z2⟩:=WN hs XP hh
    rw[wrap64 (n:=(n:Int)+1) (by omega) (by omega)]
    refine⟨⟨n+1,s+1,rfl,bP,z1,z2,?_⟩,?_⟩
    ·rw[←Hx]
     conv=>rhs;unfold yA;rw[if_pos hh]
    ·show es.length-((n:Int)+1).toNat<es.length-(n:Int).toNat
     omega
   ·have hh:B1 i t l x=false:=by
     rw[dF];intro hk
     simp only[B1,bc,beq_iff_eq]at hk
     exact tV hk.1 hk.2
    rw[wrap64 (n:=ix x-i) (by omega) (by omega),wrap64 (n:=ix x-i-1) (by omega) (by omega)]
    have eA:lH i t l pi pt es=(ix x,l.take (ix x-i-1).toNat++x::es.drop (n+1)):=by
     unfold lH;rw[if_pos hA,←Hx];unfold yA;rw[if_neg (by simp[hh])]
    have ed:es.drop n=x::es.drop (n+1):=by rw[cY bP,ou]
    rw[eA,ed]
    have Xf:min (ix x-i-1).toNat l.length+(es.length-n)≤8589934592:=by omega
    refine⟨by omega,hle,⟨aR Xf (by decide),aR (az 320 Xf) (by decide)⟩,by omega,⟨rfl,hA⟩,rfl⟩
theorem acN:kr Try.prog pre cF akq:=aL c23 aci
theorem c71:bh Try.prog 71 s71 (pre 71) (cF 71):=by
 refine zO acN Try.func71 (v:=ajl) ?_
 intro ds h hp
 obtain⟨_,_,rfl,⟨m,rfl,hm⟩,cm,_,rfl,Jg,_,_,rfl,⟨i,rfl,hi⟩,_,_,rfl,⟨t,rfl,ht⟩,_,_,rfl,⟨l,rfl,hlen,hL⟩,rfl⟩:=h
 obtain⟨hp,XB⟩:=hp
 replace hp:fN i t l=true:=hp
 replace XB:l.length<4294967296:=XB
 obtain⟨⟨k1,k2,k3,k4⟩,hc⟩:=iX.1 hp
 have Sg:=As k2 hc
 have he:=ZK Jg
 simp only[MX]at Sg k2 k4
 have hl:cF 25 [.ptr [.int .i64 i,.int .i64 t,.list l]] = .fx [.int .i64 (i+l.length),.int .i64 (fA t l)] :=rfl
 have hw: ∀n lo hi:Int,cF 57 [.int .i64 n,.int .i64 lo,.int .i64 hi] = .bool (ue n lo hi):=fun _ _ _=>rfl
 have hR:cF 71 [.int .i64 m,cm,.int .i64 i,.int .i64 t,.list l] = .fx [.fx [Fk i t l m cm,.int .i64 (tY i t l m)],yk i t (wT i t l m cm)] :=rfl
 simp[ajl,fG,eE,eC,cM,eD,dE,fF,fI,fH,gJ,den,U.den,B.den,fU,aU,db,eH,eF,eG,fV,bZ,cU,pre,cD,fl,vr,cr,rp,E.dJ,List.range',hl,hR,yk,hp,hw,ue,he]
 have yo:(l.length+1:Nat)≤maxLen:=by simp only[maxLen];omega
 refine⟨fun h=> ?_,fun h1 h2 h3=>⟨fun h4=> ?_,fun h4=> ?_⟩⟩
 ·have hC:tY i t l m=1:=by unfold tY;rw[if_pos (by simp only[MX];omega)]
  simp[Fk,wT,hC,kS]
 ·have hC:tY i t l m=2:=by unfold tY;rw[if_neg (by simp only[MX];omega),if_pos (by simp only[MX];omega)]
  simp[Fk,wT,hC,kS]
 ·have hC:tY i t l m=0:=by unfold tY;rw[if_neg (by simp only[MX];omega),if_neg (by simp only[MX];omega)]
  rw[wrap64 (n:=i+l.length+1) (by omega) (by omega)]
  refine⟨⟨yo,by omega⟩,?_⟩
  simp[Fk,wT,hC,Yc]
  exact he
theorem ab6:kr Try.prog pre cF aj0:=aL c71 acN
theorem c51:bh Try.prog 51 s51 (pre 51) (cF 51):=by
 refine zO ab6 Try.func51 (v:=ajw) ?_
 intro ds h hp
 obtain⟨_,_,rfl,⟨k,rfl,hk⟩,_,_,rfl,⟨i,rfl,hi⟩,_,_,rfl,⟨t,rfl,ht⟩,_,_,rfl,⟨l,rfl,hlen,hL⟩,rfl⟩:=h
 replace hp:fN i t l=true:=hp
 rw[xd]at hk
 obtain⟨⟨k1,k2,k3,k4⟩,hc⟩:=iX.1 hp
 have Sg:=As k2 hc
 have qq:=hlen.1
 have hb:=hlen.2
 rw[qj]at hb
 simp only[MX]at Sg k2 k4
 have hl:cF 25 [.ptr [.int .i64 i,.int .i64 t,.list l]] = .fx [.int .i64 (i+l.length),.int .i64 (fA t l)] :=rfl
 have hT: ∀k:Int,cF 50 [.ptr [.int .i64 i,.int .i64 t,.list l],.int .i64 k] = .fx [.int .i64 (jE i t l k).1,.int .i64 (jE i t l k).2] :=fun _=>rfl
 have hR:cF 51 [.int .i64 k,.int .i64 i,.int .i64 t,.list l] = .fx [.int .i64 (Gb i l k),yk (mz i t l k).1 (mz i t l k).2.1 (mz i t l k).2.2] :=rfl
 simp[ajw,fG,eE,eC,cM,eD,dE,fF,fI,fH,gJ,den,U.den,B.den,fU,aU,db,eH,eF,eG,fV,bZ,cU,pre,cD,fl,vr,cr,rp,E.dJ,List.range',hl,hT,hR,yk,hp]
 refine⟨fun h=>by simp[Gb,mz,h],fun h=>⟨fun h2=>by simp[Gb,mz,show¬(i+l.length<k) by omega,h2],fun h2=> ?_⟩⟩
 rw[wrap64 (n:=k-i) (by omega) (by omega)]
 have e:mz i t l k=(k,(jE i t l k).1,l.drop (k-i).toNat):=by unfold mz;rw[if_neg (by omega)]
 refine⟨by omega,⟨aR qq (cP _ _),aR (az 320 (by omega)) hb⟩,by unfold Gb;rw[if_neg (by omega)],by rw[e],by rw[e],by rw[e]⟩
theorem OS:kr Try.prog pre cF akd:=aL c51 ab6
theorem cnw:bh Try.prog 22 snw (fun ds=>pre 22 ds∧((cF 22 ds).aV.getD 0 .top).ic=false) (cF 22):=by
 refine zO OS Try.func22 (v:=ajc) ?_
 intro ds h hp
 obtain⟨_,_,rfl,⟨i,rfl,hi⟩,_,_,rfl,⟨t,rfl,ht⟩,rfl⟩:=h
 have PK:=hp.2
 have hw: ∀n:Int,cF 57 [.int .i64 n,.int .i64 0,.int .i64 1099511627776] = .bool (ue n 0 1099511627776):=fun _=>rfl
 change D.ic (cD 0 (nu i t))=false at PK
 have h0:okB i t=true∧(i=0↔t=0):=by
  refine Decidable.byContradiction fun hc=> ?_
  rw[nu,if_neg hc]at PK
  exact absurd (show true=false from PK) (by decide)
 have hR:cF 22 [.int .i64 i,.int .i64 t] = .fx [.fx [],yk i t []] :=by show nu i t=_;rw[nu,if_pos h0]
 obtain⟨hp1,hq⟩:=h0
 obtain⟨h1,h2,h3,h4⟩:=ma.1 hp1
 simp only[MX]at h2 h4
 have e:(i==0)=(t==0):=by rw[dB];simpa using hq
 simp[ajc,fG,eE,eC,cM,eD,dE,fF,fI,fH,Ke,gJ,den,U.den,B.den,fU,aU,db,eH,eF,eG,fV,bZ,cU,pre,hw,ue,hR,yk,e]
 omega
theorem cnl:bh Try.prog 22 snl (fun ds=>pre 22 ds∧((cF 22 ds).aV.getD 0 .top).ic=true) (fun _=>.gW):=by
 refine zF OS Try.func22 (v:=ajd) ?_
 intro ds h hp
 obtain⟨_,_,rfl,⟨i,rfl,hi⟩,_,_,rfl,⟨t,rfl,ht⟩,rfl⟩:=h
 have PK:=hp.2
 have hw: ∀n:Int,cF 57 [.int .i64 n,.int .i64 0,.int .i64 1099511627776] = .bool (ue n 0 1099511627776):=fun _=>rfl
 change D.ic (cD 0 (nu i t))=true at PK
 have h0: ¬(okB i t=true∧(i=0↔t=0)):=by
  intro hc
  rw[nu,if_pos hc]at PK
  exact absurd (show false=true from PK) (by decide)
 simp[ajd,fG,eE,eC,cM,eD,dE,fF,fI,fH,Ke,gJ,den,U.den,B.den,fU,aU,db,eH,eF,eG,fV,bZ,cU,pre,hw,ue]
 intro h1 h2 h3 h4 h5
 refine h0 ⟨ma.2 (by simp only[MX];omega),?_⟩
 rw[dB]at h5
 simpa using h5
end Go.Proofs.Ytjhmkaninmgilaa
