/- Part 9 of the proof of RaftStale; no condition. -/
import Derived.Test.YtjhmkaninmgilaaS08
import Derived.Test.YtjhmkaninmgilaaS07
import Derived.KernelRfl
set_option linter.unusedVariables false
set_option linter.unusedSimpArgs false
set_option maxHeartbeats 4000000
namespace Go.Proofs.Ytjhmkaninmgilaa
open Go Go.RowKit Go.bZ Go.Proofs
def agS(x:D)(s:RS):Prop:=
 ((true=true→de s.li s.lt s.le=true))∧(
 let kT:=(dm s.li s.lt s.le)
 ((((cD 0 x).ab==1)=true→
  ((true=true→Ok s 1))∧(
  let mh:=aX (ah 46 cA [(0,D.int .i64 2),(2,(cD 1 x)),(7,D.bool true)]) s
  True)))∧((((cD 0 x).ab==1)=false→
  ((((cD 0 x).ab==3)=true→
   ((true=true→Ok s 1))∧(
   let lA:=aX (ah 46 cA [(0,D.int .i64 4),(2,(cD 1 x)),(4,D.int .i64 kT.1),(7,D.bool true)]) s
   True)))∧((((cD 0 x).ab==3)=false→
   ((((cD 0 x).ab==5)=true→
    ((true=true→Ok s 1))∧(
    let V4:=aX (ah 46 cA [(0,D.int .i64 6),(2,(cD 1 x)),(4,(cD 4 x)),(7,D.bool true),(10,D.int .i64 1)]) s
    True)))∧(True))))))
theorem Vc(x:D)(s:RS)(hs:bV (.bQ cY) (encS s))(h:Ok s 1):agS x s:=by
 (repeat' (first|exact trivial|apply And.intro|intro _))
 all_goals first|exact h.may|exact h
theorem c42:ax Try.prog 42 s42 (pre 42) (aK 42):=by
 refine bz (given:=[]) mix Yv Try.func42 rfl (by kernel_rfl) (v:=aff) (by kernel_rfl) ?_
 intro ds h hp
 obtain⟨x,_,rfl,hx,h1⟩:=aa.1 h
 have hs:=h1
 obtain⟨s,rfl⟩:=dV h1
 refine VC.bH (Φ:=aK) (Pre:=pre) (dec:=na) (enc:=dF) (bad:=aW) (lp:=fun _ _ _=>aW) (y:=gR x s) bC (by kernel_rfl) (Eq.mpr (α:=VC.fH aK pre triv (VC.o9 aK pre dF (fun _ _ _=>aW) []) _ _) (β:=agS x s) (by kernel_rfl) (Vc x s hs hp)) (by kernel_rfl) (by kernel_rfl)
theorem Yr:gM Try.prog pre aK ZP:=aj c42 Yv
def agR(x:D)(s:RS):Prop:=
 (((((((s.vote==0)||(s.vote==(cD 1 x).ab))&&(s.role !=2))==true)&&true)=true→de s.li s.lt s.le=true))∧(
 let SG:=(Jy s.li s.lt s.le (cD 4 x).ab (cD 5 x).ab)
 ((((((s.vote==0)||(s.vote==(cD 1 x).ab))&&(s.role !=2))&&SG)=true→
  (((s.vote==0)=true→
   (True)∧(
   let Z0:=dQ ({s with vote:=(cD 1 x).ab}:RS)
   (True)∧(
   let Uc:=lO Z0
   ((true=true→Ok Uc 1))∧(
   let O0:=aX (ah 46 cA [(0,D.int .i64 2),(2,(cD 1 x)),(7,D.bool (!((((s.vote==0)||(s.vote==(cD 1 x).ab))&&(s.role !=2))&&SG)))]) Uc
   True)))))∧(((s.vote==0)=false→
   (True)∧(
   let N4:=lO s
   ((true=true→Ok N4 1))∧(
   let O1:=aX (ah 46 cA [(0,D.int .i64 2),(2,(cD 1 x)),(7,D.bool (!((((s.vote==0)||(s.vote==(cD 1 x).ab))&&(s.role !=2))&&SG)))]) N4
   True))))))∧((((((s.vote==0)||(s.vote==(cD 1 x).ab))&&(s.role !=2))&&SG)=false→
  ((true=true→Ok s 1))∧(
  let s98:=aX (ah 46 cA [(0,D.int .i64 2),(2,(cD 1 x)),(7,D.bool (!((((s.vote==0)||(s.vote==(cD 1 x).ab))&&(s.role !=2))&&SG)))]) s
  True))))
theorem Vb(x:D)(s:RS)(hs:bV (.bQ cY) (encS s))(h:Ok s 1):agR x s:=by
 (repeat' (first|exact trivial|apply And.intro|intro _))
 all_goals first|exact h.may|exact h|exact h.same ⟨rfl,rfl,rfl,rfl,rfl,rfl,rfl,rfl,rfl,rfl,rfl,rfl,rfl,rfl⟩
theorem c43:ax Try.prog 43 s43 (pre 43) (aK 43):=by
 refine bz (given:=[]) mix Yr Try.func43 rfl (by kernel_rfl) (v:=afe) (by kernel_rfl) ?_
 intro ds h hp
 obtain⟨x,_,rfl,hx,h1⟩:=aa.1 h
 have hs:=h1
 obtain⟨s,rfl⟩:=dV h1
 refine VC.bH (Φ:=aK) (Pre:=pre) (dec:=na) (enc:=dF) (bad:=aW) (lp:=fun _ _ _=>aW) (y:=uQ x s) bC (by kernel_rfl) (Eq.mpr (α:=VC.fH aK pre triv (VC.o9 aK pre dF (fun _ _ _=>aW) []) _ _) (β:=agR x s) (by kernel_rfl) (Vb x s hs hp)) (by kernel_rfl) (by kernel_rfl)
theorem Yq:gM Try.prog pre aK ZO:=aj c43 Yr
def agQ(x:D)(s:RS):Prop:=
 (True)∧((((s.role !=1)||(cD 7 x).eh)=false→
  (true=true→((s.aE++([(cD 1 x)] :List D)):List D).length≤maxLen∧((s.aE++([(cD 1 x)] :List D)):List D).length*8≤140737488355328)∧(
  ((true=true→Ok ({s with aE:=(s.aE++([(cD 1 x)] :List D))}:RS) 0))∧(
  let x78:=(cH ({s with aE:=(s.aE++([(cD 1 x)] :List D))}:RS))
  (True)∧(
  let x83:=(jv (ah 2 x78 []) (D.list (s.aE++([(cD 1 x)] :List D))))
  ((x83=true→
   ((true=true→Ok ({s with aE:=(s.aE++([(cD 1 x)] :List D))}:RS) 13))∧(
   let CL:=xU ({s with aE:=(s.aE++([(cD 1 x)] :List D))}:RS)
   True)))∧(True))))))
theorem Va(x:D)(s:RS)(hs:bV (.bQ cY) (encS s))(h:Ok s 15):agQ x s:=by
 have hv:=h.nv
 have ho: ∀k,k+1≤15→Ok ({s with aE:=s.aE++[cD 1 x]}:RS) k:=fun k hk=>
  have h':=h.le hk
  ⟨h'.may,h'.DL,h'.DK,by have:=h'.xM;show s.le.length+k≤_;omega,by have:=h'.nm;show s.msgs.length+k≤_;omega,by have:=h'.ne;show s.dt.length+k≤_;omega,by have:=h'.nc;have:=EJ k;show s.bq.length+G k≤_;omega,by have:=h'.nv;show(s.aE++[cD 1 x]).length+k≤_;rw[List.length_append,List.length_singleton];omega,h'.cf,h'.cs,h'.cl,h'.tm,h'.tx,h'.rd⟩
 refine⟨trivial,fun _=>⟨fun _=> ?_,fun _=>ho 0 (by omega),trivial,fun _=>⟨fun _=>ho 13 (by omega),trivial⟩,trivial⟩⟩
 show(s.aE++[cD 1 x]).length≤maxLen∧(s.aE++[cD 1 x]).length*8≤_
 rw[List.length_append,List.length_singleton]
 simp only[maxLen]
 omega
theorem c44:ax Try.prog 44 s44 (pre 44) (aK 44):=by
 refine bz (given:=[]) mix Yq Try.func44 rfl (by kernel_rfl) (v:=afd) (by kernel_rfl) ?_
 intro ds h hp
 obtain⟨x,_,rfl,hx,h1⟩:=aa.1 h
 have hs:=h1
 obtain⟨s,rfl⟩:=dV h1
 refine VC.bH (Φ:=aK) (Pre:=pre) (dec:=na) (enc:=dF) (bad:=aW) (lp:=fun _ _ _=>aW) (y:=pq x s) bC (by kernel_rfl) (Eq.mpr (α:=VC.fH aK pre triv (VC.o9 aK pre dF (fun _ _ _=>aW) []) _ _) (β:=agQ x s) (by kernel_rfl) (Va x s hs hp)) (by kernel_rfl) (by kernel_rfl)
theorem Yp:gM Try.prog pre aK ZN:=aj c44 Yq
theorem c75:ax Try.prog 75 Tl (pre 75) (aK 75):=by
 refine bz (given:=[]) mix Yp Try.func75 rfl (by kernel_rfl) (v:=aeS) (by kernel_rfl) ?_
 intro ds h hp
 obtain⟨x,_,rfl,hx,h1⟩:=aa.1 h
 have hs:=h1
 obtain⟨s,rfl⟩:=dV h1
 refine VC.bH (Φ:=aK) (Pre:=pre) (dec:=XP) (enc:=GJ) (bad:=(false,aW)) (lp:=fun _ _ _=>(false,aW)) (y:=ik x s) bC (by kernel_rfl) (VC.gu (by kernel_rfl)) (by kernel_rfl) (by kernel_rfl)
theorem XY:gM Try.prog pre aK afy:=aj c75 Yp
theorem arC:ax Try.prog 65 af8 (pre 65) (aK 65):=by
 refine bz (given:=[]) mix XY Try.func65 rfl (by kernel_rfl) (v:=Ww) (by kernel_rfl) ?_
 intro ds h hp
 obtain⟨_,_,rfl,⟨f,rfl,hf⟩,_,_,rfl,⟨m,rfl,hm⟩,_,_,rfl,⟨i,rfl,hi⟩,_,_,rfl,⟨t,rfl,ht⟩,_,_,rfl,⟨l,rfl,hlen,hL⟩,rfl⟩:=h
 have hR:aK 65 [.int .i64 f, .int .i64 m, .int .i64 i, .int .i64 t, .list l] = .cW [.list (fi i l f m),su i t l] :=rfl
 simp[Ww,cO,cg,cb,bh,cd,bG,cN,cQ,cP,dI,den,U.den,B.den,dp,aq,bu,cn,ch,ck,df,aQ,bn,pre,hR,su]
 replace hp:okB i t=true:=hp
 rw[tn]at hf hm
 obtain⟨k1,k2,_,_⟩:=jd.1 hp
 have nL:=hlen.1
 have hb:=hlen.2
 rw[mV]at hb
 simp only[maxLen,MX]at nL k2⊢
 refine⟨?_,fun h1 h2=> ?_⟩
 ·intro h
  unfold fi
  by_cases hc:m<1∨f≤i
  ·rw[if_pos hc]
  ·rw[if_neg hc]
   have h':=h.resolve_left hc
   rw[wrap64 (n:=f-i) (by omega) (by omega),wrap64 (by omega) (by omega)]at h'
   rw[List.drop_of_length_le (by omega)];simp
 ·rw[wrap64 (n:=f-i) (by omega) (by omega),wrap64 (n:=f-i-1) (by omega) (by omega)]
  intro h3
  rw[wrap64 (n:=(l.length:Int)-(f-i-1)) (by omega) (by omega)]
  have es:fi i l f m=(l.drop (f-i-1).toNat).take m.toNat:=by unfold fi;rw[if_neg (by omega)]
  refine⟨fun h4=> ?_,fun h4=> ?_⟩
  ·rw[wrap64 (n:=f-i-1+m) (by omega) (by omega)]
   refine⟨by omega,⟨by omega,Nat.le_trans (Nat.mul_le_mul_right 320 (by omega)) hb⟩,?_⟩
   rw[es,List.drop_take];congr 1;omega
  ·refine⟨by omega,⟨by omega,Nat.le_trans (Nat.mul_le_mul_right 320 (by omega)) hb⟩,?_⟩
   rw[es,List.take_of_length_le (by rw[List.length_drop];omega)]
theorem Ru:gM Try.prog pre aK PC:=aj arC XY
def agP(x:D)(s:RS):Prop:=
 (True)∧(
 let aY:=ik (ah 46 x []) s
 (True)∧(((!aY.1)=false→
  ((decide ((cD 4 x).ab<aY.2.aJ)=true→
   ((true=true→Ok aY.2 1))∧(
   let lA:=aX (ah 46 cA [(0,D.int .i64 4),(2,(cD 1 x)),(4,D.int .i64 aY.2.aJ),(8,(cD 8 x))]) aY.2
   True)))∧((decide ((cD 4 x).ab<aY.2.aJ)=false→
   ((true=true→de aY.2.li aY.2.lt aY.2.le=true∧aY.2.le.length<4294967296∧(cD 12 x).ak.length<4294967296))∧(
   let lA:=LA aY.2.li aY.2.lt aY.2.le (cD 4 x).ab (cD 5 x).ab (cD 12 x).ak
   (((!lA.1.2)=true→
    ((true=true→de lA.2.1 lA.2.2.1 lA.2.2.2=true))∧(
    let x89:=(dm lA.2.1 lA.2.2.1 lA.2.2.2)
    ((true=true→Ok ({aY.2 with li:=lA.2.1,lt:=lA.2.2.1,le:=lA.2.2.2}:RS) 1))∧(
    let O1:=aX (ah 46 cA [(0,D.int .i64 4),(2,(cD 1 x)),(4,D.int .i64 (az x89.1 (IntKind.i64.wrap ((cD 4 x).ab-1)))),(7,D.bool true),(8,(cD 8 x))]) ({aY.2 with li:=lA.2.1,lt:=lA.2.2.1,le:=lA.2.2.2}:RS)
    True))))∧(((!lA.1.2)=false→
    ((decide (lA.1.1>0)=true→
     (True)∧(
     let uC:=dQ ({aY.2 with li:=lA.2.1,lt:=lA.2.2.1,le:=lA.2.2.2}:RS)
     ((true=true→okB uC.li uC.lt=true))∧(
     let TW:=cT uC.li uC.lt uC.le lA.1.1 (IntKind.i64.wrap ((cD 4 x).ab+(((cD 12 x).ak:List D).length:Int)))
     ((true=true→Ok ({uC with dt:=TW}:RS) 1))∧(
     let ID:=iq (az (cD 6 x).ab (IntKind.i64.wrap ((cD 4 x).ab+(((cD 12 x).ak:List D).length:Int)))) ({uC with dt:=TW}:RS)
     ((true=true→Ok ID.2 1))∧(
     let ags:=aX (ah 46 cA [(0,D.int .i64 4),(2,(cD 1 x)),(4,D.int .i64 (IntKind.i64.wrap ((cD 4 x).ab+(((cD 12 x).ak:List D).length:Int)))),(8,(cD 8 x))]) ID.2
     True))))))∧((decide (lA.1.1>0)=false→
     ((true=true→Ok ({aY.2 with li:=lA.2.1,lt:=lA.2.2.1,le:=lA.2.2.2}:RS) 1))∧(
     let N4:=iq (az (cD 6 x).ab (IntKind.i64.wrap ((cD 4 x).ab+(((cD 12 x).ak:List D).length:Int)))) ({aY.2 with li:=lA.2.1,lt:=lA.2.2.1,le:=lA.2.2.2}:RS)
     ((true=true→Ok N4.2 1))∧(
     let mE:=aX (ah 46 cA [(0,D.int .i64 4),(2,(cD 1 x)),(4,D.int .i64 (IntKind.i64.wrap ((cD 4 x).ab+(((cD 12 x).ak:List D).length:Int)))),(8,(cD 8 x))]) N4.2
     True))))))))))))
theorem U9(x:D)(s:RS)(hs:bV (.bQ cY) (encS s))(h:Ok s (4+(cD 12 x).ak.length)∧(cD 12 x).ak.length≤2147483648∧cI (cD 12 x).ak=true):agP x s:=by
 obtain⟨h,hn,pe⟩:=h
 have h1:Ok (ik (ah 46 x []) s).2 (4+(cD 12 x).ak.length):=h.Lb
 refine⟨trivial,?_⟩
 intro aY
 change Ok aY.2 _ at h1
 clear_value aY
 have ha:=bB.accept (k:=4) (pi:=(cD 4 x).ab) (pt:=(cD 5 x).ab) h1 pe
 have h2:=h1.xM
 refine⟨trivial,fun _=>⟨fun _=>⟨fun _=>h1.le (by omega),trivial⟩,fun _=>⟨fun _=>⟨h1.may,by omega,by omega⟩,?_⟩⟩⟩
 (repeat' (first|exact trivial|apply And.intro|intro _))
 all_goals first
  |exact ha.may
  |exact ha.O6
  |exact ha.le (by omega)
  |exact(bB.dt ha).le (by omega)
  |exact bB.bq ((bB.dt ha).le (by omega))
  |exact bB.bq (ha.le (by omega))
theorem c45:ax Try.prog 45 s45 (pre 45) (aK 45):=by
 refine bz (given:=[]) mix Ru Try.func45 rfl (by kernel_rfl) (v:=afc) (by kernel_rfl) ?_
 intro ds h hp
 obtain⟨x,_,rfl,hx,h1⟩:=aa.1 h
 have hs:=h1
 obtain⟨s,rfl⟩:=dV h1
 refine VC.bH (Φ:=aK) (Pre:=pre) (dec:=na) (enc:=dF) (bad:=aW) (lp:=fun _ _ _=>aW) (y:=lW x s) bC (by kernel_rfl) (Eq.mpr (α:=VC.fH aK pre triv (VC.o9 aK pre dF (fun _ _ _=>aW) []) _ _) (β:=agP x s) (by kernel_rfl) (U9 x s hs hp)) (by kernel_rfl) (by kernel_rfl)
theorem Yo:gM Try.prog pre aK ZM:=aj c45 Ru
def agE(x:D)(s:RS):Prop:=
 ((true=true→Ok s 0))∧(
 let B1:=(cH s)
 VC.o9 aK pre dF (fun _ _ l=>j4 x s B1 (l.getD 0 .top).ak (l.getD 1 .top).ab (oD (l.drop 2))) [] (VC.lp 67 Zv) (dp (fun i=>([x] ++encS s).getD i .top) 57 (B1)))
def ajE(x:D)(s:RS)(B1:D)(i67:List D)(zG:Int)(t67:RS):Prop:=
 ((decide (zG<((s.reads:List D).length:Int))=true→
  (true=true→((decide (0≤zG))&&(decide (zG<((s.reads:List D).length:Int))))=true)∧(
  ((((decide ((cD 8 x).ab≥((cD 2 ((s.reads).getD (zG:Int).toNat .top)).ab)))&&(decide ((cD 8 x).ab≤t67.round)))=true→
   False))∧((((decide ((cD 8 x).ab≥((cD 2 ((s.reads).getD (zG:Int).toNat .top)).ab)))&&(decide ((cD 8 x).ab≤t67.round)))=false→
   (True)∧(
   let TU:=(jv (ah 2 B1 []) (cD 3 ((s.reads).getD (zG:Int).toNat .top)))
   ((TU=true→
    (true=true→((t67.pr++([ah 2 ((s.reads).getD (zG:Int).toNat .top) []] :List D)):List D).length≤maxLen∧((t67.pr++([ah 2 ((s.reads).getD (zG:Int).toNat .top) []] :List D)):List D).length*16≤140737488355328)∧(
    True)))∧((TU=false→
    (true=true→((i67++([ah 4 ((s.reads).getD (zG:Int).toNat .top) []] :List D)):List D).length≤maxLen∧((i67++([ah 4 ((s.reads).getD (zG:Int).toNat .top) []] :List D)):List D).length*48≤140737488355328)∧(
    True)))))))))∧(True)
theorem UY(x:D)(s:RS)(hs:bV (.bQ cY) (encS s))(h:Ok s 0):agE x s:=by
 refine⟨fun _=>h,?_⟩
 intro B1
 clear_value B1
 have hr:=h.rd
 refine VC.iH 67 (by kernel_rfl) ?_
 refine VC.fB (Φ:=aK) (Pre:=pre) (triv:=triv) (v0:=67) (decL:=fun l=>((l.getD 0 .top).ak,(l.getD 1 .top).ab,oD (l.drop 2))) (encL:=fun a:List D×Int×RS=>([D.list a.1,D.int .i64 a.2.1] ++MN a.2.2)) (dec:=na) (enc:=dF) (lp:=fun _ _ _ _=>aW) (bad:= .inr aW) (bd:=aW) (by kernel_rfl) (fun a:List D×Int×RS=>l6 x s B1 a.1 a.2.1 a.2.2) (fun a:List D×Int×RS=>0≤a.2.1) (fun a:List D×Int×RS=>vX x s B1 a.1 a.2.1 a.2.2) ([],0,s) bC (by kernel_rfl) ?YX (fun a=>rfl) ?SU (by kernel_rfl) (fun a ha=>by kernel_rfl) (fun a=>by kernel_rfl) (fun a=>by kernel_rfl) (fun a ha fV=>Eq.mpr (α:=VC.fH aK pre triv (VC.yQ aK pre dF (fun _ _ _=>aW) []) _ _) (β:=ajE x s B1 a.1 a.2.1 a.2.2) (by kernel_rfl) ?Cm) (by kernel_rfl)
 ·exact Int.le_refl 0
 ·rintro⟨l,j,t⟩ h0
  replace h0:0≤j:=h0
  unfold l6
  rw[if_neg (by rw[hr,aN];simp only[List.length_nil];omega)]
  trivial
 ·obtain⟨l,j,t⟩:=a
  replace ha:0≤j:=ha
  refine⟨fun aL=> ?_,trivial⟩
  rw[hr,aN]at aL
  simp only[List.length_nil]at aL
  omega
theorem c77:ax Try.prog 77 lA (pre 77) (aK 77):=by
 refine bz (given:=[(4,{boxes:=Cu})]) mix Yo Try.func77 rfl (by kernel_rfl) (v:=Zv) (by kernel_rfl) ?_
 intro ds h hp
 obtain⟨x,_,rfl,hx,h1⟩:=aa.1 h
 have hs:=h1
 obtain⟨s,rfl⟩:=dV h1
 refine VC.bH (Φ:=aK) (Pre:=pre) (dec:=na) (enc:=dF) (bad:=aW) (lp:=fun _ _ l=>(let B1:=(cH s);j4 x s B1 (l.getD 0 .top).ak (l.getD 1 .top).ab (oD (l.drop 2)))) (y:=iG x s) bC (by kernel_rfl) (Eq.mpr (α:=VC.fH aK pre triv (VC.o9 aK pre dF (fun _ _ l=>(let B1:=(cH s);j4 x s B1 (l.getD 0 .top).ak (l.getD 1 .top).ab (oD (l.drop 2)))) []) _ _) (β:=agE x s) (by kernel_rfl) (UY x s hs hp)) (by kernel_rfl) (by kernel_rfl)
theorem XW:gM Try.prog pre aK ZD:=aj c77 Yo
def agD(x:Int)(y:Int)(s:RS):Prop:=
 ((true=true→de s.li s.lt s.le=true))∧(
 let kT:=(dm s.li s.lt s.le)
 (((x==0)=true→
  ((true=true→Ok ({s with HZ:=(ay s.HZ (az y kT.1)),wE:=(ay s.wE (IntKind.i64.wrap ((ay s.HZ (az y kT.1))+1))),xL:=0}:RS) 1))∧(
  let dO:=fx ({s with HZ:=(ay s.HZ (az y kT.1)),wE:=(ay s.wE (IntKind.i64.wrap ((ay s.HZ (az y kT.1))+1))),xL:=0}:RS)
  ((((dO.role==2)&&(decide (dO.wE≤kT.1)))=true→
   ((true=true→Ok dO 1∧(0:Int)≤0∧(0:Int)≤5))∧(
   let qx:=cq 0 dO
   True)))∧(True))))∧(((x==0)=false→
  (((x==1)=true→
   ((true=true→Ok ({s with FK:=(ay s.FK (az y kT.1)),wD:=(ay s.wD (IntKind.i64.wrap ((ay s.FK (az y kT.1))+1))),xK:=0}:RS) 1))∧(
   let dO:=fx ({s with FK:=(ay s.FK (az y kT.1)),wD:=(ay s.wD (IntKind.i64.wrap ((ay s.FK (az y kT.1))+1))),xK:=0}:RS)
   ((((dO.role==2)&&(decide (dO.wD≤kT.1)))=true→
    ((true=true→Ok dO 1∧(0:Int)≤1∧(1:Int)≤5))∧(
    let qx:=cq 1 dO
    True)))∧(True))))∧(((x==1)=false→
   (((x==2)=true→
    ((true=true→Ok ({s with FJ:=(ay s.FJ (az y kT.1)),wC:=(ay s.wC (IntKind.i64.wrap ((ay s.FJ (az y kT.1))+1))),xJ:=0}:RS) 1))∧(
    let dO:=fx ({s with FJ:=(ay s.FJ (az y kT.1)),wC:=(ay s.wC (IntKind.i64.wrap ((ay s.FJ (az y kT.1))+1))),xJ:=0}:RS)
    ((((dO.role==2)&&(decide (dO.wC≤kT.1)))=true→
     ((true=true→Ok dO 1∧(0:Int)≤2∧(2:Int)≤5))∧(
     let qx:=cq 2 dO
     True)))∧(True))))∧(((x==2)=false→
    (((x==3)=true→
     ((true=true→Ok ({s with FI:=(ay s.FI (az y kT.1)),wB:=(ay s.wB (IntKind.i64.wrap ((ay s.FI (az y kT.1))+1))),xI:=0}:RS) 1))∧(
     let dO:=fx ({s with FI:=(ay s.FI (az y kT.1)),wB:=(ay s.wB (IntKind.i64.wrap ((ay s.FI (az y kT.1))+1))),xI:=0}:RS)
     ((((dO.role==2)&&(decide (dO.wB≤kT.1)))=true→
      ((true=true→Ok dO 1∧(0:Int)≤3∧(3:Int)≤5))∧(
      let qx:=cq 3 dO
      True)))∧(True))))∧(((x==3)=false→
     (((x==4)=true→
      ((true=true→Ok ({s with FH:=(ay s.FH (az y kT.1)),wA:=(ay s.wA (IntKind.i64.wrap ((ay s.FH (az y kT.1))+1))),xH:=0}:RS) 1))∧(
      let dO:=fx ({s with FH:=(ay s.FH (az y kT.1)),wA:=(ay s.wA (IntKind.i64.wrap ((ay s.FH (az y kT.1))+1))),xH:=0}:RS)
      ((((dO.role==2)&&(decide (dO.wA≤kT.1)))=true→
       ((true=true→Ok dO 1∧(0:Int)≤4∧(4:Int)≤5))∧(
       let qx:=cq 4 dO
       True)))∧(True))))∧(((x==4)=false→
      (((x==5)=true→
       ((true=true→Ok ({s with FG:=(ay s.FG (az y kT.1)),wy:=(ay s.wy (IntKind.i64.wrap ((ay s.FG (az y kT.1))+1))),xG:=0}:RS) 1))∧(
       let dO:=fx ({s with FG:=(ay s.FG (az y kT.1)),wy:=(ay s.wy (IntKind.i64.wrap ((ay s.FG (az y kT.1))+1))),xG:=0}:RS)
       ((((dO.role==2)&&(decide (dO.wy≤kT.1)))=true→
        ((true=true→Ok dO 1∧(0:Int)≤5∧(5:Int)≤5))∧(
        let qx:=cq 5 dO
        True)))∧(True))))∧(((x==5)=false→
       False)))))))))))))
theorem UX(x:Int)(y:Int)(s:RS)(hx:kr .i64 x)(hy:kr .i64 y)(hs:bV (.bQ cY) (encS s))(h:Ok s 2∧0≤x∧x≤5):agD x y s:=by
 obtain⟨h,h0,h5⟩:=h
 have hA: ∀t:RS,yZ s t→Ok (fx t) 1:=fun t e=>bB.agree (k:=1) (h.same e)
 (repeat' (first|exact trivial|apply And.intro|intro _))
 all_goals first
  |exact h.may
  |decide
  |(with_reducible refine bB.alike h (by omega) ?_;exact⟨rfl,rfl,rfl,rfl,rfl,rfl,rfl,rfl,rfl,rfl,rfl,rfl,rfl,rfl⟩)
  |(refine hA _ ?_;exact⟨rfl,rfl,rfl,rfl,rfl,rfl,rfl,rfl,rfl,rfl,rfl,rfl,rfl,rfl⟩)
  |(simp only[beq_eq_false_iff_ne,ne_eq]at*;omega)
theorem c78:ax Try.prog 78 s78 (pre 78) (aK 78):=by
 refine bz (given:=[(1,{drop:=[4006001]})]) mix XW Try.func78 rfl (by kernel_rfl) (v:=aeR) (by kernel_rfl) ?_
 intro ds h hp
 obtain⟨_,_,rfl,⟨x,rfl,hx⟩,h1⟩:=aa.1 h
 obtain⟨_,_,rfl,⟨y,rfl,hy⟩,h2⟩:=aa.1 h1
 have hs:=h2
 obtain⟨s,rfl⟩:=dV h2
 refine VC.bH (Φ:=aK) (Pre:=pre) (dec:=na) (enc:=dF) (bad:=aW) (lp:=fun _ _ _=>aW) (y:=ou x y s) bC (by kernel_rfl) (Eq.mpr (α:=VC.fH aK pre triv (VC.o9 aK pre dF (fun _ _ _=>aW) []) _ _) (β:=agD x y s) (by kernel_rfl) (UX x y s hx hy hs hp)) (by kernel_rfl) (by kernel_rfl)
theorem XV:gM Try.prog pre aK ZC:=aj c78 XW
def agO(x:D)(s:RS):Prop:=
 (((((s.role !=2)==false)&&true)=true→Ok s 0))∧(
 let qb:=(rL (cD 1 x).ab s)
 (True)∧((((s.role !=2)||(!qb))=false→
  ((true=true→Ok s 0))∧(
  let dj:=iG (ah 46 x []) s
  ((((cD 1 x).ab==0)=true→
   (((cD 7 x).eh=true→
    ((true=true→de dj.li dj.lt dj.le=true))∧(
    let nZ:=(dm dj.li dj.lt dj.le)
    ((true=true→Ok ({dj with wE:=(ay (IntKind.i64.wrap (dj.HZ+1)) (az (IntKind.i64.wrap (dj.wE-1)) (IntKind.i64.wrap ((az (ay 0 (cD 4 x).ab) nZ.1)+1))))}:RS) 1∧(0:Int)≤0∧(0:Int)≤5))∧(
    let qy:=cq 0 ({dj with wE:=(ay (IntKind.i64.wrap (dj.HZ+1)) (az (IntKind.i64.wrap (dj.wE-1)) (IntKind.i64.wrap ((az (ay 0 (cD 4 x).ab) nZ.1)+1))))}:RS)
    True))))∧(((cD 7 x).eh=false→
    ((true=true→Ok dj 2∧(0:Int)≤0∧(0:Int)≤5))∧(
    let CL:=ou 0 (cD 4 x).ab dj
    True)))))∧((((cD 1 x).ab==0)=false→
   ((((cD 1 x).ab==1)=true→
    (((cD 7 x).eh=true→
     ((true=true→de dj.li dj.lt dj.le=true))∧(
     let nZ:=(dm dj.li dj.lt dj.le)
     ((true=true→Ok ({dj with wD:=(ay (IntKind.i64.wrap (dj.FK+1)) (az (IntKind.i64.wrap (dj.wD-1)) (IntKind.i64.wrap ((az (ay 0 (cD 4 x).ab) nZ.1)+1))))}:RS) 1∧(0:Int)≤1∧(1:Int)≤5))∧(
     let qy:=cq 1 ({dj with wD:=(ay (IntKind.i64.wrap (dj.FK+1)) (az (IntKind.i64.wrap (dj.wD-1)) (IntKind.i64.wrap ((az (ay 0 (cD 4 x).ab) nZ.1)+1))))}:RS)
     True))))∧(((cD 7 x).eh=false→
     ((true=true→Ok dj 2∧(0:Int)≤1∧(1:Int)≤5))∧(
     let CL:=ou 1 (cD 4 x).ab dj
     True)))))∧((((cD 1 x).ab==1)=false→
    ((((cD 1 x).ab==2)=true→
     (((cD 7 x).eh=true→
      ((true=true→de dj.li dj.lt dj.le=true))∧(
      let nZ:=(dm dj.li dj.lt dj.le)
      ((true=true→Ok ({dj with wC:=(ay (IntKind.i64.wrap (dj.FJ+1)) (az (IntKind.i64.wrap (dj.wC-1)) (IntKind.i64.wrap ((az (ay 0 (cD 4 x).ab) nZ.1)+1))))}:RS) 1∧(0:Int)≤2∧(2:Int)≤5))∧(
      let qy:=cq 2 ({dj with wC:=(ay (IntKind.i64.wrap (dj.FJ+1)) (az (IntKind.i64.wrap (dj.wC-1)) (IntKind.i64.wrap ((az (ay 0 (cD 4 x).ab) nZ.1)+1))))}:RS)
      True))))∧(((cD 7 x).eh=false→
      ((true=true→Ok dj 2∧(0:Int)≤2∧(2:Int)≤5))∧(
      let CL:=ou 2 (cD 4 x).ab dj
      True)))))∧((((cD 1 x).ab==2)=false→
     ((((cD 1 x).ab==3)=true→
      (((cD 7 x).eh=true→
       ((true=true→de dj.li dj.lt dj.le=true))∧(
       let nZ:=(dm dj.li dj.lt dj.le)
       ((true=true→Ok ({dj with wB:=(ay (IntKind.i64.wrap (dj.FI+1)) (az (IntKind.i64.wrap (dj.wB-1)) (IntKind.i64.wrap ((az (ay 0 (cD 4 x).ab) nZ.1)+1))))}:RS) 1∧(0:Int)≤3∧(3:Int)≤5))∧(
       let qy:=cq 3 ({dj with wB:=(ay (IntKind.i64.wrap (dj.FI+1)) (az (IntKind.i64.wrap (dj.wB-1)) (IntKind.i64.wrap ((az (ay 0 (cD 4 x).ab) nZ.1)+1))))}:RS)
       True))))∧(((cD 7 x).eh=false→
       ((true=true→Ok dj 2∧(0:Int)≤3∧(3:Int)≤5))∧(
       let CL:=ou 3 (cD 4 x).ab dj
       True)))))∧((((cD 1 x).ab==3)=false→
      ((((cD 1 x).ab==4)=true→
       (((cD 7 x).eh=true→
        ((true=true→de dj.li dj.lt dj.le=true))∧(
        let nZ:=(dm dj.li dj.lt dj.le)
        ((true=true→Ok ({dj with wA:=(ay (IntKind.i64.wrap (dj.FH+1)) (az (IntKind.i64.wrap (dj.wA-1)) (IntKind.i64.wrap ((az (ay 0 (cD 4 x).ab) nZ.1)+1))))}:RS) 1∧(0:Int)≤4∧(4:Int)≤5))∧(
        let qy:=cq 4 ({dj with wA:=(ay (IntKind.i64.wrap (dj.FH+1)) (az (IntKind.i64.wrap (dj.wA-1)) (IntKind.i64.wrap ((az (ay 0 (cD 4 x).ab) nZ.1)+1))))}:RS)
        True))))∧(((cD 7 x).eh=false→
        ((true=true→Ok dj 2∧(0:Int)≤4∧(4:Int)≤5))∧(
        let CL:=ou 4 (cD 4 x).ab dj
        True)))))∧((((cD 1 x).ab==4)=false→
       ((((cD 1 x).ab==5)=true→
        (((cD 7 x).eh=true→
         ((true=true→de dj.li dj.lt dj.le=true))∧(
         let nZ:=(dm dj.li dj.lt dj.le)
         ((true=true→Ok ({dj with wy:=(ay (IntKind.i64.wrap (dj.FG+1)) (az (IntKind.i64.wrap (dj.wy-1)) (IntKind.i64.wrap ((az (ay 0 (cD 4 x).ab) nZ.1)+1))))}:RS) 1∧(0:Int)≤5∧(5:Int)≤5))∧(
         let qy:=cq 5 ({dj with wy:=(ay (IntKind.i64.wrap (dj.FG+1)) (az (IntKind.i64.wrap (dj.wy-1)) (IntKind.i64.wrap ((az (ay 0 (cD 4 x).ab) nZ.1)+1))))}:RS)
         True))))∧(((cD 7 x).eh=false→
         ((true=true→Ok dj 2∧(0:Int)≤5∧(5:Int)≤5))∧(
         let CL:=ou 5 (cD 4 x).ab dj
         True)))))∧((((cD 1 x).ab==5)=false→
        False))))))))))))))))
theorem U8(x:D)(s:RS)(hs:bV (.bQ cY) (encS s))(h:Ok s 4∧0≤(cD 1 x).ab∧(cD 1 x).ab≤5):agO x s:=by
 obtain⟨h,h0,h5⟩:=h
 refine⟨fun _=>h.le (by omega),trivial,fun _=>⟨fun _=>h.le (by omega),?_⟩⟩
 have ha:Ok (iG (ah 46 x []) s) 4:=h.Hs
 intro dj
 change Ok dj 4 at ha
 clear_value dj
 (repeat' (first|exact trivial|apply And.intro|intro _))
 all_goals first
  |exact ha.may
  |decide
  |(with_reducible exact ha.le (by omega))
  |(with_reducible refine bB.alike ha (by omega) ?_;exact⟨rfl,rfl,rfl,rfl,rfl,rfl,rfl,rfl,rfl,rfl,rfl,rfl,rfl,rfl⟩)
  |(simp only[beq_eq_false_iff_ne,ne_eq]at*;omega)
theorem c46:ax Try.prog 46 s46 (pre 46) (aK 46):=by
 refine bz (given:=[(3,{drop:=[5106003]})]) mix XV Try.func46 rfl (by kernel_rfl) (v:=afb) (by kernel_rfl) ?_
 intro ds h hp
 obtain⟨x,_,rfl,hx,h1⟩:=aa.1 h
 have hs:=h1
 obtain⟨s,rfl⟩:=dV h1
 refine VC.bH (Φ:=aK) (Pre:=pre) (dec:=na) (enc:=dF) (bad:=aW) (lp:=fun _ _ _=>aW) (y:=iF x s) bC (by kernel_rfl) (Eq.mpr (α:=VC.fH aK pre triv (VC.o9 aK pre dF (fun _ _ _=>aW) []) _ _) (β:=agO x s) (by kernel_rfl) (U8 x s hs hp)) (by kernel_rfl) (by kernel_rfl)
theorem Yn:gM Try.prog pre aK ZL:=aj c46 XV
def agM(x:D)(s:RS):Prop:=
 (((((s.role !=2)==false)&&true)=true→Ok s 0))∧(
 let qb:=(rL (cD 1 x).ab s)
 (True)∧((((s.role !=2)||(!qb))=false→
  ((((!(cD 7 x).eh)&&((cD 10 x).ab==0))=true→
   ((true=true→Ok s 2∧(0:Int)≤(cD 1 x).ab∧((cD 1 x).ab:Int)≤5))∧(
   let s82:=ou (cD 1 x).ab (cD 4 x).ab s
   True)))∧((((!(cD 7 x).eh)&&((cD 10 x).ab==0))=false→
   ((((cD 4 x).ab==s.iK)=true→
    ((((cD 1 x).ab==0)=true→
     ((true=true→Ok ({s with xL:=(az (ay 0 (cD 9 x).ab) ((s.au:List D).length:Int))}:RS) 1∧(0:Int)≤0∧(0:Int)≤5))∧(
     let mE:=cq 0 ({s with xL:=(az (ay 0 (cD 9 x).ab) ((s.au:List D).length:Int))}:RS)
     True)))∧((((cD 1 x).ab==0)=false→
     ((((cD 1 x).ab==1)=true→
      ((true=true→Ok ({s with xK:=(az (ay 0 (cD 9 x).ab) ((s.au:List D).length:Int))}:RS) 1∧(0:Int)≤1∧(1:Int)≤5))∧(
      let mE:=cq 1 ({s with xK:=(az (ay 0 (cD 9 x).ab) ((s.au:List D).length:Int))}:RS)
      True)))∧((((cD 1 x).ab==1)=false→
      ((((cD 1 x).ab==2)=true→
       ((true=true→Ok ({s with xJ:=(az (ay 0 (cD 9 x).ab) ((s.au:List D).length:Int))}:RS) 1∧(0:Int)≤2∧(2:Int)≤5))∧(
       let mE:=cq 2 ({s with xJ:=(az (ay 0 (cD 9 x).ab) ((s.au:List D).length:Int))}:RS)
       True)))∧((((cD 1 x).ab==2)=false→
       ((((cD 1 x).ab==3)=true→
        ((true=true→Ok ({s with xI:=(az (ay 0 (cD 9 x).ab) ((s.au:List D).length:Int))}:RS) 1∧(0:Int)≤3∧(3:Int)≤5))∧(
        let mE:=cq 3 ({s with xI:=(az (ay 0 (cD 9 x).ab) ((s.au:List D).length:Int))}:RS)
        True)))∧((((cD 1 x).ab==3)=false→
        ((((cD 1 x).ab==4)=true→
         ((true=true→Ok ({s with xH:=(az (ay 0 (cD 9 x).ab) ((s.au:List D).length:Int))}:RS) 1∧(0:Int)≤4∧(4:Int)≤5))∧(
         let mE:=cq 4 ({s with xH:=(az (ay 0 (cD 9 x).ab) ((s.au:List D).length:Int))}:RS)
         True)))∧((((cD 1 x).ab==4)=false→
         ((((cD 1 x).ab==5)=true→
          ((true=true→Ok ({s with xG:=(az (ay 0 (cD 9 x).ab) ((s.au:List D).length:Int))}:RS) 1∧(0:Int)≤5∧(5:Int)≤5))∧(
          let mE:=cq 5 ({s with xG:=(az (ay 0 (cD 9 x).ab) ((s.au:List D).length:Int))}:RS)
          True)))∧((((cD 1 x).ab==5)=false→
          False))))))))))))))∧(True))))))
theorem U6(x:D)(s:RS)(hs:bV (.bQ cY) (encS s))(h:Ok s 4∧0≤(cD 1 x).ab∧(cD 1 x).ab≤5):agM x s:=by
 obtain⟨h,h0,h5⟩:=h
 (repeat' (first|exact trivial|apply And.intro|intro _))
 all_goals first
  |decide
  |exact h0
  |exact h5
  |(with_reducible exact h.le (by omega))
  |(with_reducible refine bB.alike h (by omega) ?_;exact⟨rfl,rfl,rfl,rfl,rfl,rfl,rfl,rfl,rfl,rfl,rfl,rfl,rfl,rfl⟩)
  |(simp only[beq_eq_false_iff_ne,ne_eq]at*;omega)
theorem c48:ax Try.prog 48 s48 (pre 48) (aK 48):=by
 refine bz (given:=[(5,{drop:=[5106003]})]) mix Yn Try.func48 rfl (by kernel_rfl) (v:=ae9) (by kernel_rfl) ?_
 intro ds h hp
 obtain⟨x,_,rfl,hx,h1⟩:=aa.1 h
 have hs:=h1
 obtain⟨s,rfl⟩:=dV h1
 refine VC.bH (Φ:=aK) (Pre:=pre) (dec:=na) (enc:=dF) (bad:=aW) (lp:=fun _ _ _=>aW) (y:=jX x s) bC (by kernel_rfl) (Eq.mpr (α:=VC.fH aK pre triv (VC.o9 aK pre dF (fun _ _ _=>aW) []) _ _) (β:=agM x s) (by kernel_rfl) (U6 x s hs hp)) (by kernel_rfl) (by kernel_rfl)
theorem Yl:gM Try.prog pre aK afR:=aj c48 Yn
theorem c27:ax Try.prog 27 s27 (pre 27) (aK 27):=by
 refine aH (given:=[]) mix Yl Try.func27 (by kernel_rfl) (v:=apz) (by kernel_rfl) ?_
 intro ds h hp
 obtain⟨_,_,rfl,⟨_,rfl,_,_,rfl,⟨i,rfl,_⟩,_,_,rfl,⟨t,rfl,_⟩,_,_,rfl,⟨v,rfl,_,_⟩,_,_,rfl,⟨l,rfl,_,_⟩,_,_,rfl,⟨b,rfl,_,_⟩,rfl⟩,rfl⟩:=h
 refine VC.bH (Φ:=aK) (Pre:=pre) (dec:=id) (enc:=id) (bad:= .top) (lp:=fun _ _ _=> .top) (y:=qk _) bC (by kernel_rfl) (VC.gu (by kernel_rfl)) (by kernel_rfl) (by kernel_rfl)
theorem YD:gM Try.prog pre aK ZV:=aj c27 Yl
theorem aro: ∀k sg,lk Lf k=some sg→ ∃sF t,sg.nn=some (sF,t)∧UG Try.prog k sF (pre k) (aK k):=by
 intro k sg h
 unfold Lf lk lk at h
 split at h
 ·rename_i hk
  subst hk
  injection h with h
  subst h
  refine⟨_,_,rfl,cnw,?_⟩
  intro ob dw w S β τ vs dd oo gY fV hp hn
  injection dw with dw
  subst dw
  have h0:=List.length_eq_zero_iff.1 gY.len
  subst h0
  simp only[List.flatten_nil,List.append_nil]at fV hp hn
  obtain⟨x,r,rfl,hx,hr⟩:=aa.1 fV
  obtain⟨y,r,rfl,hy,hr⟩:=aa.1 hr
  obtain rfl:=bE.1 hr
  have ha:=gY.args
  match vs,ha with
  | [u,v],ha=>
   obtain⟨hu,hv,_⟩:=ha
   refine(cnl.calls rfl w S [u,v] [x,y] gY.lt rfl ?_ fV ⟨hp,hn⟩).mono ?_
   ·intro i v' d ng hd
    match i with
    |0=>injection ng with ng;injection hd with hd;subst ng hd;exact hu
    |1=>injection ng with ng;injection hd with hd;subst ng hd;exact hv
    |n+2=>cases ng
   ·rintro e w' ⟨v',S',τ',rfl,hb,_,_,_,cw,_⟩
    refine⟨?_,hb⟩
    rcases cw with⟨c,hc,hq⟩|⟨hc,_⟩
    ·injection hc with hc
     subst hc
     obtain⟨x',iA,cB⟩:=hq
     injection iA with iA
     subst iA
     have hr:bj w' S' v' .eW:=cB.1
     rw[hr.oU]
    ·exact absurd rfl hc
 ·cases h
def agN(x:D)(s:RS):Prop:=
 (True)∧(
 let aY:=ik (ah 46 x []) s
 (True)∧(((!aY.1)=false→
  ((decide ((cD 4 x).ab≤aY.2.aJ)=true→
   ((true=true→Ok aY.2 1))∧(
   let Tl:=aX (ah 46 cA [(0,D.int .i64 6),(2,(cD 1 x)),(4,D.int .i64 aY.2.aJ)]) aY.2
   True)))∧((decide ((cD 4 x).ab≤aY.2.aJ)=false→
   ((((!(((((aY.2.eL==(cD 3 x).ab)&&(aY.2.eM==(cD 1 x).ab))&&(aY.2.dh==(cD 4 x).ab))&&(aY.2.iB==(cD 5 x).ab))&&(aY.2.dg==(cD 10 x).ab)))||((cD 9 x).ab==0))=true→
    (True)∧(
    let TR:=(qc (cD 10 x).ab 1 1048576)
    ((((((cD 9 x).ab==(([] :List D).length:Int))&&(decide ((((cD 15 x).ak:List D).length:Int)≤(IntKind.i64.wrap ((cD 10 x).ab-(([] :List D).length:Int))))))&&TR)=true→
     (true=true→(([] ++(cD 15 x).ak):List D).length≤maxLen∧(([] ++(cD 15 x).ak):List D).length*1≤140737488355328)∧(
     (True)∧(
     let Cc:=(iU (cD 4 x).ab (cD 5 x).ab)
     (((cD 0 Cc).dT=true→
      (True)∧(
      let Ml:=(dL (D.agg [(cD 13 x),(cD 14 x)]))
      ((true=true→Ok ({aY.2 with eL:=(cD 3 x).ab,eM:=(cD 1 x).ab,dh:=(cD 4 x).ab,iB:=(cD 5 x).ab,dg:=(cD 10 x).ab,bc:=([] ++(cD 15 x).ak)}:RS) 1))∧(
      let OV:=aX (ah 46 cA [(0,D.int .i64 6),(2,(cD 1 x)),(4,(cD 4 x)),(9,D.int .i64 ((([] ++(cD 15 x).ak):List D).length:Int)),(10,D.int .i64 (ay 1 (cD 10 x).ab))]) ({aY.2 with eL:=(cD 3 x).ab,eM:=(cD 1 x).ab,dh:=(cD 4 x).ab,iB:=(cD 5 x).ab,dg:=(cD 10 x).ab,bc:=([] ++(cD 15 x).ak)}:RS)
      True))))∧(((cD 0 Cc).dT=false→
      (True)∧(
      let Ml:=(dL (D.agg [(cD 13 x),(cD 14 x)]))
      ((((((((([] ++(cD 15 x).ak):List D).length:Int) !=(cD 10 x).ab)||(decide ((cD 10 x).ab<1)))&&true)||(!Ml))=true→
       ((true=true→Ok ({aY.2 with eL:=(cD 3 x).ab,eM:=(cD 1 x).ab,dh:=(cD 4 x).ab,iB:=(cD 5 x).ab,dg:=(cD 10 x).ab,bc:=([] ++(cD 15 x).ak)}:RS) 1))∧(
       let OV:=aX (ah 46 cA [(0,D.int .i64 6),(2,(cD 1 x)),(4,(cD 4 x)),(9,D.int .i64 ((([] ++(cD 15 x).ak):List D).length:Int)),(10,D.int .i64 (ay 1 (cD 10 x).ab))]) ({aY.2 with eL:=(cD 3 x).ab,eM:=(cD 1 x).ab,dh:=(cD 4 x).ab,iB:=(cD 5 x).ab,dg:=(cD 10 x).ab,bc:=([] ++(cD 15 x).ak)}:RS)
       True)))∧((((((((([] ++(cD 15 x).ak):List D).length:Int) !=(cD 10 x).ab)||(decide ((cD 10 x).ab<1)))&&true)||(!Ml))=false→
       (True)∧(
       let lE:=(du (D.agg [(cD 13 x),(cD 14 x)]))
       ((true=true→de aY.2.li aY.2.lt aY.2.le=true))∧(
       let Is:=(fN aY.2.li aY.2.lt aY.2.le (cD 4 x).ab)
       ((((Is.2==0)&&(Is.1==(cD 5 x).ab))=true→
        ((true=true→de aY.2.li aY.2.lt aY.2.le=true))∧(
        let Iz:=lu aY.2.li aY.2.lt aY.2.le (cD 4 x).ab
        (True)∧(
        let zI:=(qk (D.agg [(cD 4 x),(cD 5 x),(cD 0 lE),(cD 1 lE),D.list ([] ++(cD 15 x).ak)]))
        (True)∧(
        let T6:=dQ ({aY.2 with gg:=(D.ptr [(cD 0 zI),(cD 1 zI),(cD 2 zI),(cD 3 zI),(cD 4 zI)]),iK:=(cD 4 x).ab,ff:=(cD 5 x).ab,sv:=(cD 0 lE).ak,sl:=(cD 1 lE).ak,au:=([] ++(cD 15 x).ak),aJ:=(cD 4 x).ab,eL:=0,eM:=0,dh:=0,iB:=0,dg:=0,bc:=[],li:=Iz.2.1,lt:=Iz.2.2.1,le:=Iz.2.2.2}:RS)
        ((true=true→Ok T6 1))∧(
        let aga:=aX (ah 46 cA [(0,D.int .i64 6),(2,(cD 1 x)),(4,(cD 4 x))]) T6
        True))))))∧((((Is.2==0)&&(Is.1==(cD 5 x).ab))=false→
        (True)∧(
        let zJ:=(qk (D.agg [(cD 4 x),(cD 5 x),(cD 0 lE),(cD 1 lE),D.list ([] ++(cD 15 x).ak)]))
        (True)∧(
        let T7:=dQ ({aY.2 with gg:=(D.ptr [(cD 0 zJ),(cD 1 zJ),(cD 2 zJ),(cD 3 zJ),(cD 4 zJ)]),iK:=(cD 4 x).ab,ff:=(cD 5 x).ab,sv:=(cD 0 lE).ak,sl:=(cD 1 lE).ak,au:=([] ++(cD 15 x).ak),aJ:=(cD 4 x).ab,eL:=0,eM:=0,dh:=0,iB:=0,dg:=0,bc:=[],li:=((cD 0 (cD 1 Cc)).ab),lt:=((cD 1 (cD 1 Cc)).ab),le:=((cD 2 (cD 1 Cc)).ak)}:RS)
        ((true=true→Ok T7 1))∧(
        let agb:=aX (ah 46 cA [(0,D.int .i64 6),(2,(cD 1 x)),(4,(cD 4 x))]) T7
        True))))))))))))))))∧((((((cD 9 x).ab==(([] :List D).length:Int))&&(decide ((((cD 15 x).ak:List D).length:Int)≤(IntKind.i64.wrap ((cD 10 x).ab-(([] :List D).length:Int))))))&&TR)=false→
     (True)∧(
     let Ce:=(iU (cD 4 x).ab (cD 5 x).ab)
     (((cD 0 Ce).dT=true→
      (True)∧(
      let Mn:=(dL (D.agg [(cD 13 x),(cD 14 x)]))
      ((true=true→Ok ({aY.2 with eL:=(cD 3 x).ab,eM:=(cD 1 x).ab,dh:=(cD 4 x).ab,iB:=(cD 5 x).ab,dg:=(cD 10 x).ab,bc:=[]}:RS) 1))∧(
      let F9:=aX (ah 46 cA [(0,D.int .i64 6),(2,(cD 1 x)),(4,(cD 4 x)),(9,D.int .i64 (([] :List D).length:Int)),(10,D.int .i64 (ay 1 (cD 10 x).ab))]) ({aY.2 with eL:=(cD 3 x).ab,eM:=(cD 1 x).ab,dh:=(cD 4 x).ab,iB:=(cD 5 x).ab,dg:=(cD 10 x).ab,bc:=[]}:RS)
      True))))∧(((cD 0 Ce).dT=false→
      (True)∧(
      let Mn:=(dL (D.agg [(cD 13 x),(cD 14 x)]))
      (((((((([] :List D).length:Int) !=(cD 10 x).ab)||(decide ((cD 10 x).ab<1)))&&true)||(!Mn))=true→
       ((true=true→Ok ({aY.2 with eL:=(cD 3 x).ab,eM:=(cD 1 x).ab,dh:=(cD 4 x).ab,iB:=(cD 5 x).ab,dg:=(cD 10 x).ab,bc:=[]}:RS) 1))∧(
       let F9:=aX (ah 46 cA [(0,D.int .i64 6),(2,(cD 1 x)),(4,(cD 4 x)),(9,D.int .i64 (([] :List D).length:Int)),(10,D.int .i64 (ay 1 (cD 10 x).ab))]) ({aY.2 with eL:=(cD 3 x).ab,eM:=(cD 1 x).ab,dh:=(cD 4 x).ab,iB:=(cD 5 x).ab,dg:=(cD 10 x).ab,bc:=[]}:RS)
       True)))∧(((((((([] :List D).length:Int) !=(cD 10 x).ab)||(decide ((cD 10 x).ab<1)))&&true)||(!Mn))=false→
       (True)∧(
       let qu:=(du (D.agg [(cD 13 x),(cD 14 x)]))
       ((true=true→de aY.2.li aY.2.lt aY.2.le=true))∧(
       let Iu:=(fN aY.2.li aY.2.lt aY.2.le (cD 4 x).ab)
       ((((Iu.2==0)&&(Iu.1==(cD 5 x).ab))=true→
        ((true=true→de aY.2.li aY.2.lt aY.2.le=true))∧(
        let IB:=lu aY.2.li aY.2.lt aY.2.le (cD 4 x).ab
        (True)∧(
        let zM:=(qk (D.agg [(cD 4 x),(cD 5 x),(cD 0 qu),(cD 1 qu),D.list []]))
        (True)∧(
        let T8:=dQ ({aY.2 with gg:=(D.ptr [(cD 0 zM),(cD 1 zM),(cD 2 zM),(cD 3 zM),(cD 4 zM)]),iK:=(cD 4 x).ab,ff:=(cD 5 x).ab,sv:=(cD 0 qu).ak,sl:=(cD 1 qu).ak,au:=[],aJ:=(cD 4 x).ab,eL:=0,eM:=0,dh:=0,iB:=0,dg:=0,bc:=[],li:=IB.2.1,lt:=IB.2.2.1,le:=IB.2.2.2}:RS)
        ((true=true→Ok T8 1))∧(
        let Ix:=aX (ah 46 cA [(0,D.int .i64 6),(2,(cD 1 x)),(4,(cD 4 x))]) T8
        True))))))∧((((Iu.2==0)&&(Iu.1==(cD 5 x).ab))=false→
        (True)∧(
        let zN:=(qk (D.agg [(cD 4 x),(cD 5 x),(cD 0 qu),(cD 1 qu),D.list []]))
        (True)∧(
        let T9:=dQ ({aY.2 with gg:=(D.ptr [(cD 0 zN),(cD 1 zN),(cD 2 zN),(cD 3 zN),(cD 4 zN)]),iK:=(cD 4 x).ab,ff:=(cD 5 x).ab,sv:=(cD 0 qu).ak,sl:=(cD 1 qu).ak,au:=[],aJ:=(cD 4 x).ab,eL:=0,eM:=0,dh:=0,iB:=0,dg:=0,bc:=[],li:=((cD 0 (cD 1 Ce)).ab),lt:=((cD 1 (cD 1 Ce)).ab),le:=((cD 2 (cD 1 Ce)).ak)}:RS)
        ((true=true→Ok T9 1))∧(
        let Iy:=aX (ah 46 cA [(0,D.int .i64 6),(2,(cD 1 x)),(4,(cD 4 x))]) T9
        True))))))))))))))))))∧((((!(((((aY.2.eL==(cD 3 x).ab)&&(aY.2.eM==(cD 1 x).ab))&&(aY.2.dh==(cD 4 x).ab))&&(aY.2.iB==(cD 5 x).ab))&&(aY.2.dg==(cD 10 x).ab)))||((cD 9 x).ab==0))=false→
    (True)∧(
    let TS:=(qc (cD 10 x).ab 1 1048576)
    ((((((cD 9 x).ab==((aY.2.bc:List D).length:Int))&&(decide ((((cD 15 x).ak:List D).length:Int)≤(IntKind.i64.wrap ((cD 10 x).ab-((aY.2.bc:List D).length:Int))))))&&TS)=true→
     (true=true→((aY.2.bc++(cD 15 x).ak):List D).length≤maxLen∧((aY.2.bc++(cD 15 x).ak):List D).length*1≤140737488355328)∧(
     (True)∧(
     let Cd:=(iU (cD 4 x).ab (cD 5 x).ab)
     (((cD 0 Cd).dT=true→
      (True)∧(
      let Mm:=(dL (D.agg [(cD 13 x),(cD 14 x)]))
      ((true=true→Ok ({aY.2 with bc:=(aY.2.bc++(cD 15 x).ak)}:RS) 1))∧(
      let OW:=aX (ah 46 cA [(0,D.int .i64 6),(2,(cD 1 x)),(4,(cD 4 x)),(9,D.int .i64 (((aY.2.bc++(cD 15 x).ak):List D).length:Int)),(10,D.int .i64 (ay 1 (cD 10 x).ab))]) ({aY.2 with bc:=(aY.2.bc++(cD 15 x).ak)}:RS)
      True))))∧(((cD 0 Cd).dT=false→
      (True)∧(
      let Mm:=(dL (D.agg [(cD 13 x),(cD 14 x)]))
      (((((((((aY.2.bc++(cD 15 x).ak):List D).length:Int) !=(cD 10 x).ab)||(decide ((cD 10 x).ab<1)))&&true)||(!Mm))=true→
       ((true=true→Ok ({aY.2 with bc:=(aY.2.bc++(cD 15 x).ak)}:RS) 1))∧(
       let OW:=aX (ah 46 cA [(0,D.int .i64 6),(2,(cD 1 x)),(4,(cD 4 x)),(9,D.int .i64 (((aY.2.bc++(cD 15 x).ak):List D).length:Int)),(10,D.int .i64 (ay 1 (cD 10 x).ab))]) ({aY.2 with bc:=(aY.2.bc++(cD 15 x).ak)}:RS)
       True)))∧(((((((((aY.2.bc++(cD 15 x).ak):List D).length:Int) !=(cD 10 x).ab)||(decide ((cD 10 x).ab<1)))&&true)||(!Mm))=false→
       (True)∧(
       let qt:=(du (D.agg [(cD 13 x),(cD 14 x)]))
       ((true=true→de aY.2.li aY.2.lt aY.2.le=true))∧(
       let It:=(fN aY.2.li aY.2.lt aY.2.le (cD 4 x).ab)
       ((((It.2==0)&&(It.1==(cD 5 x).ab))=true→
        ((true=true→de aY.2.li aY.2.lt aY.2.le=true))∧(
        let IA:=lu aY.2.li aY.2.lt aY.2.le (cD 4 x).ab
        (True)∧(
        let zK:=(qk (D.agg [(cD 4 x),(cD 5 x),(cD 0 qt),(cD 1 qt),D.list (aY.2.bc++(cD 15 x).ak)]))
        (True)∧(
        let Ix:=dQ ({aY.2 with gg:=(D.ptr [(cD 0 zK),(cD 1 zK),(cD 2 zK),(cD 3 zK),(cD 4 zK)]),iK:=(cD 4 x).ab,ff:=(cD 5 x).ab,sv:=(cD 0 qt).ak,sl:=(cD 1 qt).ak,au:=(aY.2.bc++(cD 15 x).ak),aJ:=(cD 4 x).ab,eL:=0,eM:=0,dh:=0,iB:=0,dg:=0,bc:=[],li:=IA.2.1,lt:=IA.2.2.1,le:=IA.2.2.2}:RS)
        ((true=true→Ok Ix 1))∧(
        let agc:=aX (ah 46 cA [(0,D.int .i64 6),(2,(cD 1 x)),(4,(cD 4 x))]) Ix
        True))))))∧((((It.2==0)&&(It.1==(cD 5 x).ab))=false→
        (True)∧(
        let zL:=(qk (D.agg [(cD 4 x),(cD 5 x),(cD 0 qt),(cD 1 qt),D.list (aY.2.bc++(cD 15 x).ak)]))
        (True)∧(
        let Iy:=dQ ({aY.2 with gg:=(D.ptr [(cD 0 zL),(cD 1 zL),(cD 2 zL),(cD 3 zL),(cD 4 zL)]),iK:=(cD 4 x).ab,ff:=(cD 5 x).ab,sv:=(cD 0 qt).ak,sl:=(cD 1 qt).ak,au:=(aY.2.bc++(cD 15 x).ak),aJ:=(cD 4 x).ab,eL:=0,eM:=0,dh:=0,iB:=0,dg:=0,bc:=[],li:=((cD 0 (cD 1 Cd)).ab),lt:=((cD 1 (cD 1 Cd)).ab),le:=((cD 2 (cD 1 Cd)).ak)}:RS)
        ((true=true→Ok Iy 1))∧(
        let agd:=aX (ah 46 cA [(0,D.int .i64 6),(2,(cD 1 x)),(4,(cD 4 x))]) Iy
        True))))))))))))))))∧((((((cD 9 x).ab==((aY.2.bc:List D).length:Int))&&(decide ((((cD 15 x).ak:List D).length:Int)≤(IntKind.i64.wrap ((cD 10 x).ab-((aY.2.bc:List D).length:Int))))))&&TS)=false→
     (True)∧(
     let Cf:=(iU (cD 4 x).ab (cD 5 x).ab)
     (((cD 0 Cf).dT=true→
      (True)∧(
      let Mo:=(dL (D.agg [(cD 13 x),(cD 14 x)]))
      ((true=true→Ok aY.2 1))∧(
      let OX:=aX (ah 46 cA [(0,D.int .i64 6),(2,(cD 1 x)),(4,(cD 4 x)),(9,D.int .i64 ((aY.2.bc:List D).length:Int)),(10,D.int .i64 (ay 1 (cD 10 x).ab))]) aY.2
      True))))∧(((cD 0 Cf).dT=false→
      (True)∧(
      let Mo:=(dL (D.agg [(cD 13 x),(cD 14 x)]))
      ((((((((aY.2.bc:List D).length:Int) !=(cD 10 x).ab)||(decide ((cD 10 x).ab<1)))&&true)||(!Mo))=true→
       ((true=true→Ok aY.2 1))∧(
       let OX:=aX (ah 46 cA [(0,D.int .i64 6),(2,(cD 1 x)),(4,(cD 4 x)),(9,D.int .i64 ((aY.2.bc:List D).length:Int)),(10,D.int .i64 (ay 1 (cD 10 x).ab))]) aY.2
       True)))∧((((((((aY.2.bc:List D).length:Int) !=(cD 10 x).ab)||(decide ((cD 10 x).ab<1)))&&true)||(!Mo))=false→
       (True)∧(
       let qv:=(du (D.agg [(cD 13 x),(cD 14 x)]))
       ((true=true→de aY.2.li aY.2.lt aY.2.le=true))∧(
       let lE:=(fN aY.2.li aY.2.lt aY.2.le (cD 4 x).ab)
       ((((lE.2==0)&&(lE.1==(cD 5 x).ab))=true→
        ((true=true→de aY.2.li aY.2.lt aY.2.le=true))∧(
        let IC:=lu aY.2.li aY.2.lt aY.2.le (cD 4 x).ab
        (True)∧(
        let zO:=(qk (D.agg [(cD 4 x),(cD 5 x),(cD 0 qv),(cD 1 qv),D.list aY.2.bc]))
        (True)∧(
        let Ua:=dQ ({aY.2 with gg:=(D.ptr [(cD 0 zO),(cD 1 zO),(cD 2 zO),(cD 3 zO),(cD 4 zO)]),iK:=(cD 4 x).ab,ff:=(cD 5 x).ab,sv:=(cD 0 qv).ak,sl:=(cD 1 qv).ak,au:=aY.2.bc,aJ:=(cD 4 x).ab,eL:=0,eM:=0,dh:=0,iB:=0,dg:=0,bc:=[],li:=IC.2.1,lt:=IC.2.2.1,le:=IC.2.2.2}:RS)
        ((true=true→Ok Ua 1))∧(
        let age:=aX (ah 46 cA [(0,D.int .i64 6),(2,(cD 1 x)),(4,(cD 4 x))]) Ua
        True))))))∧((((lE.2==0)&&(lE.1==(cD 5 x).ab))=false→
        (True)∧(
        let zP:=(qk (D.agg [(cD 4 x),(cD 5 x),(cD 0 qv),(cD 1 qv),D.list aY.2.bc]))
        (True)∧(
        let Ub:=dQ ({aY.2 with gg:=(D.ptr [(cD 0 zP),(cD 1 zP),(cD 2 zP),(cD 3 zP),(cD 4 zP)]),iK:=(cD 4 x).ab,ff:=(cD 5 x).ab,sv:=(cD 0 qv).ak,sl:=(cD 1 qv).ak,au:=aY.2.bc,aJ:=(cD 4 x).ab,eL:=0,eM:=0,dh:=0,iB:=0,dg:=0,bc:=[],li:=((cD 0 (cD 1 Cf)).ab),lt:=((cD 1 (cD 1 Cf)).ab),le:=((cD 2 (cD 1 Cf)).ak)}:RS)
        ((true=true→Ok Ub 1))∧(
        let agf:=aX (ah 46 cA [(0,D.int .i64 6),(2,(cD 1 x)),(4,(cD 4 x))]) Ub
        True)))))))))))))))))))))))
theorem U7(x:D)(s:RS)(hs:bV (.bQ cY) (encS s))(h:Ok s 2):agN x s:=by
 have h1:Ok (ik (ah 46 x []) s).2 2:=h.Lb
 have hp:(ik (ah 46 x []) s).2.bc.length≤140737488355328:=Nat.le_trans (HK _ s) (Nn hs)
 refine⟨trivial,?_⟩
 intro aY
 change Ok aY.2 2 at h1
 change aY.2.bc.length≤140737488355328 at hp
 clear_value aY
 have hr: ∀(p:Nat) (e:List D),p≤140737488355328→((e.length:Int)≤IntKind.wrap .i64 ((cD 10 x).ab-(p:Int)))→qc (cD 10 x).ab 1 1048576=true→p+e.length≤1048576:=by
  intro p e hp h2 h3
  simp only[qc,aw,aN]at h3
  rw[wrap64 (by omega) (by omega)]at h2
  omega
 have hA: ∀t:RS,yZ aY.2 t→Ok t 1:=fun t e=>(h1.same e).le (by omega)
 have hB: ∀(t:RS) (c:Int),(t.li,t.lt,t.le)=iW aY.2.li aY.2.lt aY.2.le c→dL (.agg [.list t.sv, .list t.sl])=true→(t.id=aY.2.id∧t.msgs=aY.2.msgs∧t.dt=aY.2.dt∧t.bq=aY.2.bq∧t.aE=aY.2.aE∧t.fv=aY.2.fv∧t.fl=aY.2.fl∧t.term=aY.2.term∧t.reads=aY.2.reads)→Ok (dQ t) 1:=fun t c e1 e2 e3=>bB.saved (h1.WD (by omega) e1 e2 e3)
 have hC: ∀(t:RS) (i n:Int),¬(cD 0 (iU i n)).dT=true→(t.li,t.lt,t.le)=((cD 0 (cD 1 (iU i n))).ab,(cD 1 (cD 1 (iU i n))).ab,(cD 2 (cD 1 (iU i n))).ak)→dL (.agg [.list t.sv, .list t.sl])=true→(t.id=aY.2.id∧t.msgs=aY.2.msgs∧t.dt=aY.2.dt∧t.bq=aY.2.bq∧t.aE=aY.2.aE∧t.fv=aY.2.fv∧t.fl=aY.2.fl∧t.term=aY.2.term∧t.reads=aY.2.reads)→Ok (dQ t) 1:=fun t i n e0 e1 e2 e3=>bB.saved (h1.WC (by omega) e0 e1 e2 e3)
 have hor: ∀a b:Bool,(a|| !b)=false→b=true:=by intro a b;cases a<;>cases b<;>simp
 (repeat' (first|exact trivial|apply And.intro|intro _))
 all_goals first
  |exact h1.may
  |(with_reducible exact h1.le (by omega))
  |(with_reducible refine hA _ ?_;exact⟨rfl,rfl,rfl,rfl,rfl,rfl,rfl,rfl,rfl,rfl,rfl,rfl,rfl,rfl⟩)
  |(refine hB _ (cD 4 x).ab ?_ ?_ ?_;exact rfl;exact hor _ _ ‹(_|| !_)=false›;exact⟨rfl,rfl,rfl,rfl,rfl,rfl,rfl,rfl,rfl⟩)
  |(refine hC _ (cD 4 x).ab (cD 5 x).ab ?_ ?_ ?_ ?_;exact(fun hh=>absurd (‹D.dT _=false›.symm.trans hh) (by decide));exact rfl;exact hor _ _ ‹(_|| !_)=false›;exact⟨rfl,rfl,rfl,rfl,rfl,rfl,rfl,rfl,rfl⟩)
  |(rename_i hz _
    simp only[aw,aN]at hz
    have hq:=hr 0 (cD 15 x).ak (by omega) hz.1.2 hz.2
    simp only[List.nil_append,maxLen]
    omega)
  |(rename_i hz _
    simp only[aw,aN]at hz
    have hq:=hr aY.2.bc.length (cD 15 x).ak hp hz.1.2 hz.2
    simp only[List.length_append,maxLen]
    omega)
theorem c47:ax Try.prog 47 s47 (pre 47) (aK 47):=by
 refine HF (given:=[(21,{drop:=[9000000010]})]) (et:=Lf) mix YD aro Try.func47 rfl (by kernel_rfl) (v:=afa) (by kernel_rfl) ?_
 intro ds h hp
 obtain⟨x,_,rfl,hx,h1⟩:=aa.1 h
 have hs:=h1
 obtain⟨s,rfl⟩:=dV h1
 refine VC.bH (Φ:=aK) (Pre:=pre) (dec:=na) (enc:=dF) (bad:=aW) (lp:=fun _ _ _=>aW) (y:=uR x s) bC (by kernel_rfl) (Eq.mpr (α:=VC.fH aK pre triv (VC.o9 aK pre dF (fun _ _ _=>aW) []) _ _) (β:=agN x s) (by kernel_rfl) (U7 x s hs hp)) (by kernel_rfl) (by kernel_rfl)
theorem Ym:gM Try.prog pre aK ZK:=aj c47 YD
def ag0(x:D)(s:RS):Prop:=
 (True)∧(
 let x76:=(qc (cD 1 x).ab 1 5)
 (True)∧(
 let n6:=(qc (cD 3 x).ab 1 1099511627776)
 (((decide ((((cD 12 x).ak:List D).length:Int)>0)==true)&&((decide ((cD 5 x).ab>(cD 3 x).ab)==false)&&true))=true→((decide (0≤(IntKind.i64.wrap ((((cD 12 x).ak:List D).length:Int)-1))))&&(decide ((IntKind.i64.wrap ((((cD 12 x).ak:List D).length:Int)-1))<(((cD 12 x).ak:List D).length:Int))))=true)∧(
 (True)∧(
 let Zs:=(cI (cD 12 x).ak)
 (True)∧(((((decide ((cD 5 x).ab>(cD 3 x).ab))||((decide ((((cD 12 x).ak:List D).length:Int)>0))&&(decide (((cD 1 (((cD 12 x).ak).getD ((IntKind.i64.wrap ((((cD 12 x).ak:List D).length:Int)-1)):Int).toNat .top)).ab)>(cD 3 x).ab))))||(!Zs))=false→
  (True)∧(((((!(((((cD 2 x).ab==s.id)&&((cD 1 x).ab !=s.id))&&x76)&&n6))||(decide ((cD 0 x).ab<1)))||(decide ((cD 0 x).ab>6)))=false→
   ((decide ((cD 3 x).ab>s.term)=true→
    (True)∧(
    let kW:=iE (cD 3 x).ab 0 s
    ((decide ((cD 3 x).ab<kW.term)=true→
     ((true=true→Ok kW 1))∧(
     let OZ:=gR (ah 46 x []) kW
     True)))∧((decide ((cD 3 x).ab<kW.term)=false→
     ((((cD 0 x).ab==1)=true→
      ((true=true→Ok kW 1))∧(
      let Gb:=uQ (ah 46 x []) kW
      True)))∧((((cD 0 x).ab==1)=false→
      ((((cD 0 x).ab==2)=true→
       ((true=true→Ok kW 15))∧(
       let zS:=pq (ah 46 x []) kW
       True)))∧((((cD 0 x).ab==2)=false→
       ((((cD 0 x).ab==3)=true→
        ((true=true→Ok kW (4+(cD 12 (ah 46 x [])).ak.length)∧(cD 12 (ah 46 x [])).ak.length≤2147483648∧cI (cD 12 (ah 46 x [])).ak=true))∧(
        let zR:=lW (ah 46 x []) kW
        True)))∧((((cD 0 x).ab==3)=false→
        ((((cD 0 x).ab==4)=true→
         ((true=true→Ok kW 4∧0≤(cD 1 (ah 46 x [])).ab∧(cD 1 (ah 46 x [])).ab≤5))∧(
         let zQ:=iF (ah 46 x []) kW
         True)))∧((((cD 0 x).ab==4)=false→
         ((((cD 0 x).ab==5)=true→
          ((true=true→Ok kW 2))∧(
          let Ga:=uR (ah 46 x []) kW
          True)))∧((((cD 0 x).ab==5)=false→
          ((((cD 0 x).ab==6)=true→
           ((true=true→Ok kW 4∧0≤(cD 1 (ah 46 x [])).ab∧(cD 1 (ah 46 x [])).ab≤5))∧(
           let OY:=jX (ah 46 x []) kW
           True)))∧(True))))))))))))))))∧((decide ((cD 3 x).ab>s.term)=false→
    ((decide ((cD 3 x).ab<s.term)=true→
     ((true=true→Ok s 1))∧(
     let agn:=gR (ah 46 x []) s
     True)))∧((decide ((cD 3 x).ab<s.term)=false→
     ((((cD 0 x).ab==1)=true→
      ((true=true→Ok s 1))∧(
      let OZ:=uQ (ah 46 x []) s
      True)))∧((((cD 0 x).ab==1)=false→
      ((((cD 0 x).ab==2)=true→
       ((true=true→Ok s 15))∧(
       let Gc:=pq (ah 46 x []) s
       True)))∧((((cD 0 x).ab==2)=false→
       ((((cD 0 x).ab==3)=true→
        ((true=true→Ok s (4+(cD 12 (ah 46 x [])).ak.length)∧(cD 12 (ah 46 x [])).ak.length≤2147483648∧cI (cD 12 (ah 46 x [])).ak=true))∧(
        let Gb:=lW (ah 46 x []) s
        True)))∧((((cD 0 x).ab==3)=false→
        ((((cD 0 x).ab==4)=true→
         ((true=true→Ok s 4∧0≤(cD 1 (ah 46 x [])).ab∧(cD 1 (ah 46 x [])).ab≤5))∧(
         let zS:=iF (ah 46 x []) s
         True)))∧((((cD 0 x).ab==4)=false→
         ((((cD 0 x).ab==5)=true→
          ((true=true→Ok s 2))∧(
          let zR:=uR (ah 46 x []) s
          True)))∧((((cD 0 x).ab==5)=false→
          ((((cD 0 x).ab==6)=true→
           ((true=true→Ok s 4∧0≤(cD 1 (ah 46 x [])).ab∧(cD 1 (ah 46 x [])).ab≤5))∧(
           let zQ:=jX (ah 46 x []) s
           True)))∧(True)))))))))))))))))))))))
theorem Vk(x:D)(s:RS)(hs:bV (.bQ cY) (encS s))(h:Ok s (20+(cD 12 x).ak.length)∧(cD 12 x).ak.length≤2147483648):ag0 x s:=by
 obtain⟨h,hn⟩:=h
 refine⟨trivial,trivial,fun hc=> ?_,trivial,trivial,fun hq1=>⟨trivial,fun Y7=> ?_⟩⟩
 ·simp only[aw,beq_iff_eq,aN]at hc
  have hl:0<(cD 12 x).ak.length:=by have:=hc.1;omega
  show(decide (0≤IntKind.wrap .i64 (((cD 12 x).ak.length:Int)-1))&&decide (IntKind.wrap .i64 (((cD 12 x).ak.length:Int)-1)<((cD 12 x).ak.length:Int)))=true
  rw[wrap64 (by omega) (by omega),aw,aN,aN]
  omega
 have pe:cI (cD 12 x).ak=true:=vH (by rw[hq1];simp)
 have gY:qc (cD 1 x).ab 1 5=true∧qc (cD 3 x).ab 1 1099511627776=true:=by
  simp only[Bool.or_eq_false_iff,Bool.not_eq_false',aw]at Y7
  exact⟨Y7.1.1.1.2,Y7.1.1.2⟩
 obtain⟨Wg,KJ⟩:=gY
 simp only[qc,aw,aN]at Wg KJ
 have hf:Ok (iE (cD 3 x).ab 0 s) (20+(cD 12 x).ak.length):=h.follow (by omega) KJ.2
 have h0:0≤(cD 1 (ah 46 x [])).ab:=by show 0≤(cD 1 x).ab;omega
 have h5:(cD 1 (ah 46 x [])).ab≤5:=Wg.2
 have e12:(cD 12 (ah 46 x [])).ak=(cD 12 x).ak:=rfl
 have hA: ∀(j:Nat),j≤20+(cD 12 x).ak.length→Ok (iE (cD 3 x).ab 0 s) j:=fun j hj=>hf.le hj
 have hB: ∀(j:Nat),j≤20+(cD 12 x).ak.length→Ok s j:=fun j hj=>h.le hj
 (repeat' (first|exact trivial|apply And.intro|intro _))
 all_goals first
  |exact h0
  |exact h5
  |exact hn
  |exact pe
  |exact hB _ (by first|omega|(rw[e12];omega))
  |exact hA _ (by first|omega|(rw[e12];omega))
theorem c17:ax Try.prog 17 s17 (pre 17) (aK 17):=by
 refine bz (given:=[]) mix Ym Try.func17 rfl (by kernel_rfl) (v:=afs) (by kernel_rfl) ?_
 intro ds h hp
 obtain⟨x,_,rfl,hx,h1⟩:=aa.1 h
 have hs:=h1
 obtain⟨s,rfl⟩:=dV h1
 refine VC.bH (Φ:=aK) (Pre:=pre) (dec:=UD) (enc:=zZ) (bad:=(.top,aW)) (lp:=fun _ _ _=>(.top,aW)) (y:=eD x s) bC (by kernel_rfl) (Eq.mpr (α:=VC.fH aK pre triv (VC.o9 aK pre zZ (fun _ _ _=>(.top,aW)) []) _ _) (β:=ag0 x s) (by kernel_rfl) (Vk x s hs hp)) (by kernel_rfl) (by kernel_rfl)
theorem akV:gM Try.prog pre aK af4:=aj c17 Ym
def ag1(x:Int)(s:RS):Prop:=
 (((s.role==2)=true→
  ((decide ((IntKind.i64.wrap (s.wait+1))≥2)=true→
   ((true=true→Ok ({s with wait:=0}:RS) 0))∧(
   let L0:=(cH ({s with wait:=0}:RS))
   ((true=true→Ok ({s with wait:=0}:RS) 0∧dL (ah 2 L0 [])=true))∧(
   let n6:=(eO (ah 2 L0 []) ({s with wait:=0}:RS))
   VC.o9 aK pre zZ (fun _ _ l=>mQ n6 (l.getD 0 .top).ab (oD (l.drop 1))) [] (VC.lp 84 ZB) (dp (dp (fun i=>([D.int .i64 x] ++encS s).getD i .top) 80 (L0)) 81 (D.list n6))))))∧(True)))∧(((s.role==2)=false→
  (((s.end_==0)=true→
   ((decide (x<0)=true→
    (true=true→(10 !=0)=true)∧(
    ((decide ((IntKind.i64.wrap (s.wait+1))≥(IntKind.i64.wrap (10+((IntKind.i64.wrap (0-(IntKind.i64.wrap (x+1)))).tmod 10))))=true→
     (True)∧(
     let uC:=lO ({s with wait:=(IntKind.i64.wrap (s.wait+1)),end_:=(IntKind.i64.wrap (10+((IntKind.i64.wrap (0-(IntKind.i64.wrap (x+1)))).tmod 10)))}:RS)
     ((true=true→Ok uC 0))∧(
     let V0:=(cH uC)
     (True)∧(
     let Zt:=(lI (ah 2 V0 []) uC.id)
     (((Zt&&(decide (uC.term<1099511627776)))=true→
      ((true=true→Ok uC 14∧dL (ah 2 V0 [])=true∧uC.term<MX))∧(
      let gk:=mM (ah 2 V0 []) uC
      True)))∧(True))))))∧(True))))∧((decide (x<0)=false→
    (true=true→(10 !=0)=true)∧(
    ((decide ((IntKind.i64.wrap (s.wait+1))≥(IntKind.i64.wrap (10+(x.tmod 10))))=true→
     (True)∧(
     let HY:=lO ({s with wait:=(IntKind.i64.wrap (s.wait+1)),end_:=(IntKind.i64.wrap (10+(x.tmod 10)))}:RS)
     ((true=true→Ok HY 0))∧(
     let x95:=(cH HY)
     (True)∧(
     let Zu:=(lI (ah 2 x95 []) HY.id)
     (((Zu&&(decide (HY.term<1099511627776)))=true→
      ((true=true→Ok HY 14∧dL (ah 2 x95 [])=true∧HY.term<MX))∧(
      let agu:=mM (ah 2 x95 []) HY
      True)))∧(True))))))∧(True))))))∧(((s.end_==0)=false→
   ((decide ((IntKind.i64.wrap (s.wait+1))≥s.end_)=true→
    (True)∧(
    let DJ:=lO ({s with wait:=(IntKind.i64.wrap (s.wait+1))}:RS)
    ((true=true→Ok DJ 0))∧(
    let uq:=(cH DJ)
    (True)∧(
    let x94:=(lI (ah 2 uq []) DJ.id)
    (((x94&&(decide (DJ.term<1099511627776)))=true→
     ((true=true→Ok DJ 14∧dL (ah 2 uq [])=true∧DJ.term<MX))∧(
     let agw:=mM (ah 2 uq []) DJ
     True)))∧(True))))))∧(True)))))
def ajM(n6:List D)(i84:Int)(t84:RS):Prop:=
 ((decide (i84<((n6:List D).length:Int))=true→
  (true=true→((decide (0≤i84))&&(decide (i84<((n6:List D).length:Int))))=true)∧(
  ((true=true→Ok t84 1∧(0:Int)≤((((n6).getD (i84:Int).toNat .top)).ab)∧(((((n6).getD (i84:Int).toNat .top)).ab):Int)≤5))∧(
  let ago:=cq ((((n6).getD (i84:Int).toNat .top)).ab) t84
  True))))∧(True)
theorem Vl(x:Int)(s:RS)(hx:kr .i64 x)(hs:bV (.bQ cY) (encS s))(h:Ok s 20):ag1 x s:=by
 have hS:Ok ({s with wait:=0}:RS) 20:=h.same ⟨rfl,rfl,rfl,rfl,rfl,rfl,rfl,rfl,rfl,rfl,rfl,rfl,rfl,rfl⟩
 refine⟨fun _=>⟨fun _=>⟨fun _=>hS.le (by omega),?_⟩,trivial⟩,fun _=> ?_⟩
 ·intro L0
  have h80:dL (ah 2 L0 [])=true:=jt hS
  clear_value L0
  refine⟨fun _=>⟨hS.le (by omega),h80⟩,?_⟩
  intro n6
  have ahj:=jn (c:=ah 2 L0 []) (s:={s with wait:=0}) h80
  change n6.length≤10∧ ∀y∈n6,1≤y.ab∧y.ab≤5 at ahj
  clear_value n6
  obtain⟨hl,hr⟩:=ahj
  have hg: ∀i:Int,0≤i→i<n6.length→1≤(n6.getD i.toNat .top).ab∧(n6.getD i.toNat .top).ab≤5:=by
   intro i h0 h1
   have eX:i.toNat<n6.length:=by omega
   rw[List.getD_eq_getElem?_getD,av eX]
   exact hr _ (List.getElem_mem eX)
  refine VC.iH 84 (by kernel_rfl) ?_
  refine VC.fB (Φ:=aK) (Pre:=pre) (triv:=triv) (v0:=84) (decL:=fun l=>((l.getD 0 .top).ab,oD (l.drop 1))) (encL:=fun a:Int×RS=>([D.int .i64 a.1] ++MN a.2)) (dec:=UD) (enc:=zZ) (lp:=fun _ _ _ _=>(.top,aW)) (bad:= .inr (.top,aW)) (bd:=(.top,aW)) (by kernel_rfl) (fun a:Int×RS=>AP n6 a.1 a.2) (fun a:Int×RS=>0≤a.1∧a.1≤n6.length∧Ok a.2 (1+(10-a.1.toNat))) (fun a:Int×RS=>GZ n6 a.1 a.2) (0,{s with wait:=0}) bC (by kernel_rfl) ?YX (fun a=>rfl) ?SU (by kernel_rfl) (fun a ha=>by kernel_rfl) (fun a=>by kernel_rfl) (fun a=>by kernel_rfl) (fun a ha fV=>Eq.mpr (α:=VC.fH aK pre triv (VC.yQ aK pre zZ (fun _ _ _=>(.top,aW)) []) _ _) (β:=ajM n6 a.1 a.2) (by kernel_rfl) ?Cm) (by kernel_rfl)
  ·exact⟨Int.le_refl 0,Int.natCast_nonneg _,hS.le (by show 1+(10-0)≤_;omega)⟩
  ·rintro⟨i,t⟩ ⟨h1,h2,h3⟩
   simp only at h1 h2 h3
   unfold AP
   by_cases aL:decide (i<(n6.length:Int))=true
   ·rw[if_pos aL]
    rw[aN]at aL
    have hw:IntKind.wrap .i64 (i+1)=i+1:=wrap64 (by omega) (by omega)
    dsimp only
    rw[hw]
    obtain⟨g1,g5⟩:=hg i h1 aL
    refine⟨⟨by show 0≤i+1;omega,by show i+1≤_;omega,?_⟩,by show n6.length-(i+1).toNat<n6.length-i.toNat;omega⟩
    exact bB.Ms (h3.le (by show 1+(10-(i+1).toNat)+1≤_;omega)) (by omega) g5
   ·rw[if_neg aL];trivial
  ·obtain⟨i,t⟩:=a
   obtain⟨h1,h2,h3⟩:=ha
   simp only at h1 h2 h3
   refine⟨fun aL=> ?_,trivial⟩
   rw[aN]at aL
   obtain⟨g1,g5⟩:=hg i h1 aL
   refine⟨fun _=> ?_,fun _=>⟨h3.le (by omega),by show 0≤(n6.getD i.toNat .top).ab;omega,g5⟩,trivial⟩
   rw[aw,aN,aN]
   exact⟨h1,aL⟩
 ·(repeat' (first|exact trivial|apply And.intro|intro _))
  all_goals first
   |rfl
   |(refine bB.alike h (by omega) ?_;exact⟨rfl,rfl,rfl,rfl,rfl,rfl,rfl,rfl,rfl,rfl,rfl,rfl,rfl,rfl⟩)
   |(refine jt (k:=20) (bB.alike h (by omega) ?_);exact⟨rfl,rfl,rfl,rfl,rfl,rfl,rfl,rfl,rfl,rfl,rfl,rfl,rfl,rfl⟩)
   |(rename_i hz _;simp only[aw,aN]at hz;exact hz.2)
theorem c15:ax Try.prog 15 s15 (pre 15) (aK 15):=by
 refine bz (given:=[(6,{boxes:=Cu})]) mix akV Try.func15 rfl (by kernel_rfl) (v:=ZB) (by kernel_rfl) ?_
 intro ds h hp
 obtain⟨_,_,rfl,⟨x,rfl,hx⟩,h1⟩:=aa.1 h
 have hs:=h1
 obtain⟨s,rfl⟩:=dV h1
 refine VC.bH (Φ:=aK) (Pre:=pre) (dec:=UD) (enc:=zZ) (bad:=(.top,aW)) (lp:=fun _ _ l=>(let L0:=(cH ({s with wait:=0}:RS));let n6:=(eO (ah 2 L0 []) ({s with wait:=0}:RS));mQ n6 (l.getD 0 .top).ab (oD (l.drop 1)))) (y:=js x s) bC (by kernel_rfl) (Eq.mpr (α:=VC.fH aK pre triv (VC.o9 aK pre zZ (fun _ _ l=>(let L0:=(cH ({s with wait:=0}:RS));let n6:=(eO (ah 2 L0 []) ({s with wait:=0}:RS));mQ n6 (l.getD 0 .top).ab (oD (l.drop 1)))) []) _ _) (β:=ag1 x s) (by kernel_rfl) (Vl x s hx hs hp)) (by kernel_rfl) (by kernel_rfl)
theorem RT{ex:Bool}{w:World}{S S2:aO}{T:TypeId}{t:Ty}{v:Value}{d:D}(h:tS ex w 0 S T t v d)(hS: ∀b o,S b o→S2 b o)(hb: ∀b,v.ownBlock=some b→ ∀o,S2 b o):bj w S2 v d:=by
 obtain⟨xs,l,rfl,bw,_,hr⟩:=h.own
 rcases bw.2 with⟨rfl,hn⟩|⟨g,cap,cur,rfl,_,hg,gN,H6,gS,FZ⟩
 ·have:l=[] :=List.eq_nil_of_length_eq_zero hn
  subst this
  exact .nil _ _
 ·by_cases dH:l=[]
  ·subst dH;exact .nil _ _
  ·obtain⟨l',ks,_,eI⟩:=aD.1 h.has
   injection ks with ks;subst ks
   refine .list g 0 cap t.cells.length xs l h.sz dH gN bw.1 (fun i hi=>hb g rfl _) ?_ ?_ ?_
   ·intro i u hu
    have:=bw.cells (g:=g) rfl i u hu
    rw[dD,Nat.zero_add]at this
    rw[Nat.zero_add];exact this
   ·intro i d hd
    exact(bp (eI d (aS hd))).1
   ·intro i d j u c hd hc hu
    exact(hr i d j u c hd hc hu).keep hS (fun _ _ _=>rfl)
theorem uk{w:World}{S S2:aO}{τ:Nat→Value}{r:aA}{v:Value}{d:D}(h:im w 0 S τ r v d)(hS: ∀b o,S b o→S2 b o)(hb: ∀j T,r.2=some (j,T)→ ∀b,(τ j).ownBlock=some b→ ∀o,S2 b o):bj w S2 v d:=by
 obtain⟨t,ro⟩:=r
 cases ro with
 |none=>exact h.1.keep hS (fun _ _ _=>rfl)
 |some jT=>
  obtain⟨j,T⟩:=jT
  obtain⟨rfl,hO⟩:=h
  exact RT hO hS (hb j T rfl)
theorem BA{w:World}{S:aO}{τ:Nat→Value}{r:aA}{v:Value}{d:D}(h:im w 0 S τ r v d):Has (Gd r) d:=by
 obtain⟨t,ro⟩:=r
 cases ro with
 |none=>exact h.2
 |some jT=>
  obtain⟨j,T⟩:=jT
  exact h.2.has
theorem r9{w:World}{S:aO}{τ:Nat→Value}{rc:List aA}{b:Nat}{cells:List D}(h:C4 w S τ rc b cells):cells.length=rc.length∧bV (.bQ (rc.map Gd)) cells:=by
 obtain⟨fW,T,_,h2,h3,h4,_⟩:=h
 refine⟨h3,fK (by rw[List.length_map];exact h3) ?_⟩
 intro j u x hu hx
 rw[List.getElem?_map,br]at hu
 obtain⟨r,hr,rfl⟩:=hu
 have hj:j<fW.length:=by rw[h2];exact(ai.1 hr).1
 exact BA (h4 j r (fW[j]'hj) x hr (av _) hx)
theorem Hl: ∀{a b:List Ty} {x y:List D},x.length=a.length→bV (.bQ a) x→bV (.bQ b) y→bV (.bQ (a++b)) (x++y)
 | [],b,x,y,hl,_,h2=>by
  have:x=[] :=List.eq_nil_of_length_eq_zero hl
  subst this;exact h2
 |t::a,b,x,y,hl,h1,h2=>by
  obtain⟨u,r,rfl,h3,h4⟩:=aa.1 h1
  exact aa.2 ⟨u,r++y,rfl,h3,Hl (by simpa using hl) h4 h2⟩
section
variable{w w':World}{S S':aO}{ow aT:Ow}{l b:Nat}{s:RS}
theorem j5(h:hZ w S ow l (bP 0) b [cR s,cL s]):bV (.bQ cY) (encS s):=by
 obtain⟨β,τ,_,gY,_⟩:=h
 obtain⟨h1,h2⟩:=r9 (gY.ba 0 kg (cR s) rfl rfl)
 obtain⟨h3,h4⟩:=r9 (gY.ba 1 gn (cL s) rfl rfl)
 exact Hl (by rw[List.length_map];exact h1) h2 h4
theorem Ns(h:hZ w S ow l (bP 0) b [cR s,cL s])(S2:aO)(hS: ∀b o,S b o→S2 b o)(hl: ∀b o,ow b=some l→S2 b o):bj w S2 (.pointer (some ⟨b,0,none⟩)) (Eb s)∧Has tj (Eb s):=by
 obtain⟨β,τ,hb,gY,uw⟩:=h
 obtain⟨v0,T0,a1,a2,a3,a4,a5⟩:=gY.ba 0 kg (cR s) rfl rfl
 obtain⟨v1,T1,b1,b2,b3,b4,b5⟩:=gY.ba 1 gn (cL s) rfl rfl
 have Oe:ow (β 0)=some l:=uw _ (.inl ⟨0,by decide,rfl⟩)
 have hm1:ow (β 1)=some l:=uw _ (.inl ⟨1,by decide,rfl⟩)
 have bw: ∀(o:Nat) (rc:List aA),(bP 0).ba[o]? =some rc→ ∀(i:Nat) (r:aA),rc[i]? =some r→ ∀j T,r.2=some (j,T)→ ∀b,(τ j).ownBlock=some b→ ∀o,S2 b o:=by
  intro o rc ho i r hr j T hj b' fu o'
  exact hl b' o' (uw b' (.inr ⟨j,List.mem_flatMap.2 ⟨rc,aS ho,List.mem_filterMap.2 ⟨r,aS hr,by rw[hj];rfl⟩⟩,fu⟩))
 have aqQ:bj w S2 (.pointer (some ⟨β 1,0,none⟩)) (.ptr (cL s)):=by
  refine .ptr (β 1) v1 (cL s) (by rw[b2,b3]) (fun i _=>hl _ i hm1) (fun i v hv=>gK b1 hv) ?_
  intro i v d hv hd
  have hi:i<gn.length:=by rw[←b2];exact(ai.1 hv).1
  have hr:gn[i]? =some (gn[i]'hi):=av _
  exact uk (b4 i _ v d hr hv hd) hS (bw 1 gn rfl i _ hr)
 have ahX:Eb s= .ptr ((cR s).set 13 (.ptr (cL s))):=rfl
 have hlen:(cR s).length=v0.length:=by rw[a2];exact a3
 constructor
 ·rw[ahX,←hb]
  refine .ptr (β 0) v0 _ (by rw[List.length_set];exact hlen.symm) (fun i _=>hl _ i Oe) (fun i v hv=>gK a1 hv) ?_
  intro i v d hv hd
  have hi:i<kg.length:=by rw[←a2];exact(ai.1 hv).1
  rw[List.getElem?_set]at hd
  by_cases Ol:13=i
  ·subst Ol
   rw[if_pos rfl,if_pos (by rw[a3];exact hi)]at hd
   injection hd with hd
   subst hd
   have Ii:=gY.link (by decide) 0 13 kg rfl rfl
   rw[gK a1 hv]at Ii
   injection Ii with Ii
   subst Ii
   exact aqQ
  ·rw[if_neg Ol]at hd
   have hr:kg[i]? =some (kg[i]'hi):=av _
   exact uk (a4 i _ v d hr hv hd) hS (bw 0 kg rfl i _ hr)
 ·rw[ahX]
  refine fA.2 ⟨_,rfl,fK (by rw[List.length_set,a3,List.length_map]) ?_⟩
  intro j u x hu hx
  rw[List.getElem?_map,br]at hu
  obtain⟨r,hr,rfl⟩:=hu
  rw[List.getElem?_set]at hx
  by_cases Ol:13=j
  ·subst Ol
   rw[if_pos rfl,if_pos (by rw[a3];decide)]at hx
   injection hx with hx
   subst hx
   have FO:r=KC:=by
    have:kg[13]? =some KC:=rfl
    rw[this]at hr;injection hr with hr;exact hr.symm
   subst FO
   rw[if_pos rfl]
   refine fA.2 ⟨_,rfl,?_⟩
   exact(r9 (gY.ba 1 gn (cL s) rfl rfl)).2
  ·rw[if_neg Ol]at hx
   have hj:j<v0.length:=by rw[a2];exact(ai.1 hr).1
   have hc:=a4 j r (v0[j]'hj) x hr (av _) hx
   by_cases Ii:r=KC
   ·exfalso
    subst Ii
    have hj2:=(ai.1 hr).1
    have hj3:j<51:=hj2
    have eI:((List.range 51).all fun j=>j==13|| !(kg[j]? ==some KC))=true:=by decide+kernel
    have:=aV.1 eI j (List.mem_range.2 hj3)
    rw[hr]at this
    simp only[beq_self_eq_true,Bool.not_true,Bool.or_false,beq_iff_eq]at this
    exact Ol this.symm
   ·rw[if_neg Ii];exact BA hc
theorem nD(h:hZ w S ow l (bP 0) b [cR s,cL s])(hw:Wf w S ow)(bM:Ok s 0):
  Calls Try.prog 12 #[.pointer (some ⟨b,0,none⟩)] w fun e w'=> ∃A1 n1 c1 A2 n2 c2,e= .returned (.agg [.int .i64 s.role, .int .i64 s.aI, .int .i64 s.term, .int .i64 s.vote, .int .i64 s.aJ, .int .i64 (s.li+s.le.length), .int .i64 s.li, .slice A1 n1 c1, .slice A2 n2 c2].toArray)∧
   n1=(vo (cH s)).length∧aC ae ae w S ow w' S ow∧Wf w' S ow:=by
 obtain⟨hr,hh⟩:=Ns h (fun b o=>S b o∨ow b=some l) (fun _ _ h=> .inl h) (fun _ _ h=> .inr h)
 refine(c12.calls rfl w (fun b o=>S b o∨ow b=some l) [.pointer (some ⟨b,0,none⟩)] [Eb s] (fun b o hs=>hs.elim (hw.s b o) (hw.o b l)) rfl ?_ (aa.2 ⟨_,_,rfl,hh,bE.2 rfl⟩) bM).mono ?_
 ·intro i v d hv hd
  match i,hv,hd with
  |0,hv,hd=>injection hv with hv;injection hd with hd;subst hv hd;exact hr
 ·rintro e w1 ⟨v,S',τ,rfl,hb,_,_,_,cw,_⟩
  have mj:aC ae ae w S ow w1 S ow∧Wf w1 S ow:=⟨⟨hb.size,hb.os,hb.tape,hb.output,fun b _ fu _ _=>hb.block b fu,fun b fu _ _=>hb.block b fu,fun _ _ h=>h,fun b o hs=>World.cell?_of_block (hb.block b (hw.s b o hs)),fun _ _ h _=>h,fun _ _ h=> .inl h,fun _ _ h=>h,fun _ _ h=> .inl h⟩,
   ⟨fun b o hs=>Nat.lt_of_lt_of_le (hw.s b o hs) hb.size,fun b l hl=>Nat.lt_of_lt_of_le (hw.o b l hl) hb.size,hw.d⟩⟩
  rcases cw with⟨c,hc,hq⟩|⟨hc,_⟩
  ·injection hc with hc
   subst hc
   unfold ep at hq
   rw[if_pos rfl]at hq
   obtain⟨us,ds,rfl,hd,zi,qo,cB⟩:=hq
   have oa:ds=[D.int .i64 s.role, .int .i64 s.aI, .int .i64 s.term, .int .i64 s.vote, .int .i64 s.aJ, .int .i64 (s.li+s.le.length), .int .i64 s.li,cD 0 (cH s),cD 1 (cH s)] :=by
    have e:aK 12 [Eb s] = .agg [D.int .i64 s.role, .int .i64 s.aI, .int .i64 s.term, .int .i64 s.vote, .int .i64 s.aJ, .int .i64 (s.li+s.le.length), .int .i64 s.li,cD 0 (cH s),cD 1 (cH s)] :=rfl
    rw[e]at hd
    injection hd with hd
    exact hd.symm
   subst oa
   have aqq:us.length=9:=zi
   match us,aqq with
   | [u0,u1,u2,u3,u4,u5,u6,u7,u8],_=>
    have g0:=(cB 0 _ _ _ rfl rfl rfl).1.bD
    have g1:=(cB 1 _ _ _ rfl rfl rfl).1.bD
    have g2:=(cB 2 _ _ _ rfl rfl rfl).1.bD
    have g3:=(cB 3 _ _ _ rfl rfl rfl).1.bD
    have g4:=(cB 4 _ _ _ rfl rfl rfl).1.bD
    have g5:=(cB 5 _ _ _ rfl rfl rfl).1.bD
    have g6:=(cB 6 _ _ _ rfl rfl rfl).1.bD
    subst g0 g1 g2 g3 g4 g5 g6
    obtain⟨rfl,h7⟩:=cB 7 _ _ _ rfl rfl rfl
    obtain⟨rfl,h8⟩:=cB 8 _ _ _ rfl rfl rfl
    obtain⟨x7,l7,e7,o7,_⟩:=h7.own
    obtain⟨x8,l8,e8,o8,_⟩:=h8.own
    have hv: ∀{v:Value} {n:Nat} {xs:List Value},w1.ownsRow 0 3 1 v n xs→ ∃A c,v= .slice A n c:=by
     intro v n xs ho
     rcases ho.2 with⟨rfl,hn⟩|⟨g,cap,cur,rfl,_⟩
     ·exact⟨none,0,by rw[hn]⟩
     ·exact⟨_,cap,rfl⟩
    obtain⟨A1,q1,i1⟩:=hv o7
    obtain⟨A2,q2,i2⟩:=hv o8
    refine⟨A1,l7.length,q1,A2,l8.length,q2,by rw[i1,i2],?_,mj⟩
    have:(cD 0 (cH s)).ak=l7:=by rw[e7];rfl
    unfold vo fP
    rw[List.length_map]
    rw[←this]
    rfl
  ·exact absurd rfl hc
theorem zq{τ:Nat→Value}{v:Value}{d:D}{ts:List Ty}(h:eN w 0 S τ [(true,pl ts)] v d):bj w S v d∧Has (.agg (.bQ ts)) d:=by
 rcases h with⟨c,hc,hq⟩|⟨hc,_⟩
 ·injection hc with hc
  subst hc
  unfold ep at hq
  rw[if_pos rfl]at hq
  obtain⟨us,ds,rfl,rfl,zi,qo,cB⟩:=hq
  have gz: ∀(i:Nat) u y,us[i]? =some u→ds[i]? =some y→ ∃t,ts[i]? =some t∧bj w S u y∧Has t y:=by
   intro i u y hu hy
   have hi:i<ts.length:=by have:=(ai.1 hu).1;rw[zi]at this;simpa [pl]using this
   have hr:(pl ts)[i]? =some (ts[i]'hi,none):=by simp[pl,av hi]
   exact⟨ts[i]'hi,av hi,cB i _ u y hr hu hy⟩
  refine⟨.agg us ds (by rw[zi];exact qo.symm) (fun i u y hu hy=>(gz i u y hu hy).choose_spec.2.1),cu.2 ⟨ds,rfl,fK (by rw[qo];simp[pl]) ?_⟩⟩
  intro j t x ht hx
  have hj:j<us.length:=by have:=(ai.1 hx).1;rw[zi,←qo];exact this
  obtain⟨t',h1,_,h2⟩:=gz j (us[j]'hj) x (av _) hx
  rw[ht]at h1;injection h1 with h1;subst h1;exact h2
 ·exact absurd rfl hc
def ap5:List Ty:=[.bool,I6,I6, .list cX, .ptr (.bQ xT), .list hY, .list cX, .list Ak]
def IE:Ty:= .agg (.bQ ap5)
theorem C6{x:Int}(h:hZ w S ow l (bP 0) b [cR s,cL s])(hw:Wf w S ow)(om:1000≤l)(hx:kr .i64 x)(bM:Ok s 20):
  Calls Try.prog 15 #[.pointer (some ⟨b,0,none⟩), .int .i64 x] w fun e w'=> ∃v S' aT,e= .returned v∧aC (bJ l) ae w S ow w' S' aT∧Wf w' S' aT∧hZ w' S' aT l (bP 0) b [cR (js x s).2,cL (js x s).2] ∧bj w' S' v (js x s).1∧Has IE (js x s).1:=by
 have fV:bV (.bQ s15.params) ([D.int .i64 x] ++[cR s,cL s].flatten):=aa.2 ⟨_,_,rfl,⟨x,rfl,hx⟩,j5 h⟩
 refine(h.call (ob0:=bP 0) (vs:=[.int .i64 x]) (n:=1) c15 rfl rfl rfl rfl rfl rfl (by decide) (.inl (by decide)) rfl om hw rfl rfl ?_ fV bM).mono ?_
 ·intro i v d hv hd
  match i,hv,hd with
  |0,hv,hd=>injection hv with hv;injection hd with hd;subst hv hd;exact .int _ _
 ·rintro e w1 ⟨v,S',aT,τ,d0,outs,rfl,qi,lQ,mj,gX,dw,cw⟩
  have e:aK 15 ([D.int .i64 x] ++[cR s,cL s].flatten)= .cW [(js x s).1, .agg (cR (js x s).2), .agg (cL (js x s).2)] :=rfl
  rw[e]at qi
  injection qi with qi
  have aaE:outs.length=2:=lQ
  match outs,aaE with
  | [o1,o2],_=>
   simp only[List.map_cons,List.map_nil,List.cons.injEq,D.agg.injEq,and_true]at qi
   obtain⟨rfl,rfl,rfl⟩:=qi
   exact⟨v,S',aT,rfl,mj,gX,dw,(zq cw).1,(zq cw).2⟩
theorem xn{x:D}{u:Value}(h:hZ w S ow l (bP 0) b [cR s,cL s])(hw:Wf w S ow)(om:1000≤l)(hx:Has hY x)(hr:bj w S u x)(bM:Ok s (20+(cD 12 x).ak.length))(hlen:(cD 12 x).ak.length≤2147483648):
  Calls Try.prog 17 #[.pointer (some ⟨b,0,none⟩),u] w fun e w'=> ∃v S' aT,e= .returned v∧aC (bJ l) ae w S ow w' S' aT∧Wf w' S' aT∧hZ w' S' aT l (bP 0) b [cR (eD x s).2,cL (eD x s).2] ∧bj w' S' v (eD x s).1∧Has IE (eD x s).1:=by
 have fV:bV (.bQ s17.params) ([x] ++[cR s,cL s].flatten):=aa.2 ⟨_,_,rfl,hx,j5 h⟩
 refine(h.call (ob0:=bP 0) (vs:=[u]) (n:=1) c17 rfl rfl rfl rfl rfl rfl (by decide) (.inl (by decide)) rfl om hw rfl rfl ?_ fV ⟨bM,hlen⟩).mono ?_
 ·intro i v d hv hd
  match i,hv,hd with
  |0,hv,hd=>injection hv with hv;injection hd with hd;subst hv hd;exact hr
 ·rintro e w1 ⟨v,S',aT,τ,d0,outs,rfl,qi,lQ,mj,gX,dw,cw⟩
  have e:aK 17 ([x] ++[cR s,cL s].flatten)= .cW [(eD x s).1, .agg (cR (eD x s).2), .agg (cL (eD x s).2)] :=rfl
  rw[e]at qi
  injection qi with qi
  have aaE:outs.length=2:=lQ
  match outs,aaE with
  | [o1,o2],_=>
   simp only[List.map_cons,List.map_nil,List.cons.injEq,D.agg.injEq,and_true]at qi
   obtain⟨rfl,rfl,rfl⟩:=qi
   exact⟨v,S',aT,rfl,mj,gX,dw,(zq cw).1,(zq cw).2⟩
end
noncomputable section
def an(i:Nat)(f:Func):=Aj i (fy f)
abbrev oM(d x:Nat)(g:Option (Nat×Bool):=none):OK:=(some d, .move (.tmp x),g)
abbrev oA(d x:Nat)(g:Option (Nat×Bool):=none):OK:=(some d, .assign (.tmp x),g)
abbrev oN(d x:Nat)(g:Option (Nat×Bool):=none):OK:=(some d, .nilCheck (.tmp x),g)
abbrev oF(d t x i:Nat)(g:Option (Nat×Bool):=none):OK:=(some d, .fieldAddr t (.tmp x) i,g)
abbrev oL(d t x:Nat)(g:Option (Nat×Bool):=none):OK:=(some d, .load t (.tmp x),g)
abbrev oI(d t x y:Nat)(g:Option (Nat×Bool):=none):OK:=(some d, .indexAddr t (.tmp x) (.tmp y),g)
abbrev oC(d f:Nat)(a:Array Operand)(t:Array Nat)(g:Option (Nat×Bool):=none):OK:=(some d, .call {callee:= .value (.func f),args:=a,argTypes:=t},g)
abbrev oE(d x t:Nat)(g:Option (Nat×Bool):=none):OK:=(some d, .call {callee:= .builtin .len,args:=#[.tmp x],argTypes:=#[t]},g)
abbrev oP(d x y:Nat)(b:Bool)(g:Option (Nat×Bool):=none):OK:=(some d, .pick (.tmp x) (.tmp y) (.const (.bool b)),g)
abbrev oB(d:Nat)(o:BinOp)(t x y:Nat)(g:Option (Nat×Bool):=none):OK:=(some d, .binOp o t (.tmp x) (.tmp y) t,g)
abbrev oS(t x y:Nat)(g:Option (Nat×Bool):=none):OK:=(none, .store t (.tmp x) (.tmp y),g)
def WO:=an 0 Try.f54
def WN:=an 1 Try.f54
def WM:=an 2 Try.f54
def WL:=an 3 Try.f54
theorem aiQ:aZ WO=[(some 4, .assign (.const (.slice none 0 0)),none)] :=by kernel_rfl
theorem aiP:aZ WN=[oM 5 0,
 oE 6 5 29,
 oM 7 1,
 oB 8 .leq 3 6 7] :=by kernel_rfl
theorem aiO:aZ WM=[oM 9 0,
 (some 10, .buildSlice 29 1 #[(0, .const (.int .i64 0))],none),
 (some 11, .call {callee:= .builtin .append,args:= #[(.tmp 9),(.tmp 10)],argTypes:= #[29,29]},none),
 oA 0 11] :=by kernel_rfl
theorem aiN:aZ WL=[oM 12 0,
 oA 4 12] :=by kernel_rfl
theorem acZ:fy Try.f54=(.seq (.region 0 WO false) (.seq (.block 0 (.loop (.seq (.seq (.region 1 WN false) (.cond (.tmp 8) .skip (.exit 0))) (.block 1 (.region 2 WM false))))) (.seq (.region 3 WL false) .ret))):=by kernel_rfl
theorem QX:Try.f54.body=some (fy Try.f54):=by kernel_rfl
theorem ap7:Try.f54.ntmps=13:=by kernel_rfl
theorem aio:Try.f54.results= #[.tmp 4] :=by kernel_rfl
theorem LJ(args:Array Value)(w:World):(callFunc 54 args).run Try.prog w= .ok (.enter 54 args) w:=by
 unfold callFunc
 have hn:Try.f54.name≠ "runtime.NumGoroutine" :=by decide+kernel
 simp[Try.func54,QX,hn]
def WW:=an 0 Try.f19
def WV:=an 1 Try.f19
def K1:=an 2 Try.f19
def WU:=an 3 Try.f19
def P2:=an 4 Try.f19
def P1:=an 5 Try.f19
def P0:=an 6 Try.f19
def PZ:=an 7 Try.f19
def K0:=an 8 Try.f19
def PY:=an 9 Try.f19
def Ev:=an 10 Try.f19
def Eu:=an 11 Try.f19
def Et:=an 12 Try.f19
def Es:=an 13 Try.f19
def Ar:=an 14 Try.f19
theorem ai4:aZ WW=[oM 7 0,
 oN 8 7,
 oF 9 59 8 1,
 oL 10 54 9,
 oM 11 1,
 oI 12 54 10 11,
 oL 13 52 12,
 oC 14 12 #[(.tmp 13)] #[52],
 (some 4, .alloc 67,none),
 oS 67 4 14] :=by kernel_rfl
theorem ai3:aZ WV=[oF 15 67 4 2,
 oF 16 61 15 0,
 oL 17 3 16,
 oM 18 0,
 oN 19 18,
 oF 20 59 19 7,
 oL 21 29 20,
 oM 22 1,
 oI 23 29 21 22,
 oL 24 3 23,
 oB 25 .lss 3 17 24,
 oM 26 25,
 oF 27 67 4 2 (some (11,false)),
 oF 28 61 27 0 (some (11,false)),
 oL 29 3 28 (some (11,false)),
 (some 30, .binOp .gtr 3 (.tmp 29) (.const (.int .i64 5000)) 3,some (11,false)),
 (some 31, .pick (.tmp 26) (.const (.bool true)) (.tmp 30),none)] :=by kernel_rfl
theorem ai2:aZ K1=[oM 32 0,
 oM 33 0,
 oN 34 33,
 oF 35 59 34 9,
 oL 36 4 35,
 oM 37 36,
 oF 38 67 4 2 (some (5,false)),
 oF 39 61 38 0 (some (5,false)),
 oL 40 3 39 (some (5,false)),
 oM 41 0 (some (5,false)),
 oN 42 41 (some (5,false)),
 oF 43 59 42 7 (some (5,false)),
 oL 44 29 43 (some (5,false)),
 oM 45 1 (some (5,false)),
 oI 46 29 44 45 (some (5,false)),
 oL 47 3 46 (some (5,false)),
 oB 48 .lss 3 40 47 (some (5,false)),
 (some 49, .pick (.tmp 37) (.const (.bool true)) (.tmp 48),none),
 oN 50 32,
 oF 51 59 50 9,
 oS 4 51 49] :=by kernel_rfl
theorem ai1:aZ WU=[oM 52 0,
 oN 53 52,
 oF 54 59 53 7,
 oL 55 29 54,
 oM 56 1,
 oF 57 67 4 2,
 oF 58 61 57 0,
 oL 59 3 58,
 oI 60 29 55 56,
 oS 3 60 59] :=by kernel_rfl
theorem ai0:aZ P2=[oM 61 0,
 oN 62 61,
 oF 63 59 62 6,
 oL 64 57 63,
 oM 65 1,
 oM 66 0,
 oN 67 66,
 oF 68 59 67 6,
 oL 69 57 68,
 oM 70 1,
 oI 71 57 69 70,
 oL 72 29 71,
 oF 73 67 4 2,
 oF 74 61 73 0,
 oL 75 3 74,
 oC 76 54 #[(.tmp 72),(.tmp 75)] #[29,3],
 oI 77 57 64 65,
 oS 29 77 76] :=by kernel_rfl
theorem aiZ:aZ P1=[oM 78 0,
 oN 79 78,
 oF 80 59 79 6,
 oL 81 57 80,
 oM 82 1,
 oI 83 57 81 82,
 oL 84 29 83,
 oF 85 67 4 2,
 oF 86 61 85 0,
 oL 87 3 86,
 oI 88 29 84 87,
 oL 89 3 88,
 oA 5 89] :=by kernel_rfl
theorem aiY:aZ P0=[oM 90 5,
 (some 91, .binOp .neq 3 (.tmp 90) (.const (.int .i64 0)) 3,none),
 oM 92 91,
 oF 93 67 4 2 (some (2,true)),
 oF 94 61 93 1 (some (2,true)),
 oL 95 3 94 (some (2,true)),
 oM 96 5 (some (2,true)),
 oB 97 .neq 3 95 96 (some (2,true)),
 oP 98 92 97 false] :=by kernel_rfl
theorem aiX:aZ PZ=[oM 99 0,
 oN 100 99,
 oF 101 59 100 9,
 (none, .store 4 (.tmp 101) (.const (.bool true)),none)] :=by kernel_rfl
theorem aiW:aZ K0=[oM 102 0,
 oN 103 102,
 oF 104 59 103 6,
 oL 105 57 104,
 oM 106 1,
 oI 107 57 105 106,
 oL 108 29 107,
 oF 109 67 4 2,
 oF 110 61 109 0,
 oL 111 3 110,
 oF 112 67 4 2,
 oF 113 61 112 1,
 oL 114 3 113,
 oI 115 29 108 111,
 oS 3 115 114] :=by kernel_rfl
theorem aiV:aZ PY=[oF 116 67 4 0,
 oL 117 3 116,
 (some 118, .binOp .eql 3 (.tmp 117) (.const (.int .i64 2)) 3,none)] :=by kernel_rfl
theorem abB:aZ Ev=[oM 119 0,
 oM 120 0,
 oN 121 120,
 oF 122 59 121 5,
 oL 123 29 122,
 oF 124 67 4 2,
 oF 125 61 124 0,
 oL 126 3 125,
 oC 127 54 #[(.tmp 123),(.tmp 126)] #[29,3],
 oN 128 119,
 oF 129 59 128 5,
 oS 29 129 127] :=by kernel_rfl
theorem abA:aZ Eu=[oM 130 0,
 oN 131 130,
 oF 132 59 131 5,
 oL 133 29 132,
 oF 134 67 4 2,
 oF 135 61 134 0,
 oL 136 3 135,
 oI 137 29 133 136,
 oL 138 3 137,
 oA 6 138] :=by kernel_rfl
theorem abz:aZ Et=[oM 139 6,
 (some 140, .binOp .neq 3 (.tmp 139) (.const (.int .i64 0)) 3,none),
 oM 141 140,
 oM 142 6 (some (2,true)),
 oM 143 1 (some (2,true)),
 (some 144, .binOp .add 3 (.tmp 143) (.const (.int .i64 1)) 3,some (2,true)),
 oB 145 .neq 3 142 144 (some (2,true)),
 oP 146 141 145 false] :=by kernel_rfl
theorem aby:aZ Es=[oM 147 0,
 oN 148 147,
 oF 149 59 148 9,
 (none, .store 4 (.tmp 149) (.const (.bool true)),none)] :=by kernel_rfl
theorem abx:aZ Ar=[oM 150 0,
 oN 151 150,
 oF 152 59 151 5,
 oL 153 29 152,
 oF 154 67 4 2,
 oF 155 61 154 0,
 oL 156 3 155,
 oM 157 1,
 (some 158, .binOp .add 3 (.tmp 157) (.const (.int .i64 1)) 3,none),
 oI 159 29 153 156,
 oS 3 159 158] :=by kernel_rfl
theorem ac1:fy Try.f19=(.seq (.region 0 WW false) (.seq (.seq (.region 1 WV true) (.cond (.tmp 31) (.seq (.region 2 K1 true) .ret) .skip)) (.seq (.region 3 WU true) (.seq (.region 4 P2 true) (.seq (.region 5 P1 true) (.seq (.seq (.region 6 P0 false) (.cond (.tmp 98) (.region 7 PZ false) .skip)) (.seq (.region 8 K0 true) (.seq (.region 9 PY false) (.cond (.tmp 118) (.seq (.region 10 Ev true) (.seq (.region 11 Eu true) (.seq (.seq (.region 12 Et false) (.cond (.tmp 146) (.region 13 Es false) .skip)) (.region 14 Ar true)))) .skip))))))))):=by kernel_rfl
theorem QZ:Try.f19.body=some (fy Try.f19):=by kernel_rfl
theorem ap9:Try.f19.ntmps=160:=by kernel_rfl
theorem PF:Try.f19.results= #[] :=by kernel_rfl
theorem VG(args:Array Value)(w:World):(callFunc 19 args).run Try.prog w= .ok (.enter 19 args) w:=by
 unfold callFunc
 have hn:Try.f19.name≠ "runtime.NumGoroutine" :=by decide+kernel
 simp[Try.func19,QZ,hn]
def WT:=an 0 Try.f30
def WS:=an 1 Try.f30
def WR:=an 2 Try.f30
def WQ:=an 3 Try.f30
def ajS:=an 4 Try.f30
def ajR:=an 5 Try.f30
def ajQ:=an 6 Try.f30
def ajO:=an 8 Try.f30
def ajN:=an 9 Try.f30
def ajP:=an 7 Try.f30
def ab1:=an 10 Try.f30
def ab0:=an 11 Try.f30
def Rc:=an 12 Try.f30
def Rb:=an 13 Try.f30
def Jg:=an 14 Try.f30
def Jf:=an 15 Try.f30
def Je:=an 17 Try.f30
def Jd:=an 18 Try.f30
def Er:=an 16 Try.f30
def Aq:=an 19 Try.f30
def Ap:=an 20 Try.f30
def Ep:=an 21 Try.f30
theorem aiU:aZ WT=[(some 5, .box 75 (.tmp 2),none)] :=by kernel_rfl
theorem aiT:aZ WS=[oM 11 0,
 oN 12 11,
 oF 13 59 12 2,
 oL 14 55 13,
 oM 15 1,
 oI 16 55 14 15,
 oL 17 65 16,
 (some 6, .alloc 65,none),
 oS 65 6 17] :=by kernel_rfl
theorem aiS:aZ WR=[oF 18 75 5 1,
 oL 19 61 18,
 oF 20 65 6 0,
 oS 61 20 19] :=by kernel_rfl
theorem aiR:aZ WQ=[oF 21 75 5 3,
 oL 22 72 21,
 (some 23, .binOp .neq 72 (.tmp 22) (.const (.pointer none)) 72,none)] :=by kernel_rfl
theorem abw:aZ Rc=[oF 75 75 5 2,
 oL 76 28 75,
 oE 77 76 28,
 (some 78, .binOp .gtr 3 (.tmp 77) (.const (.int .i64 0)) 3,none)] :=by kernel_rfl
theorem abv:aZ Rb=[(some 9, .assign (.const (.slice none 0 0)),none)] :=by kernel_rfl
theorem abu:aZ Jg=[(some 10, .assign (.const (.int .i64 0)),none)] :=by kernel_rfl
theorem abt:aZ Jf=[oM 79 10,
 oF 80 65 6 2,
 oL 81 28 80,
 oE 82 81 28,
 oB 83 .lss 3 79 82] :=by kernel_rfl
theorem abq:aZ Je=[oF 86 65 6 2,
 oL 87 28 86,
 oM 88 10,
 oI 89 28 87 88,
 oF 90 78 89 0,
 oL 91 3 90,
 oF 92 75 5 2,
 oL 93 28 92,
 (some 94, .indexAddr 28 (.tmp 93) (.const (.int .i64 0)),none),
 oF 95 78 94 0,
 oL 96 3 95,
 oB 97 .lss 3 91 96] :=by kernel_rfl
theorem abp:aZ Jd=[oM 98 9,
 oF 99 65 6 2,
 oL 100 28 99,
 oM 101 10,
 oI 102 28 100 101,
 oL 103 78 102,
 (some 104, .buildSlice 28 1 #[(0, .tmp 103)],none),
 (some 105, .call {callee:= .builtin .append,args:= #[(.tmp 98),(.tmp 104)],argTypes:= #[28,28]},none),
 oA 9 105] :=by kernel_rfl
theorem abr:aZ Er=[oM 84 10,
 (some 85, .binOp .add 3 (.tmp 84) (.const (.int .i64 1)) 3,none),
 oA 10 85] :=by kernel_rfl
theorem abo:aZ Aq=[oM 106 9,
 oF 107 75 5 2,
 oL 108 28 107,
 (some 109, .call {callee:= .builtin .append,args:= #[(.tmp 106),(.tmp 108)],argTypes:= #[28,28]},none),
 oA 9 109] :=by kernel_rfl
theorem abn:aZ Ap=[oM 110 9,
 oF 111 65 6 2,
 oS 28 111 110] :=by kernel_rfl
theorem abm:aZ Ep=[oM 112 0,
 oN 113 112,
 oF 114 59 113 2,
 oL 115 55 114,
 oM 116 1,
 oL 117 65 6,
 oI 118 55 115 116,
 oS 65 118 117] :=by kernel_rfl
theorem ac0:fy Try.f30=(.seq (.region 0 WT false) (.seq (.region 1 WS false) (.seq (.region 2 WR false) (.seq (.seq (.region 3 WQ false) (.cond (.tmp 23) (.seq (.region 4 ajS false) (.seq (.seq (.region 5 ajR false) (.block 0 (.loop (.seq (.seq (.region 6 ajQ false) (.cond (.tmp 28) .skip (.exit 0))) (.seq (.block 1 (.seq (.region 8 ajO true) (.cond (.tmp 59) (.region 9 ajN false) .skip))) (.region 7 ajP false)))))) (.seq (.region 10 ab1 false) (.region 11 ab0 false)))) .skip)) (.seq (.seq (.region 12 Rc false) (.cond (.tmp 78) (.seq (.region 13 Rb false) (.seq (.seq (.region 14 Jg false) (.block 2 (.loop (.seq (.seq (.region 15 Jf false) (.cond (.tmp 83) .skip (.exit 2))) (.seq (.block 3 (.seq (.region 17 Je true) (.cond (.tmp 97) (.region 18 Jd false) .skip))) (.region 16 Er false)))))) (.seq (.region 19 Aq false) (.region 20 Ap false)))) .skip)) (.region 21 Ep true)))))):=by kernel_rfl
theorem QY:Try.f30.body=some (fy Try.f30):=by kernel_rfl
theorem ap8:Try.f30.ntmps=119:=by kernel_rfl
theorem aip:Try.f30.results= #[] :=by kernel_rfl
theorem VF(args:Array Value)(w:World):(callFunc 30 args).run Try.prog w= .ok (.enter 30 args) w:=by
 unfold callFunc
 have hn:Try.f30.name≠ "runtime.NumGoroutine" :=by decide+kernel
 simp[Try.func30,QY,hn]
def WZ:=an 0 Try.f14
def WY:=an 1 Try.f14
def WX:=an 2 Try.f14
def P9:=an 3 Try.f14
def P8:=an 4 Try.f14
def P7:=an 5 Try.f14
def P6:=an 6 Try.f14
def P4:=an 8 Try.f14
def P3:=an 9 Try.f14
def Jk:=an 10 Try.f14
def Jj:=an 11 Try.f14
def Ji:=an 12 Try.f14
def Jh:=an 13 Try.f14
def Ey:=an 14 Try.f14
def As:=an 15 Try.f14
def P5:=an 7 Try.f14
def Ew:=an 16 Try.f14
theorem aje:aZ WZ=[(some 6, .box 75 (.tmp 2),none)] :=by kernel_rfl
theorem ajd:aZ WY=[oF 12 75 6 0,
 oL 13 4 12] :=by kernel_rfl
theorem ajc:aZ WX=[oM 14 0,
 oM 15 1,
 oL 16 75 6,
 oC 17 30 #[(.tmp 14),(.tmp 15),(.tmp 16)] #[24,3,75]] :=by kernel_rfl
theorem ajb:aZ P9=[oM 18 0,
 oN 19 18,
 oF 20 59 19 3,
 oL 21 56 20,
 oE 22 21 56,
 (some 23, .binOp .lss 3 (.tmp 22) (.const (.int .i64 400)) 3,none),
 oM 24 23,
 oM 25 3 (some (6,true)),
 (some 26, .unOp .not 4 (.tmp 25),some (6,true)),
 oP 27 24 26 false] :=by kernel_rfl
theorem aja:aZ P8=[oM 28 0,
 oM 29 0,
 oN 30 29,
 oF 31 59 30 3,
 oL 32 56 31,
 oF 33 75 6 4,
 oL 34 56 33,
 (some 35, .call {callee:= .builtin .append,args:= #[(.tmp 32),(.tmp 34)],argTypes:= #[56,56]},none),
 oN 36 28,
 oF 37 59 36 3,
 oS 56 37 35] :=by kernel_rfl
theorem ai9:aZ P7=[(some 8, .assign (.const (.int .i64 0)),none)] :=by kernel_rfl
theorem ai8:aZ P6=[oM 38 8,
 oF 39 75 6 5,
 oL 40 28 39,
 oE 41 40 28,
 oB 42 .lss 3 38 41] :=by kernel_rfl
theorem ai6:aZ P4=[oF 45 75 6 5,
 oL 46 28 45,
 oM 47 8,
 oI 48 28 46 47,
 oL 49 78 48,
 (some 9, .alloc 78,none),
 oS 78 9 49] :=by kernel_rfl
theorem ai5:aZ P3=[oM 50 0,
 oN 51 50,
 oF 52 59 51 4,
 oL 53 28 52,
 oE 54 53 28,
 oF 55 78 9 0,
 oL 56 3 55,
 oB 57 .leq 3 54 56] :=by kernel_rfl
theorem abI:aZ Jk=[oM 58 0,
 oM 59 0,
 oN 60 59,
 oF 61 59 60 4,
 oL 62 28 61,
 (some 63, .build 78 #[],none),
 (some 64, .buildSlice 28 1 #[(0, .tmp 63)],none),
 (some 65, .call {callee:= .builtin .append,args:= #[(.tmp 62),(.tmp 64)],argTypes:= #[28,28]},none),
 oN 66 58,
 oF 67 59 66 4,
 oS 28 67 65] :=by kernel_rfl
theorem abH:aZ Jj=[oM 68 0,
 oN 69 68,
 oF 70 59 69 4,
 oL 71 28 70,
 oF 72 78 9 0,
 oL 73 3 72,
 oI 74 28 71 73,
 oL 75 78 74,
 (some 10, .alloc 78,none),
 oS 78 10 75] :=by kernel_rfl
theorem abG:aZ Ji=[oF 76 78 9 2,
 oL 77 44 76,
 oF 78 78 10 2,
 oL 79 44 78,
 oC 80 31 #[(.tmp 77),(.tmp 79)] #[44,44],
 oA 11 80] :=by kernel_rfl
theorem abF:aZ Jh=[oF 81 78 10 0,
 oL 82 3 81,
 (some 83, .binOp .neq 3 (.tmp 82) (.const (.int .i64 0)) 3,none),
 oM 84 83,
 oF 85 78 10 1 (some (3,true)),
 oL 86 3 85 (some (3,true)),
 oF 87 78 9 1 (some (3,true)),
 oL 88 3 87 (some (3,true)),
 oB 89 .neq 3 86 88 (some (3,true)),
 oM 90 89 (some (3,true)),
 oM 91 11 (some (9,false)),
 (some 92, .unOp .not 4 (.tmp 91),some (9,false)),
 (some 93, .pick (.tmp 90) (.const (.bool true)) (.tmp 92),some (3,true)),
 oP 94 84 93 false] :=by kernel_rfl
theorem abE:aZ Ey=[oM 95 0,
 oN 96 95,
 oF 97 59 96 9,
 (none, .store 4 (.tmp 97) (.const (.bool true)),none)] :=by kernel_rfl
theorem abD:aZ As=[oM 98 0,
 oN 99 98,
 oF 100 59 99 4,
 oL 101 28 100,
 oF 102 78 9 0,
 oL 103 3 102,
 oL 104 78 9,
 oI 105 28 101 103,
 oS 78 105 104] :=by kernel_rfl
theorem ai7:aZ P5=[oM 43 8,
 (some 44, .binOp .add 3 (.tmp 43) (.const (.int .i64 1)) 3,none),
 oA 8 44] :=by kernel_rfl
theorem abC:aZ Ew=[oM 106 0,
 oM 107 1,
 oC 108 19 #[(.tmp 106),(.tmp 107)] #[24,3]] :=by kernel_rfl
theorem ac2:fy Try.f14=(.seq (.region 0 WZ false) (.seq (.seq (.region 1 WY false) (.cond (.tmp 13) (.region 2 WX false) .skip)) (.seq (.seq (.region 3 P9 false) (.cond (.tmp 27) (.region 4 P8 true) .skip)) (.seq (.seq (.region 5 P7 false) (.block 0 (.loop (.seq (.seq (.region 6 P6 false) (.cond (.tmp 42) .skip (.exit 0))) (.seq (.block 1 (.seq (.region 8 P4 false) (.seq (.block 2 (.loop (.seq (.seq (.region 9 P3 true) (.cond (.tmp 57) .skip (.exit 2))) (.block 3 (.region 10 Jk false))))) (.seq (.region 11 Jj true) (.seq (.region 12 Ji false) (.seq (.seq (.region 13 Jh false) (.cond (.tmp 94) (.region 14 Ey false) .skip)) (.region 15 As true))))))) (.region 7 P5 false)))))) (.region 16 Ew false))))):=by kernel_rfl
theorem Q0:Try.f14.body=some (fy Try.f14):=by kernel_rfl
theorem aqa:Try.f14.ntmps=109:=by kernel_rfl
theorem aiq:Try.f14.results= #[] :=by kernel_rfl
theorem LK(args:Array Value)(w:World):(callFunc 14 args).run Try.prog w= .ok (.enter 14 args) w:=by
 unfold callFunc
 have hn:Try.f14.name≠ "runtime.NumGoroutine" :=by decide+kernel
 simp[Try.func14,Q0,hn]
def ahb:=an 0 Try.f9
def aha:=an 1 Try.f9
def ag9:=an 2 Try.f9
def ag8:=an 3 Try.f9
def ag6:=an 5 Try.f9
def ag7:=an 4 Try.f9
def Z6:=an 6 Try.f9
def Z5:=an 7 Try.f9
def ag4:=an 9 Try.f9
def ag5:=an 8 Try.f9
def PO:=an 10 Try.f9
def PN:=an 11 Try.f9
def PL:=an 13 Try.f9
def PK:=an 14 Try.f9
def PJ:=an 15 Try.f9
def PI:=an 16 Try.f9
def PM:=an 12 Try.f9
def PH:=an 17 Try.f9
theorem apU:aZ ahb=[(some 4, .assign (.const (.pointer none)),none)] :=by kernel_rfl
theorem apT:aZ aha=[(some 9, .build 59 #[],none),
 (some 10, .box 59 (.tmp 9),none),
 oA 5 10] :=by kernel_rfl
theorem apS:aZ ag9=[(some 6, .assign (.const (.int .i64 1)),none)] :=by kernel_rfl
theorem apR:aZ ag8=[oM 11 6,
 oM 12 1,
 oB 13 .leq 3 11 12] :=by kernel_rfl
theorem apP:aZ ag6=[oM 16 5,
 oM 17 5,
 oN 18 17,
 oF 19 59 18 0,
 oF 20 31 19 0,
 oL 21 29 20,
 oM 22 6,
 (some 23, .buildSlice 29 1 #[(0, .tmp 22)],none),
 (some 24, .call {callee:= .builtin .append,args:= #[(.tmp 21),(.tmp 23)],argTypes:= #[29,29]},none),
 oN 25 16,
 oF 26 59 25 0,
 oF 27 31 26 0,
 oS 29 27 24] :=by kernel_rfl
theorem apQ:aZ ag7=[oM 14 6,
 (some 15, .binOp .add 3 (.tmp 14) (.const (.int .i64 1)) 3,none),
 oA 6 15] :=by kernel_rfl
theorem apO:aZ Z6=[oM 28 1,
 (some 29, .binOp .add 3 (.tmp 28) (.const (.int .i64 1)) 3,none),
 oA 7 29] :=by kernel_rfl
theorem apN:aZ Z5=[oM 30 7,
 oM 31 0,
 oB 32 .leq 3 30 31] :=by kernel_rfl
theorem aiE:aZ PO=[(some 8, .assign (.const (.int .i64 1)),none)] :=by kernel_rfl
theorem aiD:aZ PN=[oM 47 8,
 oM 48 0,
 oB 49 .leq 3 47 48] :=by kernel_rfl
theorem aiB:aZ PL=[oM 52 5,
 oM 53 5,
 oN 54 53,
 oF 55 59 54 2,
 oL 56 55 55,
 (some 57, .build 65 #[],none),
 (some 58, .buildSlice 55 1 #[(0, .tmp 57)],none),
 (some 59, .call {callee:= .builtin .append,args:= #[(.tmp 56),(.tmp 58)],argTypes:= #[55,55]},none),
 oN 60 52,
 oF 61 59 60 2,
 oS 55 61 59] :=by kernel_rfl
theorem aiA:aZ PK=[oM 62 5,
 oM 63 5,
 oN 64 63,
 oF 65 59 64 1,
 oL 66 54 65,
 oM 67 8,
 oM 68 5,
 oN 69 68,
 oF 70 59 69 0,
 oL 71 31 70,
 (some 72, .build 65 #[],none),
 oC 73 11 #[(.tmp 67),(.tmp 71),(.tmp 72)] #[3,31,65],
 (some 74, .buildSlice 54 1 #[(0, .tmp 73)],none),
 (some 75, .call {callee:= .builtin .append,args:= #[(.tmp 66),(.tmp 74)],argTypes:= #[54,54]},none),
 oN 76 62,
 oF 77 59 76 1,
 oS 54 77 75] :=by kernel_rfl
theorem aiz:aZ PJ=[oM 78 5,
 oM 79 5,
 oN 80 79,
 oF 81 59 80 6,
 oL 82 57 81,
 (some 83, .buildSlice 57 1 #[(0, .const (.slice none 0 0))],none),
 (some 84, .call {callee:= .builtin .append,args:= #[(.tmp 82),(.tmp 83)],argTypes:= #[57,57]},none),
 oN 85 78,
 oF 86 59 85 6,
 oS 57 86 84] :=by kernel_rfl
theorem aiy:aZ PI=[oM 87 5,
 oM 88 5,
 oN 89 88,
 oF 90 59 89 7,
 oL 91 29 90,
 (some 92, .buildSlice 29 1 #[(0, .const (.int .i64 0))],none),
 (some 93, .call {callee:= .builtin .append,args:= #[(.tmp 91),(.tmp 92)],argTypes:= #[29,29]},none),
 oN 94 87,
 oF 95 59 94 7,
 oS 29 95 93] :=by kernel_rfl
theorem aiC:aZ PM=[oM 50 8,
 (some 51, .binOp .add 3 (.tmp 50) (.const (.int .i64 1)) 3,none),
 oA 8 51] :=by kernel_rfl
theorem aix:aZ PH=[oM 96 5,
 oA 4 96] :=by kernel_rfl
theorem akZ:fy Try.f9=(.seq (.region 0 ahb false) (.seq (.region 1 aha false) (.seq (.seq (.region 2 ag9 false) (.block 0 (.loop (.seq (.seq (.region 3 ag8 false) (.cond (.tmp 13) .skip (.exit 0))) (.seq (.block 1 (.region 5 ag6 false)) (.region 4 ag7 false)))))) (.seq (.seq (.region 6 Z6 false) (.block 2 (.loop (.seq (.seq (.region 7 Z5 false) (.cond (.tmp 32) .skip (.exit 2))) (.seq (.block 3 (.region 9 ag4 false)) (.region 8 ag5 false)))))) (.seq (.seq (.region 10 PO false) (.block 4 (.loop (.seq (.seq (.region 11 PN false) (.cond (.tmp 49) .skip (.exit 4))) (.seq (.block 5 (.seq (.region 13 PL false) (.seq (.region 14 PK true) (.seq (.region 15 PJ false) (.region 16 PI false))))) (.region 12 PM false)))))) (.seq (.region 17 PH false) .ret)))))):=by kernel_rfl
theorem Wz:Try.f9.body=some (fy Try.f9):=by kernel_rfl
theorem nt9:Try.f9.ntmps=97:=by kernel_rfl
theorem apK:Try.f9.results= #[.tmp 4] :=by kernel_rfl
theorem acS(args:Array Value)(w:World):(callFunc 9 args).run Try.prog w= .ok (.enter 9 args) w:=by
 unfold callFunc
 have hn:Try.f9.name≠ "runtime.NumGoroutine" :=by decide+kernel
 simp[Try.func9,Wz,hn]
def W9:=an 0 Try.f13
def W8:=an 1 Try.f13
def W7:=an 2 Try.f13
def W6:=an 3 Try.f13
def Qe:=an 5 Try.f13
def W0:=an 4 Try.f13
def Qd:=an 6 Try.f13
def Qc:=an 7 Try.f13
def Qa:=an 9 Try.f13
def Qb:=an 8 Try.f13
def Jm:=an 10 Try.f13
def Jl:=an 11 Try.f13
theorem ajo:aZ W9=[(some 0, .assign (.const (.bool false)),none)] :=by kernel_rfl
theorem ajn:aZ W8=[oC 5 9 #[(.const (.int .i64 3)),(.const (.int .i64 3))] #[3,3],
 oA 1 5] :=by kernel_rfl
theorem ajm:aZ W7=[(some 2, .assign (.const (.int .i64 0)),none)] :=by kernel_rfl
theorem ajl:aZ W6=[oM 6 2,
 (some 7, .binOp .lss 3 (.tmp 6) (.const (.int .i64 10)) 3,none)] :=by kernel_rfl
theorem ajj:aZ Qe=[oM 10 1,
 oM 11 1,
 oN 12 11,
 oF 13 59 12 1,
 oL 14 54 13,
 (some 15, .indexAddr 54 (.tmp 14) (.const (.int .i64 0)),none),
 oL 16 52 15,
 oC 17 15 #[(.tmp 16),(.const (.int .i64 0))] #[52,3],
 oC 18 14 #[(.tmp 10),(.const (.int .i64 0)),(.tmp 17),(.const (.bool false))] #[24,3,75,4]] :=by kernel_rfl
theorem ajk:aZ W0=[oM 8 2,
 (some 9, .binOp .add 3 (.tmp 8) (.const (.int .i64 1)) 3,none),
 oA 2 9] :=by kernel_rfl
theorem aji:aZ Qd=[(some 3, .assign (.const (.int .i64 0)),none)] :=by kernel_rfl
theorem ajh:aZ Qc=[oM 19 3,
 (some 20, .binOp .lss 3 (.tmp 19) (.const (.int .i64 4)) 3,none)] :=by kernel_rfl
theorem ajf:aZ Qa=[oM 23 1,
 (some 24, .build 51 #[(0, .const (.int .i64 6))],none),
 oC 25 10 #[(.tmp 23),(.tmp 24)] #[24,51]] :=by kernel_rfl
theorem ajg:aZ Qb=[oM 21 3,
 (some 22, .binOp .add 3 (.tmp 21) (.const (.int .i64 1)) 3,none),
 oA 3 22] :=by kernel_rfl
theorem abK:aZ Jm=[oM 26 1,
 oN 27 26,
 oF 28 59 27 1,
 oL 29 54 28,
 (some 30, .indexAddr 54 (.tmp 29) (.const (.int .i64 0)),none),
 oL 31 52 30,
 oC 32 12 #[(.tmp 31)] #[52],
 (some 4, .alloc 67,none),
 oS 67 4 32] :=by kernel_rfl
theorem abJ:aZ Jl=[oF 33 67 4 0,
 oL 34 3 33,
 (some 35, .binOp .eql 3 (.tmp 34) (.const (.int .i64 2)) 3,none),
 oM 36 35,
 oF 37 67 4 3 (some (3,true)),
 oL 38 3 37 (some (3,true)),
 (some 39, .binOp .eql 3 (.tmp 38) (.const (.int .i64 1)) 3,some (3,true)),
 oP 40 36 39 false,
 oM 41 40,
 oF 42 67 4 2 (some (8,true)),
 oF 43 61 42 0 (some (8,true)),
 oL 44 3 43 (some (8,true)),
 (some 45, .binOp .eql 3 (.tmp 44) (.const (.int .i64 1)) 3,some (8,true)),
 oP 46 41 45 false,
 oM 47 46,
 oM 48 1 (some (14,true)),
 oN 49 48 (some (14,true)),
 oF 50 59 49 9 (some (14,true)),
 oL 51 4 50 (some (14,true)),
 (some 52, .unOp .not 4 (.tmp 51),some (14,true)),
 oP 53 47 52 false,
 oA 0 53] :=by kernel_rfl
theorem ac3:fy Try.f13=(.seq (.region 0 W9 false) (.seq (.region 1 W8 false) (.seq (.seq (.region 2 W7 false) (.block 0 (.loop (.seq (.seq (.region 3 W6 false) (.cond (.tmp 7) .skip (.exit 0))) (.seq (.block 1 (.region 5 Qe false)) (.region 4 W0 false)))))) (.seq (.seq (.region 6 Qd false) (.block 2 (.loop (.seq (.seq (.region 7 Qc false) (.cond (.tmp 20) .skip (.exit 2))) (.seq (.block 3 (.region 9 Qa false)) (.region 8 Qb false)))))) (.seq (.region 10 Jm false) (.seq (.region 11 Jl false) .ret)))))):=by kernel_rfl
theorem Q1:Try.f13.body=some (fy Try.f13):=by kernel_rfl
theorem aqb:Try.f13.ntmps=54:=by kernel_rfl
theorem air:Try.f13.results= #[.tmp 0] :=by kernel_rfl
theorem LM(args:Array Value)(w:World):(callFunc 13 args).run Try.prog w= .ok (.enter 13 args) w:=by
 unfold callFunc
 have hn:Try.f13.name≠ "runtime.NumGoroutine" :=by decide+kernel
 simp[Try.func13,Q1,hn]
def Xn:=an 0 Try.f10
def Xm:=an 1 Try.f10
def Xl:=an 2 Try.f10
def Xk:=an 3 Try.f10
def Xj:=an 4 Try.f10
def ajY:=an 5 Try.f10
def Xi:=an 6 Try.f10
def ajX:=an 7 Try.f10
def ajW:=an 8 Try.f10
def acG:=an 10 Try.f10
def ajV:=an 9 Try.f10
def Ri:=an 11 Try.f10
def Rh:=an 12 Try.f10
def Rg:=an 13 Try.f10
def acF:=an 14 Try.f10
def acE:=an 15 Try.f10
def acC:=an 17 Try.f10
def acB:=an 18 Try.f10
def acA:=an 19 Try.f10
def acz:=an 20 Try.f10
def acy:=an 21 Try.f10
def acx:=an 22 Try.f10
def acw:=an 23 Try.f10
def acv:=an 24 Try.f10
def acu:=an 25 Try.f10
def acD:=an 16 Try.f10
def Rf:=an 26 Try.f10
def Jt:=an 27 Try.f10
def Js:=an 28 Try.f10
def Jr:=an 29 Try.f10
def Jq:=an 30 Try.f10
def Jo:=an 32 Try.f10
def Jn:=an 33 Try.f10
def Jp:=an 31 Try.f10
def acs:=an 34 Try.f10
def acr:=an 35 Try.f10
def acq:=an 36 Try.f10
def acp:=an 37 Try.f10
def aco:=an 38 Try.f10
def acn:=an 39 Try.f10
def acm:=an 40 Try.f10
def ack:=an 41 Try.f10
def acj:=an 42 Try.f10
def aci:=an 43 Try.f10
def ach:=an 44 Try.f10
def acg:=an 45 Try.f10
def acf:=an 46 Try.f10
def ace:=an 47 Try.f10
def acd:=an 48 Try.f10
def acb:=an 49 Try.f10
def aca:=an 50 Try.f10
def ab9:=an 51 Try.f10
def ab8:=an 52 Try.f10
def ab7:=an 53 Try.f10
def ab6:=an 54 Try.f10
def ab5:=an 55 Try.f10
def ab4:=an 56 Try.f10
def ab3:=an 57 Try.f10
theorem ajC:aZ Xn=[(some 3, .box 51 (.tmp 1),none)] :=by kernel_rfl
theorem ajB:aZ Xm=[oF 22 51 3 1,
 oL 23 3 22,
 oM 24 0,
 oN 25 24,
 oF 26 59 25 1,
 oL 27 54 26,
 oE 28 27 54,
 oC 29 8 #[(.tmp 23),(.tmp 28)] #[3,3],
 oA 4 29] :=by kernel_rfl
theorem ajA:aZ Xl=[oF 30 51 3 0,
 oL 31 3 30,
 oC 32 8 #[(.tmp 31),(.const (.int .i64 12))] #[3,3]] :=by kernel_rfl
theorem ajz:aZ Xk=[(some 34, .binOp .eql 3 (.tmp 32) (.const (.int .i64 0)) 3,none),
 oA 33 34] :=by kernel_rfl
theorem ajy:aZ Xj=[(some 35, .binOp .eql 3 (.tmp 32) (.const (.int .i64 1)) 3,none),
 oA 33 35] :=by kernel_rfl
theorem ajx:aZ Xi=[(some 51, .binOp .eql 3 (.tmp 32) (.const (.int .i64 2)) 3,none),
 oA 50 51] :=by kernel_rfl
theorem abV:aZ Ri=[(some 71, .binOp .eql 3 (.tmp 32) (.const (.int .i64 3)) 3,none),
 oA 70 71] :=by kernel_rfl
theorem abU:aZ Rh=[(some 72, .binOp .eql 3 (.tmp 32) (.const (.int .i64 4)) 3,none),
 oA 70 72] :=by kernel_rfl
theorem abT:aZ Rg=[(some 73, .binOp .eql 3 (.tmp 32) (.const (.int .i64 5)) 3,none),
 oA 70 73] :=by kernel_rfl
theorem abS:aZ Rf=[(some 164, .binOp .eql 3 (.tmp 32) (.const (.int .i64 6)) 3,none),
 oA 163 164] :=by kernel_rfl
theorem abR:aZ Jt=[oM 165 0,
 oN 166 165,
 oF 167 59 166 3,
 oL 168 56 167,
 oA 10 168] :=by kernel_rfl
theorem abQ:aZ Js=[oM 169 0,
 oN 170 169,
 oF 171 59 170 3,
 (none, .store 56 (.tmp 171) (.const (.slice none 0 0)),none)] :=by kernel_rfl
theorem abP:aZ Jr=[(some 11, .assign (.const (.int .i64 0)),none)] :=by kernel_rfl
theorem abO:aZ Jq=[oM 172 11,
 oM 173 10,
 oE 174 173 56,
 oB 175 .lss 3 172 174] :=by kernel_rfl
theorem abM:aZ Jo=[oM 178 10,
 oM 179 11,
 oI 180 56 178 179,
 oF 181 49 180 2,
 oL 182 3 181,
 (some 183, .binOp .geq 3 (.tmp 182) (.const (.int .i64 1)) 3,none),
 oM 184 183,
 oM 185 10 (some (6,true)),
 oM 186 11 (some (6,true)),
 oI 187 56 185 186 (some (6,true)),
 oF 188 49 187 2 (some (6,true)),
 oL 189 3 188 (some (6,true)),
 oM 190 0 (some (6,true)),
 oN 191 190 (some (6,true)),
 oF 192 59 191 1 (some (6,true)),
 oL 193 54 192 (some (6,true)),
 oE 194 193 54 (some (6,true)),
 oB 195 .leq 3 189 194 (some (6,true)),
 oP 196 184 195 false] :=by kernel_rfl
theorem abL:aZ Jn=[oM 197 0,
 oM 198 10,
 oM 199 11,
 oI 200 56 198 199,
 oF 201 49 200 2,
 oL 202 3 201,
 (some 203, .binOp .sub 3 (.tmp 202) (.const (.int .i64 1)) 3,none),
 oM 204 0,
 oN 205 204,
 oF 206 59 205 1,
 oL 207 54 206,
 oM 208 10,
 oM 209 11,
 oI 210 56 208 209,
 oF 211 49 210 2,
 oL 212 3 211,
 (some 213, .binOp .sub 3 (.tmp 212) (.const (.int .i64 1)) 3,none),
 oI 214 54 207 213,
 oL 215 52 214,
 oM 216 10,
 oM 217 11,
 oI 218 56 216 217,
 oL 219 49 218,
 oC 220 17 #[(.tmp 215),(.tmp 219)] #[52,49],
 oC 221 14 #[(.tmp 197),(.tmp 203),(.tmp 220),(.const (.bool false))] #[24,3,75,4]] :=by kernel_rfl
theorem abN:aZ Jp=[oM 176 11,
 (some 177, .binOp .add 3 (.tmp 176) (.const (.int .i64 1)) 3,none),
 oA 11 177] :=by kernel_rfl
theorem ac5:fy Try.f10=(.seq (.region 0 Xn false) (.seq (.region 1 Xm true) (.seq (.region 2 Xl false) (.block 0 (.seq (.seq (.region 3 Xk false) (.cond (.tmp 33) .skip (.region 4 Xj false))) (.cond (.tmp 33) (.region 5 ajY true) (.seq (.region 6 Xi false) (.cond (.tmp 50) (.seq (.region 7 ajX false) (.block 1 (.loop (.seq (.seq (.region 8 ajW false) (.cond (.tmp 53) .skip (.exit 1))) (.seq (.block 2 (.region 10 acG true)) (.region 9 ajV false)))))) (.seq (.seq (.region 11 Ri false) (.cond (.tmp 70) .skip (.seq (.region 12 Rh false) (.cond (.tmp 70) .skip (.region 13 Rg false))))) (.cond (.tmp 70) (.seq (.region 14 acF false) (.block 3 (.loop (.seq (.seq (.region 15 acE false) (.cond (.tmp 88) .skip (.exit 3))) (.seq (.block 4 (.seq (.region 17 acC true) (.seq (.region 18 acB false) (.seq (.seq (.region 19 acA false) (.cond (.tmp 112) (.seq (.region 20 acz false) (.seq (.region 21 acy false) (.seq (.region 22 acx false) (.region 23 acw false)))) .skip)) (.seq (.region 24 acv true) (.cond (.tmp 146) (.region 25 acu true) .skip)))))) (.region 16 acD false)))))) (.seq (.region 26 Rf false) (.cond (.tmp 163) (.seq (.region 27 Jt false) (.seq (.region 28 Js false) (.seq (.region 29 Jr false) (.block 5 (.loop (.seq (.seq (.region 30 Jq false) (.cond (.tmp 175) .skip (.exit 5))) (.seq (.block 6 (.seq (.region 32 Jo true) (.cond (.tmp 196) (.region 33 Jn true) .skip))) (.region 31 Jp false)))))))) (.seq (.region 34 acs false) (.cond (.tmp 222) (.seq (.region 35 acr false) (.cond (.tmp 229) (.seq (.region 36 acq true) (.seq (.region 37 acp false) (.seq (.region 38 aco false) (.seq (.region 39 acn false) (.region 40 acm false))))) .skip)) (.seq (.seq (.region 41 ack false) (.cond (.tmp 260) .skip (.region 42 acj false))) (.cond (.tmp 260) (.seq (.region 43 aci false) (.seq (.seq (.region 44 ach false) (.cond (.tmp 271) (.region 45 acg false) .skip)) (.seq (.region 46 acf true) (.region 47 ace false)))) (.seq (.region 48 acd false) (.cond (.tmp 291) (.seq (.region 49 acb false) (.seq (.region 50 aca true) (.region 51 ab9 false))) (.seq (.region 52 ab8 false) (.cond (.tmp 328) (.seq (.region 53 ab7 true) (.seq (.seq (.region 54 ab6 false) (.cond (.tmp 345) (.seq (.region 55 ab5 false) .ret) .skip)) (.seq (.region 56 ab4 false) (.region 57 ab3 false)))) .skip)))))))))))))))))))):=by kernel_rfl
theorem Q3:Try.f10.body=some (fy Try.f10):=by kernel_rfl
theorem aqd:Try.f10.ntmps=359:=by kernel_rfl
theorem ait:Try.f10.results= #[] :=by kernel_rfl
theorem VH(args:Array Value)(w:World):(callFunc 10 args).run Try.prog w= .ok (.enter 10 args) w:=by
 unfold callFunc
 have hn:Try.f10.name≠ "runtime.NumGoroutine" :=by decide+kernel
 simp[Try.func10,Q3,hn]
def Xh:=an 0 Try.f11
def Xg:=an 1 Try.f11
def Xf:=an 2 Try.f11
def Xe:=an 3 Try.f11
def ajU:=an 4 Try.f11
def Xd:=an 5 Try.f11
def Xc:=an 6 Try.f11
def ajT:=an 7 Try.f11
def Xb:=an 8 Try.f11
def Xa:=an 9 Try.f11
def ab2:=an 10 Try.f11
def Re:=an 11 Try.f11
theorem ajw:aZ Xh=[(some 4, .box 31 (.tmp 1),none),
 (some 5, .box 65 (.tmp 2),none),
 (some 6, .assign (.const (.pointer none)),none)] :=by kernel_rfl
theorem ajv:aZ Xg=[oM 13 0,
 oC 14 20 #[(.tmp 13),(.const (.int .i64 1)),(.const (.int .i64 5))] #[3,3,3],
 oM 15 14,
 oL 16 31 4 (some (2,true)),
 oC 17 21 #[(.tmp 16)] #[31] (some (2,true)),
 oP 18 15 17 false,
 oM 19 18,
 oF 20 65 5 0 (some (6,true)),
 oF 21 61 20 0 (some (6,true)),
 oL 22 3 21 (some (6,true)),
 oC 23 20 #[(.tmp 22),(.const (.int .i64 0)),(.const (.int .i64 1099511627776))] #[3,3,3] (some (6,true)),
 oP 24 19 23 false,
 oM 25 24,
 oF 26 65 5 0 (some (12,true)),
 oF 27 61 26 1 (some (12,true)),
 oL 28 3 27 (some (12,true)),
 oC 29 20 #[(.tmp 28),(.const (.int .i64 0)),(.const (.int .i64 1099511627776))] #[3,3,3] (some (12,true)),
 oP 30 25 29 false,
 oA 7 30] :=by kernel_rfl
theorem aju:aZ Xf=[oF 31 65 5 1,
 oF 32 63 31 0,
 oL 33 3 32,
 oF 34 65 5 1,
 oF 35 63 34 1,
 oL 36 3 35,
 oC 37 22 #[(.tmp 33),(.tmp 36)] #[3,3],
 oA 8 37] :=by kernel_rfl
theorem ajt:aZ Xe=[oM 38 7,
 (some 39, .unOp .not 4 (.tmp 38),none),
 oM 40 39,
 oM 41 8 (some (2,false)),
 (some 42, .binOp .eql 90 (.tmp 41) (.const (.pointer none)) 90,some (2,false)),
 (some 43, .pick (.tmp 40) (.const (.bool true)) (.tmp 42),none),
 oM 44 43,
 oF 45 65 5 1 (some (6,false)),
 oF 46 63 45 0 (some (6,false)),
 oL 47 3 46 (some (6,false)),
 (some 48, .binOp .gtr 3 (.tmp 47) (.const (.int .i64 0)) 3,some (6,false)),
 oM 49 48 (some (6,false)),
 oF 50 65 5 1 (some (11,true)),
 oF 51 63 50 2 (some (11,true)),
 oL 52 31 51 (some (11,true)),
 oC 53 21 #[(.tmp 52)] #[31] (some (11,true)),
 (some 54, .unOp .not 4 (.tmp 53),some (11,true)),
 oM 55 54 (some (11,true)),
 oF 56 65 5 1 (some (17,false)),
 oF 57 63 56 3 (some (17,false)),
 oL 58 27 57 (some (17,false)),
 oE 59 58 27 (some (17,false)),
 oC 60 20 #[(.tmp 59),(.const (.int .i64 1)),(.const (.int .i64 1048576))] #[3,3,3] (some (17,false)),
 (some 61, .unOp .not 4 (.tmp 60),some (17,false)),
 (some 62, .pick (.tmp 55) (.const (.bool true)) (.tmp 61),some (11,true)),
 oP 63 49 62 false (some (6,false)),
 (some 64, .pick (.tmp 44) (.const (.bool true)) (.tmp 63),none)] :=by kernel_rfl
theorem ajs:aZ Xd=[oM 66 8,
 oF 67 65 5 1,
 oF 68 63 67 0,
 oL 69 3 68,
 oF 70 65 5 1,
 oF 71 63 70 1,
 oL 72 3 71,
 oF 73 65 5 2,
 oL 74 28 73,
 oC 75 23 #[(.tmp 66),(.tmp 69),(.tmp 72),(.tmp 74)] #[90,3,3,28],
 oM 65 75,
 (some 76, .extract (.tmp 65) 0,none),
 (some 77, .extract (.tmp 65) 1,none),
 oA 9 76,
 oA 10 77] :=by kernel_rfl
theorem ajr:aZ Xc=[oM 78 10,
 (some 79, .unOp .not 4 (.tmp 78),none),
 oM 80 79,
 oF 81 65 5 2 (some (2,false)),
 oL 82 28 81 (some (2,false)),
 oC 83 24 #[(.tmp 82)] #[28] (some (2,false)),
 (some 84, .unOp .not 4 (.tmp 83),some (2,false)),
 (some 85, .pick (.tmp 80) (.const (.bool true)) (.tmp 84),none)] :=by kernel_rfl
theorem ajq:aZ Xb=[oM 87 8,
 oC 88 25 #[(.tmp 87)] #[90],
 oM 86 88,
 (some 89, .extract (.tmp 86) 0,none),
 (some 90, .extract (.tmp 86) 1,none),
 oA 11 89,
 oA 12 90] :=by kernel_rfl
theorem ajp:aZ Xa=[oM 91 12,
 oF 92 65 5 0,
 oF 93 61 92 0,
 oL 94 3 93,
 oB 95 .gtr 3 91 94] :=by kernel_rfl
theorem ac4:fy Try.f11=(.seq (.region 0 Xh false) (.seq (.region 1 Xg false) (.seq (.region 2 Xf false) (.seq (.seq (.region 3 Xe false) (.cond (.tmp 64) (.seq (.region 4 ajU false) .ret) .skip)) (.seq (.seq (.region 5 Xd false) (.seq (.region 6 Xc false) (.cond (.tmp 85) (.seq (.region 7 ajT false) .ret) .skip))) (.seq (.seq (.region 8 Xb false) (.seq (.region 9 Xa false) (.cond (.tmp 95) (.seq (.region 10 ab2 false) .ret) .skip))) (.seq (.region 11 Re true) .ret))))))):=by kernel_rfl
theorem Q2:Try.f11.body=some (fy Try.f11):=by kernel_rfl
theorem aqc:Try.f11.ntmps=110:=by kernel_rfl
theorem ais:Try.f11.results= #[.tmp 6] :=by kernel_rfl
theorem LN(args:Array Value)(w:World):(callFunc 11 args).run Try.prog w= .ok (.enter 11 args) w:=by
 unfold callFunc
 have hn:Try.f11.name≠ "runtime.NumGoroutine" :=by decide+kernel
 simp[Try.func11,Q2,hn]
def aaf:=an 0 Try.f7
def aae:=an 1 Try.f7
def aad:=an 2 Try.f7
def ahc:=an 3 Try.f7
def aac:=an 4 Try.f7
def aab:=an 5 Try.f7
def Z9:=an 7 Try.f7
def Z8:=an 8 Try.f7
def Z7:=an 9 Try.f7
def aaa:=an 6 Try.f7
def PX:=an 10 Try.f7
def PW:=an 11 Try.f7
def PV:=an 12 Try.f7
def PU:=an 13 Try.f7
def PT:=an 14 Try.f7
def PS:=an 15 Try.f7
def PR:=an 16 Try.f7
def PQ:=an 17 Try.f7
theorem ap3:aZ aaf=[(some 3, .box 49 (.tmp 1),none),
 (some 4, .assign (.const (.bool false)),none)] :=by kernel_rfl
theorem ap2:aZ aae=[(some 10, .buildSlice 29 3 #[(0, .const (.int .i64 1)),(1, .const (.int .i64 2)),(2, .const (.int .i64 3))],none),
 (some 11, .build 31 #[(0, .tmp 10)],none),
 (some 12, .build 65 #[],none),
 oC 13 11 #[(.const (.int .i64 1)),(.tmp 11),(.tmp 12)] #[3,31,65],
 oA 5 13] :=by kernel_rfl
theorem ap1:aZ aad=[oM 14 5,
 (some 15, .binOp .eql 52 (.tmp 14) (.const (.pointer none)) 52,none)] :=by kernel_rfl
theorem ap0:aZ aac=[(some 6, .assign (.const (.int .i64 0)),none)] :=by kernel_rfl
theorem apZ:aZ aab=[oM 16 6,
 oM 17 0,
 oE 18 17 22,
 oB 19 .lss 3 16 18] :=by kernel_rfl
theorem apX:aZ Z9=[oM 22 0,
 oM 23 6,
 oI 24 22 22 23,
 oF 25 51 24 0,
 oL 26 3 25,
 oC 27 8 #[(.tmp 26),(.const (.int .i64 2))] #[3,3],
 (some 28, .binOp .eql 3 (.tmp 27) (.const (.int .i64 0)) 3,none)] :=by kernel_rfl
theorem apW:aZ Z8=[oM 29 5,
 oM 30 0,
 oM 31 6,
 oI 32 22 30 31,
 oF 33 51 32 1,
 oL 34 3 33,
 oC 35 15 #[(.tmp 29),(.tmp 34)] #[52,3]] :=by kernel_rfl
theorem apV:aZ Z7=[oM 36 5,
 oM 37 0,
 oM 38 6,
 oI 39 22 37 38,
 oF 40 51 39 3,
 oL 41 49 40,
 oC 42 17 #[(.tmp 36),(.tmp 41)] #[52,49]] :=by kernel_rfl
theorem apY:aZ aaa=[oM 20 6,
 (some 21, .binOp .add 3 (.tmp 20) (.const (.int .i64 1)) 3,none),
 oA 6 21] :=by kernel_rfl
theorem aiM:aZ PX=[oM 43 5,
 oC 44 12 #[(.tmp 43)] #[52],
 (some 7, .alloc 67,none),
 oS 67 7 44] :=by kernel_rfl
theorem aiL:aZ PW=[oF 45 49 3 2,
 (none, .store 3 (.tmp 45) (.const (.int .i64 1)),none)] :=by kernel_rfl
theorem aiK:aZ PV=[oF 46 49 3 3,
 oL 47 3 46,
 oF 48 67 7 2,
 oF 49 61 48 0,
 oL 50 3 49,
 (some 51, .binOp .add 3 (.tmp 50) (.const (.int .i64 1)) 3,none),
 oC 52 8 #[(.tmp 47),(.tmp 51)] #[3,3],
 oF 53 49 3 3,
 oS 3 53 52] :=by kernel_rfl
theorem aiJ:aZ PU=[oF 54 49 3 3,
 oL 55 3 54,
 oF 56 67 7 2,
 oF 57 61 56 0,
 oL 58 3 57,
 oB 59 .geq 3 55 58] :=by kernel_rfl
theorem aiI:aZ PT=[oC 60 13 #[] #[],
 oA 4 60] :=by kernel_rfl
theorem aiH:aZ PS=[oM 61 5,
 oL 62 49 3,
 oC 63 17 #[(.tmp 61),(.tmp 62)] #[52,49],
 (some 8, .alloc 75,none),
 oS 75 8 63] :=by kernel_rfl
theorem aiG:aZ PR=[oM 64 5,
 oC 65 12 #[(.tmp 64)] #[52],
 (some 9, .alloc 67,none),
 oS 67 9 65] :=by kernel_rfl
theorem aiF:aZ PQ=[oF 66 75 8 0,
 oL 67 4 66,
 (some 68, .unOp .not 4 (.tmp 67),none),
 oM 69 68,
 oF 70 75 8 5 (some (3,true)),
 oL 71 28 70 (some (3,true)),
 oE 72 71 28 (some (3,true)),
 (some 73, .binOp .eql 3 (.tmp 72) (.const (.int .i64 0)) 3,some (3,true)),
 oP 74 69 73 false,
 oM 75 74,
 oF 76 75 8 3 (some (9,true)),
 oL 77 72 76 (some (9,true)),
 (some 78, .binOp .eql 72 (.tmp 77) (.const (.pointer none)) 72,some (9,true)),
 oP 79 75 78 false,
 oM 80 79,
 oF 81 67 7 0 (some (14,true)),
 oL 82 3 81 (some (14,true)),
 oF 83 67 9 0 (some (14,true)),
 oL 84 3 83 (some (14,true)),
 oB 85 .eql 3 82 84 (some (14,true)),
 oP 86 80 85 false,
 oM 87 86,
 oF 88 67 7 1 (some (21,true)),
 oL 89 3 88 (some (21,true)),
 oF 90 67 9 1 (some (21,true)),
 oL 91 3 90 (some (21,true)),
 oB 92 .eql 3 89 91 (some (21,true)),
 oP 93 87 92 false,
 oM 94 93,
 oF 95 67 7 2 (some (28,true)),
 oL 96 61 95 (some (28,true)),
 oF 97 67 9 2 (some (28,true)),
 oL 98 61 97 (some (28,true)),
 oB 99 .eql 61 96 98 (some (28,true)),
 oP 100 94 99 false,
 oM 101 100,
 oF 102 67 7 3 (some (35,true)),
 oL 103 3 102 (some (35,true)),
 oF 104 67 9 3 (some (35,true)),
 oL 105 3 104 (some (35,true)),
 oB 106 .eql 3 103 105 (some (35,true)),
 oP 107 101 106 false,
 oM 108 107,
 oF 109 67 7 4 (some (42,true)),
 oL 110 3 109 (some (42,true)),
 oF 111 67 9 4 (some (42,true)),
 oL 112 3 111 (some (42,true)),
 oB 113 .eql 3 110 112 (some (42,true)),
 oP 114 108 113 false,
 oM 115 114,
 oF 116 67 7 5 (some (49,true)),
 oL 117 3 116 (some (49,true)),
 oF 118 67 9 5 (some (49,true)),
 oL 119 3 118 (some (49,true)),
 oB 120 .eql 3 117 119 (some (49,true)),
 oP 121 115 120 false,
 oM 122 121,
 oC 123 13 #[] #[] (some (56,true)),
 oP 124 122 123 false,
 oA 4 124] :=by kernel_rfl
theorem QE:fy Try.f7=(.seq (.region 0 aaf false) (.seq (.region 1 aae false) (.seq (.seq (.region 2 aad false) (.cond (.tmp 15) (.seq (.region 3 ahc false) .ret) .skip)) (.seq (.seq (.region 4 aac false) (.block 0 (.loop (.seq (.seq (.region 5 aab false) (.cond (.tmp 19) .skip (.exit 0))) (.seq (.block 1 (.seq (.region 7 Z9 false) (.cond (.tmp 28) (.region 8 Z8 false) (.region 9 Z7 false)))) (.region 6 aaa false)))))) (.seq (.region 10 PX false) (.seq (.region 11 PW false) (.seq (.region 12 PV false) (.seq (.seq (.region 13 PU false) (.cond (.tmp 59) (.seq (.region 14 PT false) .ret) .skip)) (.seq (.region 15 PS false) (.seq (.region 16 PR false) (.seq (.region 17 PQ false) .ret))))))))))):=by kernel_rfl
theorem WA:Try.f7.body=some (fy Try.f7):=by kernel_rfl
theorem nt7:Try.f7.ntmps=125:=by kernel_rfl
theorem agz:Try.f7.results= #[.tmp 4] :=by kernel_rfl
theorem acT(args:Array Value)(w:World):(callFunc 7 args).run Try.prog w= .ok (.enter 7 args) w:=by
 unfold callFunc
 have hn:Try.f7.name≠ "runtime.NumGoroutine" :=by decide+kernel
 simp[Try.func7,WA,hn]
def QB:List ((Nat×Nat)×Nat):=[((31,0),0),((31,1),1),((44,0),0),((49,2),2),((49,3),3),((51,0),0),((51,1),1),((51,3),3),((51,4),49),((59,0),0),((59,1),2),((59,2),3),((59,3),4),((59,4),5),((59,5),6),((59,6),7),((59,7),8),((59,9),10),((61,0),0),((61,1),1),((63,0),0),((63,1),1),((63,2),2),((63,3),4),((65,0),0),((65,1),2),((65,2),7),((67,0),0),((67,1),1),((67,2),2),((67,3),4),((67,4),5),((67,5),6),((75,0),0),((75,1),1),((75,2),3),((75,3),4),((75,4),5),((75,5),6),((78,0),0),((78,1),1),((78,2),2)]
theorem akM:(QB.all fun x=>(kQ Try.prog x.1.1 x.1.2).map (fun y=>(y.1.offset,decide (0<y.2)))==some (x.2,true))=true:=by kernel_rfl
theorem arz{t f off:Nat}(h:lk QB (t,f)=some off):(kQ Try.prog t f).map (fun y=>(y.1.offset,decide (0<y.2)))=some (off,true):=by
 have:=aV.1 akM _ (fF h)
 simpa using this
end
attribute [local irreducible] TL
def WE:List Nat:=[22,27,28,29,54,56]
theorem ain:(WE.all fun t=>slB Try.prog t)=true:=by kernel_rfl
def ahf(m:List (Nat×Value))(f:Callee):List Operand→List TypeId→Option Value
 | [x],[t] =>match f with
  | .builtin .len=>match lB m x with
   |some (.slice _ nn _)=>if WE.contains t then some (.int .i64 nn) else none
   |_=>none
  |_=>none
 |_,_=>none
def smV(m:List (Nat×Value)):Op→Option Value
 | .move x=>lB m x
 | .assign x=>lB m x
 | .nilCheck x=>match lB m x with
  |some (.pointer (some ad))=>some (.pointer (some ad))
  |_=>none
 | .fieldAddr t x fl=>match lB m x with
  |some (.pointer (some ⟨b,o,none⟩))=>match lk QB (t,fl) with
   |some off=>some (.pointer (some ⟨b,o+off,none⟩))
   |none=>none
  |_=>none
 | .call c=>ahf m c.callee c.args.toList c.argTypes.toList
 |_=>none
section
variable{ops:Array Oper}{Q:Exit→Act→World→Prop}{S:World→Prop}{n n0 i d:Nat}{a:Act}{w:World}{m:List (Nat×Value)}{gd:Option (Nat×Bool)}{L r:List OK}{v:Value}{x:Operand}
theorem sm{op:Op}{b:Bool}(k:Kn n a m)(h: ∀a',Kn n a' ((d,v)::m)→TL Try.prog ops Q S n0 L r (i+1) a' w)(hS:S w:=by assumption)(hg:pU L m gd=some b:=by rfl)(hd:d<n:=by decide)(hv:(match b with|true=>smV m op|false=>some undef)=some v:=by rfl):TL Try.prog ops Q S n0 L ((some d,op,gd)::r) i a w:=by
 cases b with
 |false=>injection hv with hv;subst hv;exact apB k hS hg hd h
 |true=>
 replace hv:smV m op=some v:=hv
 unfold smV at hv
 split at hv
 ·exact UN k hS hg hd hv h
 ·exact MW k hS hg hd hv h
 ·split at hv
  ·rename_i hx
   injection hv with hv
   subst hv
   exact abe k hS hg hd hx h
  ·cases hv
 ·split at hv
  ·rename_i hx
   split at hv
   ·rename_i hf
    injection hv with hv
    subst hv
    exact ail k hS hg hd hx (arz hf) h
   ·cases hv
  ·cases hv
 ·rename_i c
  obtain⟨f,⟨ps⟩,⟨ts⟩⟩:=c
  unfold ahf at hv
  split at hv
  ·rename_i x t e1 e2
   split at hv
   ·rename_i hf
    split at hv
    ·rename_i hx
     split at hv
     ·rename_i hc
      injection hv with hv
      subst hv
      have pV:ps=[x] :=e1
      have e2':ts=[t] :=e2
      have hf':f= .builtin .len:=hf
      subst pV e2' hf'
      exact QR k hS hg hd hx (aV.1 ain t (by simpa using hc)) h
     ·cases hv
    ·cases hv
   ·cases hv
  ·cases hv
 ·cases hv
theorem ld{t:TypeId}{ad:Addr}(k:Kn n a m)(hc: ∀w',S w'→w'.cell? ad=some v)(h: ∀a',Kn n a' ((d,v)::m)→TL Try.prog ops Q S n0 L r (i+1) a' w)(hS:S w:=by assumption)(hg:pU L m gd=some true:=by rfl)(hd:d<n:=by decide)(hx:lB m x=some (.pointer (some ad)):=by rfl)
  (ha:fY Try.prog t=false:=by kernel_rfl) (hu:(Try.prog.underlying t).isSome=true:=by kernel_rfl):TL Try.prog ops Q S n0 L ((some d, .load t x,gd)::r) i a w:=ti k hS hg hd hx ha hu hc h
theorem pk{y z:Operand}{c:Bool}(k:Kn n a m)(hx:lB m x=some (.bool c))(hy:lB m (if c then y else z)=some v)(h: ∀a',Kn n a' ((d,v)::m)→TL Try.prog ops Q S n0 L r (i+1) a' w)(hS:S w:=by assumption)(hg:pU L m gd=some true:=by rfl)(hd:d<n:=by decide):TL Try.prog ops Q S n0 L ((some d, .pick x y z,gd)::r) i a w:=UM k hS hg hd hx hy h
theorem cm{y:Operand}{t t2:TypeId}{bo:BinOp}{kk:IntKind}{p q:Int}{c:Bool}(k:Kn n a m)(hx:lB m x=some (.int kk p))(hy:lB m y=some (.int kk q))(hc:IV bo p q=some c)(h: ∀a',Kn n a' ((d, .bool c)::m)→TL Try.prog ops Q S n0 L r (i+1) a' w)(hS:S w:=by assumption)(hg:pU L m gd=some true:=by rfl)(hd:d<n:=by decide):TL Try.prog ops Q S n0 L ((some d, .binOp bo t x y t2,gd)::r) i a w:=abg k hS hg hd hx hy hc h
theorem lN{t:TypeId}{b off nn:Nat}{vs:List Value}(k:Kn n a m)(hx:lB m x=some (.pointer (some ⟨b,off,none⟩)))(hl:vs.length=nn)(hc: ∀w',S w'→ ∀(j:Nat) v,vs[j]? =some v→w'.cell? ⟨b,off+j,none⟩=some v)(h: ∀a',Kn n a' ((d, .agg vs.toArray)::m)→TL Try.prog ops Q S n0 L r (i+1) a' w)(hS:S w:=by assumption)(hg:pU L m gd=some true:=by rfl)(hd:d<n:=by decide)(hs:fG Try.prog t=some nn:=by kernel_rfl)(ha:fY Try.prog t=true:=by kernel_rfl):TL Try.prog ops Q S n0 L ((some d, .load t x,gd)::r) i a w:=abf k hS hg hd hx hs ha hl hc h
theorem FU{y:Operand}{t el:TypeId}{b nn cap sz s:Nat}{kk:IntKind}(k:Kn n a m)(hx:lB m x=some (.slice (some ⟨b,0,none⟩) nn cap))(hy:lB m y=some (.int kk (s:Int)))(h1:s<nn)(h: ∀a',Kn n a' ((d, .pointer (some ⟨b,s*sz,none⟩))::m)→TL Try.prog ops Q S n0 L r (i+1) a' w)(hS:S w:=by assumption)(hg:pU L m gd=some true:=by rfl)(hd:d<n:=by decide)(hu:Try.prog.underlying t=some (.slice el):=by kernel_rfl)(fo:fG Try.prog el=some sz:=by kernel_rfl):TL Try.prog ops Q S n0 L ((some d, .indexAddr t x y,gd)::r) i a w:=I2 k hS hg hd hx hy hu fo h1 h
theorem rg{id:Nat}{draw:Bool}{Q':Exit→Act→World→Prop}(X:Nat→Prop)(hQ:QP Q)(hl:aZ ops=L)(h: ∀w1,DV w w1→TL Try.prog ops Q' (SX X w1) 0 L L 0 a w1)(hd:draw=true→tOk ops 0=true:=by decide)(hR: ∀c a w,Q' (.panic c) a w=Q (.panic c) a w:=by intro _ _ _;rfl):(Code.region id ops draw).wp Try.prog Q' a w:=
 jJ 0 X mix (fun c a d v w h=>by rw[hR]at h⊢;exact hQ c a d v w h) hl hd h
end
def dN(l:List D)(n:Int):List D:=l++List.replicate (n+1-l.length).toNat (.int .i64 0)
theorem HM{l:List D}{n:Int}(h:(l.length:Int)≤n):dN (l++[.int .i64 0]) n=dN l n:=by
 unfold dN
 rw[List.append_assoc,List.length_append,List.length_singleton]
 congr 1
 rw[show(n+1-(l.length:Int)).toNat=(n+1-((l.length+1:Nat):Int)).toNat+1 by omega,List.replicate_succ]
 rfl
theorem HN{l:List D}{n:Int}(h:n<(l.length:Int)):dN l n=l:=by
 unfold dN
 rw[show(n+1-(l.length:Int)).toNat=0 by omega]
 simp
theorem NI:I6.bytes=8:=rfl
theorem se{n:Nat}(h:n≤100000000):lP I6 n:=by
 refine⟨by simp only[maxLen];omega,?_⟩
 rw[NI];omega
theorem yo{w:World}{S:aO}{ow:Ow}{fU:Nat}{v:Value}{l:List D}{n:Int}(h:bU w S ow fU 3 I6 v l)(hw:Wf w S ow)(h0:0≤n)(hn:n≤1000000)(hl:l.length≤2000000):
  Calls Try.prog 54 [v, .int .i64 n].toArray w fun e w'=> ∃v' aT,e= .returned v'∧aC (bJ fU) ae w S ow w' S aT∧Wf w' S aT∧bU w' S aT fU 3 I6 v' (dN l n)∧(dN l n).length≤2000001:=by
 refine jZ Try.func54 QX acZ ap7 (by show 2≤13;omega) ?_
 intro a k
 have hQ:=gp (P:=Try.prog) (fn:=Try.f54) (R:=fun e w'=> ∃v' aT,e= .returned v'∧aC (bJ fU) ae w S ow w' S aT∧Wf w' S aT∧bU w' S aT fU 3 I6 v' (dN l n)∧(dN l n).length≤2000001)
 refine wp_seq (rg ae hQ aiQ ?_)
 intro w1 e1
 have s0:=SX.refl ae w1
 repeat refine sm k fun a k=> ?_
 refine ar ?_
 have O9:=aC.aG e1 (bJ fU) ae S ow
 have fC:Wf w1 S ow:=⟨fun b o hs=>by rw[e1.heap];exact hw.s b o hs,fun b l hl=>by rw[e1.heap];exact hw.o b l hl,hw.d⟩
 have h1:=h.aB hw (aC.aG e1 ae ae S ow) (fun h=>h)
 refine wp_seq (wp_block (wp_loop_ghost (fun m a W=> ∃v1 l1 dA,m=(n+1-(l1.length:Int)).toNat∧Kn 13 a [(0,v1),(1, .int .i64 n)] ∧aC (bJ fU) ae w S ow W S dA∧Wf W S dA∧bU W S dA fU 3 I6 v1 l1∧dN l1 n=dN l n∧l1.length≤2000001) (n+1-(l.length:Int)).toNat
  ⟨v,l,ow,rfl,k.sub ⟨rfl,rfl,trivial⟩,O9,fC,h1,rfl,by omega⟩ ?_))
 clear k O9 fC h1 s0 e1 w1
 rintro m a W ⟨v1,l1,dA,rfl,k,mj,jG,ho,hg,hlen⟩
 obtain⟨A,cap,rfl⟩:=ho.slice
 refine wp_seq (wp_seq (rg ae hQ aiP ?_))
 intro w1 e1
 have s0:=SX.refl ae w1
 repeat refine sm k fun a k=> ?_
 refine cm (c:=decide ((l1.length:Int)≤n)) k rfl rfl rfl fun a k=> ?_
 refine ar ?_
 have O9:=mj.N3 hw jG (aC.aG e1 (bJ fU) ae S dA) (fun _ h=>h.elim)
 have fC:Wf w1 S dA:=⟨fun b o hs=>by rw[e1.heap];exact jG.s b o hs,fun b l hl=>by rw[e1.heap];exact jG.o b l hl,jG.d⟩
 have ho1:=ho.aB jG (aC.aG e1 ae ae S dA) (fun h=>h)
 refine aR k rfl ?_
 by_cases hc:(l1.length:Int)≤n
 ·rw[if_pos (by simpa using hc)]
  refine wp_skip ?_
  refine wp_block (rg (fun b=>dA b=some fU) hQ aiO ?_)
  intro w2 e2
  have s0:=SX.refl (fun b=>dA b=some fU) w2
  have eK:Wf w2 S dA:=⟨fun b o hs=>by rw[e2.heap];exact fC.s b o hs,fun b l hl=>by rw[e2.heap];exact fC.o b l hl,fC.d⟩
  have xQ:=ho1.aB fC (aC.aG e2 ae ae S dA) (fun h=>h)
  have aay:=O9.N3 hw fC (aC.aG e2 (bJ fU) ae S dA) (fun _ h=>h.elim)
  repeat refine sm k fun a k=> ?_
  refine nt (kk:=1) (T:=3) k (by decide) rfl (by decide) rfl (by kernel_rfl) rfl (fun _=>SX.alloc _ _ _) fun a k=> ?_
  obtain⟨tf,n8⟩:=aC.alloc eK (.cells (Value.int .i64 0).cells 3)
  have TC:=xQ.aB eK tf (fun h=>h)
  refine uG k (by decide) rfl (by decide) fun ty pos af=> ?_
  obtain⟨v',w',cM,aT,Gj,gw,Zd⟩:=TC.MP (P:=Try.prog) (tt:=29) (by kernel_rfl) rfl n8 ty w2.heap.size (d:= .int .i64 0) ⟨0,rfl,by decide⟩ (us:=[.int .i64 0]) rfl (heap_alloc_new w2 _) (by
   intro j u c hu hc
   match j,hu,hc with
   |0,hu,hc=>injection hu with hu;injection hc with hc;subst hu hc;exact .int _ _) (se (by omega))
  refine⟨v',w',iX (k.op rfl) (k.op rfl) cM,fun _=>(SX.alloc _ _ _).trans (SX.fU (fun _ h=>h) Gj),fun a k=> ?_⟩
  have s1:SX (fun b=>dA b=some fU) w2 w':=(SX.alloc _ _ _).trans (SX.fU (fun _ h=>h) Gj)
  repeat refine sm k fun a k=> ?_
  refine ar ?_
  refine⟨_,?_,v',l1++[.int .i64 0],aT,rfl,k.sub ⟨rfl,rfl,trivial⟩,aay.N3 hw eK (aC.trN eK n8 tf Gj (fun _ h=>h.elim)) (fun _ h=>h.elim),gw,Zd,(HM hc).trans hg,by rw[List.length_append,List.length_singleton];omega⟩
  rw[List.length_append,List.length_singleton];omega
 ·rw[if_neg (by simpa using hc)]
  refine wp_exit ?_
  refine wp_seq (rg ae hQ aiN ?_)
  intro w2 e2
  have s0:=SX.refl ae w2
  repeat refine sm k fun a k=> ?_
  refine ar ?_
  have aay:=O9.N3 hw fC (aC.aG e2 (bJ fU) ae S dA) (fun _ h=>h.elim)
  have hd:=HN (l:=l1) (n:=n) (by omega)
  have xQ:=ho1.aB fC (aC.aG e2 ae ae S dA) (fun h=>h)
  refine wp_ret (oQ aio k rfl ⟨_,dA,rfl,aay,⟨fun b o hs=>by rw[e2.heap];exact fC.s b o hs,fun b l hl=>by rw[e2.heap];exact fC.o b l hl,fC.d⟩,?_,?_⟩).1
  ·rw[←hg,hd];exact xQ
  ·rw[←hg,hd];exact hlen
def ji(g:GS)(i:Nat):RS:=g.fZ.getD i aW
def qB(l:List D)(i:Nat):Int:=(l.getD i .top).ab
def GD(i:Nat)(x:RS)(g:GS):GS:=
 let ld:=dN g.aI x.term
 let SH:=qB ld x.term.toNat
 {g with aI:=ld.set x.term.toNat (.int .i64 (i+1)),bad:=g.bad||(SH !=0&&SH !=(i+1:Int))}
def tX(i:Nat)(x:RS)(g:GS):GS:=
 let l:=dN (g.aE.getD i []) x.term
 let BY:=qB l x.term.toNat
 {g with aE:=g.aE.set i (l.set x.term.toNat (.int .i64 x.vote)),bad:=g.bad||(BY !=0&&x.vote !=BY)}
def tq(i:Nat)(g:GS):GS:=
 let x:=ji g i
 if x.term<qB g.bW i∨5000<x.term then{g with bad:=g.bad||decide (x.term<qB g.bW i)}
 else
  let g2:=tX i x {g with bW:=g.bW.set i (.int .i64 x.term)}
  if x.role=2 then GD i x g2 else g2
def LG(l:Nat):Prop:=l<60∨100≤l
structure IY(g:GS):Prop where
 n5:g.fZ.length≤5
 bW:g.bW.length=g.fZ.length
 aE:g.aE.length=g.fZ.length
 saved:g.saved.length=g.fZ.length
 lead:g.aI.length≤2000000
 vl: ∀l∈g.aE,l.length≤2000000
theorem acI{d:D}(h:Has I6 d):d= .int .i64 d.ab∧kr .i64 d.ab:=by
 obtain⟨n,rfl,hn⟩:=h
 exact⟨rfl,hn⟩
theorem vP{l:List D}(h: ∀x∈l,Has I6 x){i:Nat}(hi:i<l.length):l[i]? =some (.int .i64 (qB l i)):=by
 have e:l[i]? =some l[i] :=av hi
 obtain⟨h1,_⟩:=acI (h _ (aS e))
 rw[e]
 unfold qB
 rw[List.getD_eq_getElem?_getD,e,Option.getD_some]
 exact congrArg some h1
theorem GM.zD{w:World}{S:aO}{ow:Ow}{b:Nat}{R:GR}{g:GS}{c:Bool}(h:GM w S ow b (R.cells c) R g)(v:Bool):aC (bJ 0) ae w S ow (w.setRow b ((R.cells c).set 10 (.bool v)).toArray) S ow∧GM (w.setRow b ((R.cells c).set 10 (.bool v)).toArray) S ow b (R.cells v) R {g with bad:=v}:=by
 obtain⟨h1,h2,h3⟩:=h.obj.set h.wf (us:=(R.cells c).set 10 (.bool v))
 have:=h.setObj h1 h2 h3
 exact⟨h1,this.wf,this.obj,this.fv,this.fl,this.arr,this.yI,this.fZ,this.saved,this.gW,this.told,this.aI,this.bW,this.read,this.CK,this.zf,this.pf⟩
def oH(w:World)(S:aO)(ow:Ow)(b:Nat)(g':GS)(e:Ending)(w':World):Prop:= ∃S' aT,e= .returned (.tuple #[])∧aC LG ae w S ow w' S' aT∧th w' S' aT b g'
def G7(w:World)(S:aO)(ow:Ow)(b:Nat)(g':GS):Exit→Act→World→Prop:=bodyPost Try.prog Try.f19 (oH w S ow b g')
def uB(x:RS)(v1 v2:Value):List Value:=[.int .i64 x.role, .int .i64 x.aI, .int .i64 x.term, .int .i64 x.vote, .int .i64 x.aJ, .int .i64 (x.li+x.le.length), .int .i64 x.li,v1,v2]
section
variable{w0 w:World}{S0 S:aO}{kK ow:Ow}{b b4 i:Nat}{g0 g g':GS}{R:GR}{x:RS}{v1 v2:Value}{Q:Exit→Act→World→Prop}{a:Act}
theorem G6(hQ:QP Q)(nM: ∀a w,G7 w0 S0 kK b g' .ret a w→Q .ret a w)(gi:Wf w0 S0 kK)(st:aC LG ae w0 S0 kK w S ow)(gm:GM w S ow b (R.cells g.bad) R g)(kV:R.la=R.lb)(lL:R.va=R.vv)(lx:dP w S ow b4 67 (uB x v1 v2))
  (eC:i<g.bW.length) (hg:g'={g with bad:=g.bad||decide (x.term<qB g.bW i)}) (k:Kn 160 a [(4, .pointer (some ⟨b4,0,none⟩)),(0,aM b),(1, .int .i64 i)]):
  (Code.seq (.region 2 K1 true) .ret).wp Try.prog Q a w:=by
 have ht:=vP (fun y hy=>gm.bW.all y hy) eC
 refine wp_seq (jJ (n0:=18) ae mix (fun c a d v w h=>hQ c a d v w h) ai2 (fun _=>by kernel_rfl) ?_)
 intro w1 e1
 have dB:=gm.aG e1
 have yH:=lx.aG e1
 have gC:=st.aF gi gm.wf (aC.aG e1 ae ae S ow) (fun _ h=>h.elim)
 have s0:=SX.refl ae w1
 obtain⟨bt,Ct,wI,yN,Ig,F5⟩:=bU.vO dB.bW ht
 repeat (first|refine sm k fun a k=> ?_|refine ld k (yH.cell (fun h=>h) rfl) fun a k=> ?_|refine ld k (dB.cell (fun h=>h) rfl) fun a k=> ?_)
 have fin: ∀(LL:List OK) (a:Act),Kn 160 a [(51, .pointer (some ⟨b,10,none⟩)),(49, .bool (g.bad||decide (x.term<qB g.bW i)))] →TL Try.prog K1 (Exit.then (Code.wp Try.prog Code.ret Q) Q) (SX ae w1) 18 LL [oS 4 51 49] 20 a w1:=by
  intro LL a k
  refine iN (cur:=R.cells g.bad) k (by decide) rfl (by kernel_rfl) rfl rfl rfl dB.obj.heap (by show 10<11;omega) rfl (fun h=>absurd rfl h) fun a k=> ?_
  refine ar (wp_ret (nM _ _ (mn PF k ?_).1))
  obtain⟨h1,h2⟩:=dB.zD (g.bad||decide (x.term<qB g.bW i))
  exact⟨S,ow,rfl,gC.dJ gi dB.wf h1 (.inl (by decide)),R,by rw[hg];exact h2,kV,lL⟩
 cases hb:g.bad with
 |true=>
  rw[hb]at k
  repeat (first|refine sm k fun a k=> ?_|refine ld k (yH.cell (fun h=>h) rfl) fun a k=> ?_|refine ld k (dB.cell (fun h=>h) rfl) fun a k=> ?_)
  refine pk k rfl rfl fun a k=> ?_
  repeat (first|refine sm k fun a k=> ?_|refine ld k (yH.cell (fun h=>h) rfl) fun a k=> ?_|refine ld k (dB.cell (fun h=>h) rfl) fun a k=> ?_)
  refine fin _ a (k.sub ⟨rfl,?_,trivial⟩)
  rw[hb];rfl
 |false=>
  rw[hb]at k
  repeat (first|refine sm k fun a k=> ?_|refine ld k (yH.cell (fun h=>h) rfl) fun a k=> ?_|refine ld k (dB.cell (fun h=>h) rfl) fun a k=> ?_)
  rw[wI]at k
  refine FU (el:=3) (sz:=1) k rfl rfl eC fun a k=> ?_
  refine ld k (ez yN (fun h=>h) F5) fun a k=> ?_
  refine cm (c:=decide (x.term<qB g.bW i)) k rfl rfl rfl fun a k=> ?_
  refine pk k rfl rfl fun a k=> ?_
  repeat (first|refine sm k fun a k=> ?_|refine ld k (yH.cell (fun h=>h) rfl) fun a k=> ?_|refine ld k (dB.cell (fun h=>h) rfl) fun a k=> ?_)
  refine fin _ a (k.sub ⟨rfl,?_,trivial⟩)
  rw[hb];rfl
end
theorem Dp{n:Int}(h0:0≤n)(h:n≤4000000000000000000):kr .i64 n:=by
 have h1:IntKind.i64.min= -9223372036854775808:=by decide
 have h2:IntKind.i64.max=9223372036854775807:=by decide
 exact⟨by rw[h1];omega,by rw[h2];omega⟩
theorem Hg{l:List D}{n:Int}(h:0≤n):n.toNat<(dN l n).length:=by
 unfold dN
 rw[List.length_append,List.length_replicate]
 omega
theorem ER{n:Int}: ∀(j:Nat) u c,[Value.int .i64 n][j]? =some u→(D.int .i64 n).cells[j]? =some c→ ∀{w:World} {S:aO},bj w S u c:=by
 intro j u c hu hc w S
 match j,hu,hc with
 |0,hu,hc=>injection hu with hu;injection hc with hc;subst hu hc;exact .int _ _
section
variable{w0 w:World}{S0 S:aO}{kK ow:Ow}{b b4 i:Nat}{g0 g g':GS}{R:GR}{x:RS}{v1 v2:Value}{Q:Exit→Act→World→Prop}{a:Act}
theorem Nu(hQ:QP Q)(nM: ∀a w,G7 w0 S0 kK b g' .normal a w→Q .normal a w)(gi:Wf w0 S0 kK)(st:aC LG ae w0 S0 kK w S ow)(gm:GM w S ow b (R.cells g.bad) R g)(kV:R.la=R.lb)(lL:R.va=R.vv)(lx:dP w S ow b4 67 (uB x v1 v2))
  (Y5:0≤x.term) (ht5:x.term≤5000) (om:g.aI.length≤2000000) (hi:i<5) (hg:g'=GD i x g) (k:Kn 160 a [(4, .pointer (some ⟨b4,0,none⟩)),(0,aM b),(1, .int .i64 i)]):
  (Code.seq (.region 10 Ev true) (.seq (.region 11 Eu true) (.seq (.seq (.region 12 Et false) (.cond (.tmp 146) (.region 13 Es false) .skip)) (.region 14 Ar true)))).wp Try.prog Q a w:=by
 refine wp_seq (jJ (n0:=8) (fun bb=>ow bb=some 13) mix (fun c a d v w h=>hQ c a d v w h) abB (fun _=>by kernel_rfl) ?_)
 intro w1 e1
 have dB:=gm.aG e1
 have yH:=lx.aG e1
 have gC:=st.aF gi gm.wf (aC.aG e1 ae ae S ow) (fun _ h=>h.elim)
 have s0:=SX.refl (fun bb=>ow bb=some 13) w1
 have zh: ¬ow b=some 13:=by rw[dB.obj.ow];decide
 have hx4: ¬ow b4=some 13:=by rw[yH.ow];decide
 repeat (first|refine sm k fun a k=> ?_|refine ld k (yH.cell hx4 rfl) fun a k=> ?_|refine ld k (dB.cell zh rfl) fun a k=> ?_)
 refine gU (vs:=[R.aI, .int .i64 x.term]) k (by decide) rfl (by decide) LJ rfl (yo dB.aI dB.wf Y5 (by omega) om) ?_
 rintro e w2 ⟨v',aT,rfl,en,eK,xQ,hlen⟩
 obtain⟨Av,cv,ng⟩:=xQ.slice
 refine⟨_,rfl,fun _=>SX.fU (fun _ h=>h) en,fun a k=> ?_⟩
 have s1:=SX.fU (X:=fun bb=>ow bb=some 13) (fun _ h=>h) en
 have gA:=dB.Bq en eK xQ
 have BT:=yH.aB en (fun h=>h)
 have OS:=gC.dJ gi dB.wf en (.inl (by decide))
 repeat refine sm k fun a k=> ?_
 refine iN (cur:=R.cells g.bad) k (by decide) rfl (by kernel_rfl) rfl rfl (by rw[ng];rfl) gA.obj.heap (by show 6<11;omega) (by rw[ng];rfl) (fun h=>absurd rfl h) fun a k=> ?_
 refine ar ?_
 obtain⟨eY,gw,TC⟩:=gA.obj.set eK (us:=(R.cells g.bad).set 6 v')
 have ft:GM _ S aT b ({R with aI:=v'}.cells g.bad) {R with aI:=v'} {g with aI:=dN g.aI x.term}:=gA.setObj eY gw TC
 have sy:=BT.aB eY (fun h=>h)
 have Iv:=OS.dJ gi eK eY (.inl (by decide))
 have k:=k.sub (l:=[(4, .pointer (some ⟨b4,0,none⟩)),(0,aM b),(1, .int .i64 i)]) ⟨rfl,rfl,rfl,trivial⟩
 generalize w2.setRow b _=w3 at ft sy Iv⊢
 clear eY gw TC OS BT gA s1 en eK xQ s0 zh hx4
 have aL:=Hg (l:=g.aI) Y5
 have hgi:=vP (fun y hy=>ft.aI.all y hy) aL
 have hN:((x.term.toNat:Nat):Int)=x.term:=Int.toNat_of_nonneg Y5
 refine wp_seq (jJ (n0:=9) ae mix (fun c a d v w h=>hQ c a d v w h) abA (fun _=>by kernel_rfl) ?_)
 intro w4 e4
 have j8:=ft.aG e4
 have od:=sy.aG e4
 have jr:=Iv.aF gi ft.wf (aC.aG e4 ae ae S aT) (fun _ h=>h.elim)
 have s0:=SX.refl ae w4
 repeat (first|refine sm k fun a k=> ?_|refine ld k (od.cell (fun h=>h) rfl) fun a k=> ?_|refine ld k (j8.cell (fun h=>h) rfl) fun a k=> ?_)
 obtain⟨bt,Ct,wI,yN,Ig,F5⟩:=bU.vO j8.aI hgi
 rw[show({R with aI:=v'}:GR).aI=v' from rfl]at wI
 rw[←hN]at k
 rw[wI]at k
 refine FU (el:=3) (sz:=1) k rfl rfl aL fun a k=> ?_
 refine ld k (ez yN (fun h=>h) F5) fun a k=> ?_
 repeat refine sm k fun a k=> ?_
 refine ar ?_
 have k:=k.sub (l:=[(6, .int .i64 (qB (dN g.aI x.term) x.term.toNat)),(4, .pointer (some ⟨b4,0,none⟩)),(0,aM b),(1, .int .i64 i)]) ⟨rfl,rfl,rfl,rfl,trivial⟩
 generalize aap:qB (dN g.aI x.term) x.term.toNat=SH at k
 clear wI yN Ig F5
 have ah3:IntKind.i64.wrap ((i:Int)+1)=i+1:=wrap64 (by omega) (by omega)
 have last: ∀(a:Act) (W:World) (c:Bool) (gm:GM W S aT b ({R with aI:=v'}.cells c) {R with aI:=v'} {g with aI:=dN g.aI x.term,bad:=c}) (lx:dP W S aT b4 67 (uB x v1 v2)) (st:aC LG ae w0 S0 kK W S aT),
   c=(g.bad||(SH !=0&&SH !=(i+1:Int)))→Kn 160 a [(4, .pointer (some ⟨b4,0,none⟩)),(0,aM b),(1, .int .i64 i)] →(Code.region 14 Ar true).wp Try.prog Q a W:=by
  intro a W c gm lx st hc k
  refine jJ (n0:=10) ae mix hQ abx (fun _=>by kernel_rfl) ?_
  intro w5 e5
  have j7:=gm.aG e5
  have rG:=lx.aG e5
  have jq:=st.aF gi gm.wf (aC.aG e5 ae ae S aT) (fun _ h=>h.elim)
  have s0:=SX.refl ae w5
  repeat (first|refine sm k fun a k=> ?_|refine ld k (rG.cell (fun h=>h) rfl) fun a k=> ?_|refine ld k (j7.cell (fun h=>h) rfl) fun a k=> ?_)
  refine lH (s:=(i:Int)+1) k (by assumption) rfl (by decide) rfl rfl ah3 fun a k=> ?_
  obtain⟨bt,Ct,cur,wI,iS,iC,yN,Ig,zE,Ib,zj⟩:=j7.aI.set (i:=x.term.toNat) (d:= .int .i64 (i+1)) (us:=[.int .i64 (i+1)]) j7.wf aL ⟨_,rfl,Dp (by omega) (by omega)⟩ rfl (fun j u c h1 h2=>ER j u c h1 h2)
  rw[show({R with aI:=v'}:GR).aI=v' from rfl]at wI
  rw[←hN]at k
  rw[wI]at k
  refine FU (el:=3) (sz:=1) k rfl rfl aL fun a k=> ?_
  refine lM (vs:=[.int .i64 (i+1)]) (cur:=cur) k (by decide) rfl (by kernel_rfl) rfl rfl rfl iS iC (by simp[Value.oneCell']) (fun h=>absurd rfl h) fun a k=> ?_
  refine ar (nM _ _ (mn PF k ?_).2)
  have ta:=j7.Bq zE Ib zj
  refine⟨S,aT,rfl,jq.dJ gi j7.wf zE (.inl (by decide)),{R with aI:=v'},?_,kV,lL⟩
  rw[hg]
  have:GD i x g={g with aI:=(dN g.aI x.term).set x.term.toNat (.int .i64 (i+1)),bad:=c}:=by
   unfold GD;simp only;rw[aap,hc]
  rw[this]
  exact ta
 refine wp_seq (wp_seq (rg ae hQ abz ?_))
 intro w5 e5
 have j7:=j8.aG e5
 have rG:=od.aG e5
 have jq:=jr.aF gi j8.wf (aC.aG e5 ae ae S aT) (fun _ h=>h.elim)
 have s0:=SX.refl ae w5
 repeat refine sm k fun a k=> ?_
 by_cases hz:SH=0
 ·refine cm (c:=false) k rfl rfl (by rw[hz];rfl) fun a k=> ?_
  repeat refine sm k fun a k=> ?_
  refine pk k rfl rfl fun a k=> ?_
  refine ar (aR k rfl (wp_skip ?_))
  exact last _ _ g.bad j7 rG jq (by rw[hz];cases g.bad<;>rfl) (k.sub ⟨rfl,rfl,rfl,trivial⟩)
 ·refine cm (c:=true) k rfl rfl (congrArg some (by simpa using hz)) fun a k=> ?_
  repeat refine sm k fun a k=> ?_
  refine lH (s:=(i:Int)+1) k (by assumption) rfl (by decide) rfl rfl ah3 fun a k=> ?_
  refine cm (c:=SH !=(i+1:Int)) k rfl rfl rfl fun a k=> ?_
  refine pk k rfl rfl fun a k=> ?_
  refine ar (aR k rfl ?_)
  by_cases hq:(SH !=(i+1:Int))=true
  ·rw[if_pos hq]
   refine rg ae hQ aby ?_
   intro w6 e6
   have ta:=j7.aG e6
   have FT:=rG.aG e6
   have kq:=jq.aF gi j7.wf (aC.aG e6 ae ae S aT) (fun _ h=>h.elim)
   have s0:=SX.refl ae w6
   repeat refine sm k fun a k=> ?_
   refine iN (cur:={R with aI:=v'}.cells g.bad) k (by decide) rfl (by kernel_rfl) rfl rfl rfl ta.obj.heap (by show 10<11;omega) rfl (fun h=>absurd rfl h) fun a k=> ?_
   obtain⟨h1,h2⟩:=ta.zD true
   refine ar (last _ _ true h2 (FT.aB h1 (fun h=>h)) (kq.dJ gi ta.wf h1 (.inl (by decide))) ?_ (k.sub ⟨rfl,rfl,rfl,trivial⟩))
   rw[hq,show(SH !=0)=true by simpa using hz];cases g.bad<;>rfl
  ·rw[if_neg hq]
   refine wp_skip (last _ _ g.bad j7 rG jq ?_ (k.sub ⟨rfl,rfl,rfl,trivial⟩))
   rw[show(SH !=(i+1:Int))=false by simpa using hq];cases g.bad<;>simp
end
section
variable{w0 w:World}{S0 S:aO}{kK ow:Ow}{b b4 i:Nat}{g0 g g':GS}{R:GR}{x:RS}{v1 v2:Value}{Q:Exit→Act→World→Prop}{a:Act}
noncomputable def vM:Code:= .seq (.region 9 PY false) (.cond (.tmp 118) (.seq (.region 10 Ev true) (.seq (.region 11 Eu true) (.seq (.seq (.region 12 Et false) (.cond (.tmp 146) (.region 13 Es false) .skip)) (.region 14 Ar true)))) .skip)
theorem Nt(hQ:QP Q)(nM: ∀a w S ow R,Kn 160 a [(4, .pointer (some ⟨b4,0,none⟩)),(0,aM b),(1, .int .i64 i)] →aC LG ae w0 S0 kK w S ow→GM w S ow b (R.cells (tX i x g).bad) R (tX i x g)→R.la=R.lb→R.va=R.vv→dP w S ow b4 67 (uB x v1 v2)→vM.wp Try.prog Q a w)(gi:Wf w0 S0 kK)(st:aC LG ae w0 S0 kK w S ow)(gm:GM w S ow b (R.cells g.bad) R g)(kV:R.la=R.lb)(lL:R.va=R.vv)(lx:dP w S ow b4 67 (uB x v1 v2))
  (Y5:0≤x.term) (ht5:x.term≤5000) (tE: ∀l∈g.aE,l.length≤2000000) (hi:i<g.aE.length) (hi5:i<5) (KE:kr .i64 x.vote) (k:Kn 160 a [(4, .pointer (some ⟨b4,0,none⟩)),(0,aM b),(1, .int .i64 i)]):
  (Code.seq (.region 4 P2 true) (.seq (.region 5 P1 true) (.seq (.seq (.region 6 P0 false) (.cond (.tmp 98) (.region 7 PZ false) .skip)) (.seq (.region 8 K0 true) vM)))).wp Try.prog Q a w:=by
 obtain⟨l,zk⟩: ∃l,g.aE[i]? =some l:=⟨_,av hi⟩
 have OJ:g.aE.getD i [] =l:=by rw[List.getD_eq_getElem?_getD,zk,Option.getD_some]
 have om:=tE l (aS zk)
 refine wp_seq (jJ (n0:=15) (fun bb=>ow bb=some (100+i)) mix (fun c a d v w h=>hQ c a d v w h) ai0 (fun _=>by kernel_rfl) ?_)
 intro w1 e1
 have dB:=gm.aG e1
 have yH:=lx.aG e1
 have gC:=st.aF gi gm.wf (aC.aG e1 ae ae S ow) (fun _ h=>h.elim)
 have s0:=SX.refl (fun bb=>ow bb=some (100+i)) w1
 have zh: ¬ow b=some (100+i):=by rw[dB.obj.ow];intro e;injection e with e;omega
 have hx4: ¬ow b4=some (100+i):=by rw[yH.ow];intro e;cases e
 obtain⟨v,FX,Zb⟩:=dB.pf i l zk
 obtain⟨bv,aif,Wo,Mh,dw,DT⟩:=dB.CK.elem (i:=i) (u:=v) (by rw[lL];exact FX)
 have Ie:R.va.length=g.aE.length:=by rw[lL];exact dB.zf
 have DN: ¬ow bv=some (100+i):=by rw[dw];intro e;injection e with e;omega
 repeat (first|refine sm k fun a k=> ?_|refine ld k (yH.cell hx4 rfl) fun a k=> ?_|refine ld k (dB.cell zh rfl) fun a k=> ?_)
 rw[Wo]at k
 refine FU (el:=29) (sz:=1) k rfl rfl (by rw[Ie];exact hi) fun a k=> ?_
 refine ti k (by assumption) rfl (by decide) rfl (by kernel_rfl) (by kernel_rfl) (ez Mh DN (by rw[Nat.mul_one];exact DT)) fun a k=> ?_
 repeat (first|refine sm k fun a k=> ?_|refine ld k (yH.cell hx4 rfl) fun a k=> ?_|refine ld k (dB.cell zh rfl) fun a k=> ?_)
 refine gU (vs:=[v, .int .i64 x.term]) k (by decide) rfl (by decide) LJ rfl (yo Zb dB.wf Y5 (by omega) om) ?_
 rintro e w2 ⟨v',aT,rfl,en,eK,xQ,hlen⟩
 obtain⟨Av,cv,ng⟩:=xQ.slice
 refine⟨_,rfl,fun _=>SX.fU (fun _ h=>h) en,fun a k=> ?_⟩
 have s1:=SX.fU (X:=fun bb=>ow bb=some (100+i)) (fun _ h=>h) en
 have gA:=dB.Lq en eK hi xQ (by omega)
 have BT:=yH.aB en (fun h=>h)
 have OS:=gC.dJ gi dB.wf en (.inr (by omega))
 refine FU (el:=29) (sz:=1) k rfl rfl (by rw[Ie];exact hi) fun a k=> ?_
 obtain⟨bv2,atG,cur,ah6,iS,iC,arf,nN,eY,gw,hrw⟩:=gA.CK.set (i:=i) (u:=v') eK (by show i<R.va.length;rw[Ie];exact hi)
 have XH:R.aE=_:=ah6
 rw[Wo]at XH
 injection XH with h1 _ h3
 injection h1 with h1
 injection h1 with h1 _
 subst h1
 rw[Nat.mul_one]at k
 refine lM (vs:=[v']) (cur:=cur) k (by decide) rfl (by kernel_rfl) rfl rfl (by rw[ng];rfl) iS iC (by rw[ng];simp[Value.oneCell']) (fun h=>absurd rfl h) fun a k=> ?_
 refine ar ?_
 have ft:=gA.Q4 eY gw hrw
 have sy:=BT.aB eY (fun h=>h)
 have Iv:=OS.dJ gi eK eY (.inl (by decide))
 have k:=k.sub (l:=[(4, .pointer (some ⟨b4,0,none⟩)),(0,aM b),(1, .int .i64 i)]) ⟨rfl,rfl,rfl,trivial⟩
 have aL:=Hg (l:=l) Y5
 have hgi:=vP (fun y hy=>xQ.all y hy) aL
 have hN:((x.term.toNat:Nat):Int)=x.term:=Int.toNat_of_nonneg Y5
 have OP: ∃R3:GR,R3=({R with aE:=R.aE,va:=R.va.set i v',vv:=R.vv.set i v'}:GR):=⟨_,rfl⟩
 obtain⟨R3,OP⟩:=OP
 generalize w2.setRow bv _=w3 at ft sy Iv⊢
 have ft:GM w3 S aT b (R3.cells g.bad) R3 {g with aE:=g.aE.set i (dN l x.term)}:=by rw[OP];exact ft
 have Ph:R3.la=R3.lb:=by rw[OP];exact kV
 have D2:R3.va=R3.vv:=by rw[OP];show R.va.set i v'=R.vv.set i v';rw[lL]
 have ahK:({g with aE:=g.aE.set i (dN l x.term)}:GS).aE[i]? =some (dN l x.term):=by show(g.aE.set i (dN l x.term))[i]? =_;rw[List.getElem?_set,if_pos rfl,if_pos hi]
 clear OP
 clear hrw eY gw iS iC ah6 nN arf OS BT gA s1 en xQ s0 zh hx4 Wo Mh dw DT Ie DN Zb FX
 refine wp_seq (jJ (n0:=12) ae mix (fun c a d v w h=>hQ c a d v w h) aiZ (fun _=>by kernel_rfl) ?_)
 intro w4 e4
 have j8:=ft.aG e4
 have od:=sy.aG e4
 have jr:=Iv.aF gi ft.wf (aC.aG e4 ae ae S aT) (fun _ h=>h.elim)
 have s0:=SX.refl ae w4
 obtain⟨v4,FX,Zb⟩:=j8.pf i _ ahK
 obtain⟨bv,aif,Wo,Mh,dw,DT⟩:=j8.CK.elem (i:=i) (u:=v4) (by rw[D2];exact FX)
 have Ie:R3.va.length=g.aE.length:=by rw[D2,j8.zf];show(g.aE.set i _).length=_;rw[List.length_set]
 obtain⟨bt,Ct,wI,yN,Ig,F5⟩:=bU.vO Zb hgi
 repeat (first|refine sm k fun a k=> ?_|refine ld k (od.cell (fun h=>h) rfl) fun a k=> ?_|refine ld k (j8.cell (fun h=>h) rfl) fun a k=> ?_)
 rw[Wo]at k
 refine FU (el:=29) (sz:=1) k rfl rfl (by rw[Ie];exact hi) fun a k=> ?_
 refine ti (v:=v4) k (by assumption) rfl (by decide) rfl (by kernel_rfl) (by kernel_rfl) (ez Mh (fun h=>h) (by rw[Nat.mul_one];exact DT)) fun a k=> ?_
 repeat (first|refine sm k fun a k=> ?_|refine ld k (od.cell (fun h=>h) rfl) fun a k=> ?_|refine ld k (j8.cell (fun h=>h) rfl) fun a k=> ?_)
 rw[←hN]at k
 rw[wI]at k
 refine FU (el:=3) (sz:=1) k rfl rfl aL fun a k=> ?_
 refine ld k (ez yN (fun h=>h) F5) fun a k=> ?_
 repeat refine sm k fun a k=> ?_
 refine ar ?_
 have k:=k.sub (l:=[(5, .int .i64 (qB (dN l x.term) x.term.toNat)),(4, .pointer (some ⟨b4,0,none⟩)),(0,aM b),(1, .int .i64 i)]) ⟨rfl,rfl,rfl,rfl,trivial⟩
 generalize aap:qB (dN l x.term) x.term.toNat=BY at k
 clear wI yN Ig F5 Wo Mh dw DT Ie Zb FX s0
 have last: ∀(a:Act) (W:World) (c:Bool) (gm:GM W S aT b (R3.cells c) R3 {g with aE:=g.aE.set i (dN l x.term),bad:=c}) (lx:dP W S aT b4 67 (uB x v1 v2)) (st:aC LG ae w0 S0 kK W S aT),
   c=(g.bad||(BY !=0&&x.vote !=BY))→Kn 160 a [(4, .pointer (some ⟨b4,0,none⟩)),(0,aM b),(1, .int .i64 i)] →(Code.seq (.region 8 K0 true) vM).wp Try.prog Q a W:=by
  intro a W c gm lx st hc k
  refine wp_seq (jJ (n0:=13) ae mix (fun c a d v w h=>hQ c a d v w h) aiW (fun _=>by kernel_rfl) ?_)
  intro w5 e5
  have j7:=gm.aG e5
  have rG:=lx.aG e5
  have jq:=st.aF gi gm.wf (aC.aG e5 ae ae S aT) (fun _ h=>h.elim)
  have s0:=SX.refl ae w5
  obtain⟨v5,FX,Zb⟩:=j7.pf i (dN l x.term) ahK
  obtain⟨bv,aif,Wo,Mh,dw,DT⟩:=j7.CK.elem (i:=i) (u:=v5) (by rw[D2];exact FX)
  have Ie:R3.va.length=g.aE.length:=by rw[D2,j7.zf];show(g.aE.set i _).length=_;rw[List.length_set]
  obtain⟨bt,Ct,cur,wI,iS,iC,yN,Ig,zE,Ib,zj⟩:=Zb.set (i:=x.term.toNat) (d:= .int .i64 x.vote) (us:=[.int .i64 x.vote]) j7.wf aL ⟨_,rfl,KE⟩ rfl (fun j u c h1 h2=>ER j u c h1 h2)
  repeat (first|refine sm k fun a k=> ?_|refine ld k (rG.cell (fun h=>h) rfl) fun a k=> ?_|refine ld k (j7.cell (fun h=>h) rfl) fun a k=> ?_)
  rw[Wo]at k
  refine FU (el:=29) (sz:=1) k rfl rfl (by rw[Ie];exact hi) fun a k=> ?_
  refine ti (v:=v5) k (by assumption) rfl (by decide) rfl (by kernel_rfl) (by kernel_rfl) (ez Mh (fun h=>h) (by rw[Nat.mul_one];exact DT)) fun a k=> ?_
  repeat (first|refine sm k fun a k=> ?_|refine ld k (rG.cell (fun h=>h) rfl) fun a k=> ?_|refine ld k (j7.cell (fun h=>h) rfl) fun a k=> ?_)
  rw[←hN]at k
  rw[wI]at k
  refine FU (el:=3) (sz:=1) k rfl rfl aL fun a k=> ?_
  refine lM (vs:=[.int .i64 x.vote]) (cur:=cur) k (by decide) rfl (by kernel_rfl) rfl rfl rfl iS iC (by simp[Value.oneCell']) (fun h=>absurd rfl h) fun a k=> ?_
  refine ar ?_
  have ta:=j7.Lq zE Ib (by show i<(g.aE.set i _).length;rw[List.length_set];exact hi) zj (by omega)
  have e6:tX i x g={g with aE:=(g.aE.set i (dN l x.term)).set i ((dN l x.term).set x.term.toNat (.int .i64 x.vote)),bad:=c}:=by
   unfold tX;simp only;rw[OJ,aap,hc,List.set_set]
  have Ox:R3.vv.set i v5=R3.vv:=by
   apply List.ext_getElem?
   intro j
   rw[List.getElem?_set]
   by_cases B8:i=j
   ·subst B8
    rw[if_pos rfl]
    have:=(ai.1 FX).1
    rw[if_pos this,FX]
   ·rw[if_neg B8]
  rw[Ox]at ta
  refine nM _ _ S aT R3 (k.sub ⟨rfl,rfl,rfl,trivial⟩) (jq.dJ gi j7.wf zE (.inr (by omega))) ?_ Ph D2 (rG.aB zE (fun h=>h))
  rw[e6]
  exact ta
 refine wp_seq (wp_seq (rg ae hQ aiY ?_))
 intro w5 e5
 have j7:=j8.aG e5
 have rG:=od.aG e5
 have jq:=jr.aF gi j8.wf (aC.aG e5 ae ae S aT) (fun _ h=>h.elim)
 have s0:=SX.refl ae w5
 repeat refine sm k fun a k=> ?_
 by_cases hz:BY=0
 ·refine cm (c:=false) k rfl rfl (by rw[hz];rfl) fun a k=> ?_
  repeat refine sm k fun a k=> ?_
  refine pk k rfl rfl fun a k=> ?_
  refine ar (aR k rfl (wp_skip ?_))
  exact last _ _ g.bad j7 rG jq (by rw[hz];cases g.bad<;>rfl) (k.sub ⟨rfl,rfl,rfl,trivial⟩)
 ·refine cm (c:=true) k rfl rfl (congrArg some (by simpa using hz)) fun a k=> ?_
  repeat (first|refine sm k fun a k=> ?_|refine ld k (rG.cell (fun h=>h) rfl) fun a k=> ?_)
  refine cm (c:=x.vote !=BY) k rfl rfl rfl fun a k=> ?_
  refine pk k rfl rfl fun a k=> ?_
  refine ar (aR k rfl ?_)
  by_cases hq:(x.vote !=BY)=true
  ·rw[if_pos hq]
   refine rg ae hQ aiX ?_
   intro w6 e6
   have ta:=j7.aG e6
   have FT:=rG.aG e6
   have kq:=jq.aF gi j7.wf (aC.aG e6 ae ae S aT) (fun _ h=>h.elim)
   have s0:=SX.refl ae w6
   repeat refine sm k fun a k=> ?_
   refine iN (cur:=R3.cells g.bad) k (by decide) rfl (by kernel_rfl) rfl rfl rfl ta.obj.heap (by show 10<11;omega) rfl (fun h=>absurd rfl h) fun a k=> ?_
   obtain⟨h1,h2⟩:=ta.zD true
   refine ar (last _ _ true h2 (FT.aB h1 (fun h=>h)) (kq.dJ gi ta.wf h1 (.inl (by decide))) ?_ (k.sub ⟨rfl,rfl,rfl,trivial⟩))
   rw[hq,show(BY !=0)=true by simpa using hz];cases g.bad<;>rfl
  ·rw[if_neg hq]
   refine wp_skip (last _ _ g.bad j7 rG jq ?_ (k.sub ⟨rfl,rfl,rfl,trivial⟩))
   rw[show(x.vote !=BY)=false by simpa using hq];cases g.bad<;>simp
end
theorem Ke{w:World}{S:aO}{ow:Ow}{b i:Nat}{g:GS}(h:th w S ow b g)(hl:IY g)(hi:i<g.fZ.length)(bM:Ok (ji g i) 0):
  Calls Try.prog 19 [aM b, .int .i64 i].toArray w (oH w S ow b (tq i g)):=by
 obtain⟨R,gm,kV,lL⟩:=h
 have gm0:=gm
 have n5:=hl.n5
 have hx:g.fZ[i]? =some (ji g i):=by unfold ji;rw[List.getD_eq_getElem?_getD,av hi,Option.getD_some]
 generalize H4:ji g i=x at hx bM
 have eC:i<g.bW.length:=by rw[hl.bW];exact hi
 have ht:=vP (fun y hy=>gm.bW.all y hy) eC
 refine jZ Try.func19 QZ ac1 ap9 (by show 2≤160;omega) ?_
 intro a k
 have hQ:=gp (P:=Try.prog) (fn:=Try.f19) (R:=oH w S ow b (tq i g))
 refine wp_seq (rg ae hQ ai4 ?_)
 intro w1 e1
 have dB:=gm.aG e1
 have gC:=aC.aG e1 LG ae S ow
 have s0:=SX.refl ae w1
 repeat (first|refine sm k fun a k=> ?_|refine ld k (dB.cell (fun h=>h) rfl) fun a k=> ?_)
 obtain⟨bs,Ip,dw,fV⟩:=dB.fZ i x hx
 obtain⟨bl,cap,TK,OM,lQ,gz⟩:=dB.arr.elem (i:=i) (u:=aM bs) (by rw[kV,List.getElem?_map,Ip];rfl)
 have Te:(R.la.map aM).length=g.fZ.length:=by rw[List.length_map,kV];exact dB.yI
 rw[TK]at k
 refine FU (el:=52) (sz:=1) k rfl rfl (by rw[Te];exact hi) fun a k=> ?_
 refine ti (v:=aM bs) k (by assumption) rfl (by decide) rfl (by kernel_rfl) (by kernel_rfl) (ez OM (fun h=>h) (by rw[Nat.mul_one];exact gz)) fun a k=> ?_
 refine gU (vs:=[aM bs]) k (by decide) rfl (by decide) c12.enter rfl (nD dw dB.wf bM) ?_
 rintro e w2 ⟨A1,n1,c1,A2,n2,c2,rfl,-,en,eK⟩
 refine⟨_,rfl,fun _=>en.BS _,fun a k=> ?_⟩
 have gA:=dB.aB en eK
 have s1:=en.BS ae
 refine lj (nn:=9) k (by decide) rfl (by decide) (by kernel_rfl) (fun zs _=>s1.trans (SX.alloc _ _ _)) fun zs sX a k=> ?_
 refine lM (vs:=[.int .i64 x.role, .int .i64 x.aI, .int .i64 x.term, .int .i64 x.vote, .int .i64 x.aJ, .int .i64 (x.li+x.le.length), .int .i64 x.li, .slice A1 n1 c1, .slice A2 n2 c2]) k (by decide) rfl (by kernel_rfl) rfl rfl rfl (heap_alloc_new w2 _) (by show 0+9≤zs.toArray.size;rw[List.size_toArray];omega) (by simp[Value.oneCell']) (fun h=>absurd rfl h) fun a k=> ?_
 refine ar ?_
 have e0:(zs.toArray.toList.take 0++[Value.int .i64 x.role, .int .i64 x.aI, .int .i64 x.term, .int .i64 x.vote, .int .i64 x.aJ, .int .i64 (x.li+x.le.length), .int .i64 x.li, .slice A1 n1 c1, .slice A2 n2 c2] ++zs.toArray.toList.drop (0+9))=[Value.int .i64 x.role, .int .i64 x.aI, .int .i64 x.term, .int .i64 x.vote, .int .i64 x.aJ, .int .i64 (x.li+x.le.length), .int .i64 x.li, .slice A1 n1 c1, .slice A2 n2 c2] :=by
  have:zs.toArray.toList.drop (0+9)=[] :=List.drop_of_length_le (by simp[sX])
  rw[this];simp
 rw[show List.length [Value.int .i64 x.role, .int .i64 x.aI, .int .i64 x.term, .int .i64 x.vote, .int .i64 x.aJ, .int .i64 (x.li+x.le.length), .int .i64 x.li, .slice A1 n1 c1, .slice A2 n2 c2] =9 from rfl,e0]
 obtain⟨FF,n8⟩:=aC.alloc eK (.cells zs.toArray 67)
 have lx0:=dP.new eK 67 zs
 obtain⟨zE,Ib,lx⟩:=lx0.set n8 (us:=[.int .i64 x.role, .int .i64 x.aI, .int .i64 x.term, .int .i64 x.vote, .int .i64 x.aJ, .int .i64 (x.li+x.le.length), .int .i64 x.li, .slice A1 n1 c1, .slice A2 n2 c2])
 have ft:=(gA.aB FF n8).aB zE Ib
 have eY:aC LG ae w S ow _ S ow:=(((gC.tr gm.wf dB.wf en (fun _ h=>h.elim)).tr gm.wf eK FF (fun _ h=>h.elim)).tr gm.wf n8 zE (fun bb hb=> .inr (by rw[show bb=_ from hb];exact Nat.le_trans gC.size en.size))).mono (fun _ h=>h.elim (fun h=>h.elim (fun h=>h.elim id (fun h=>h.elim)) (fun h=>h.elim)) (fun h=>h.elim)) (fun _ h=>h)
 generalize hb4:w2.heap.size=b4 at k lx ft eY⊢
 generalize hW:(w2.alloc _).setRow b4 _=W at lx ft eY⊢
 clear e0 zE Ib lx0 FF n8 gA s1 en eK gC s0 hW
 have k:=k.sub (l:=[(4, .pointer (some ⟨b4,0,none⟩)),(0,aM b),(1, .int .i64 i)]) ⟨rfl,rfl,rfl,trivial⟩
 have lx:dP W S ow b4 67 (uB x (.slice A1 n1 c1) (.slice A2 n2 c2)):=lx
 have Gw:tq i g=if x.term<qB g.bW i∨5000<x.term then{g with bad:=g.bad||decide (x.term<qB g.bW i)} else(if x.role=2 then GD i x (tX i x {g with bW:=g.bW.set i (.int .i64 x.term)}) else tX i x {g with bW:=g.bW.set i (.int .i64 x.term)}):=by
  unfold tq;simp only;rw[H4]
 refine wp_seq (wp_seq (jJ (n0:=17) ae mix (fun c a d v w h=>hQ c a d v w h) ai3 (fun _=>by kernel_rfl) ?_))
 intro w2 e2
 have j8:=ft.aG e2
 have od:=lx.aG e2
 have jr:=aC.aF gm.wf ft.wf eY (aC.aG e2 ae ae S ow) (fun _ h=>h.elim)
 have s0:=SX.refl ae w2
 repeat (first|refine sm k fun a k=> ?_|refine ld k (j8.cell (fun h=>h) rfl) fun a k=> ?_|refine ld k (od.cell (fun h=>h) rfl) fun a k=> ?_)
 obtain⟨bt,Ct,wI,yN,Ig,F5⟩:=bU.vO j8.bW ht
 rw[wI]at k
 refine FU (el:=3) (sz:=1) k rfl rfl eC fun a k=> ?_
 refine ld k (ez yN (fun h=>h) F5) fun a k=> ?_
 by_cases h1:x.term<qB g.bW i
 ·refine cm (c:=true) k rfl rfl (acU h1) fun a k=> ?_
  repeat refine sm k fun a k=> ?_
  refine pk k rfl rfl fun a k=> ?_
  refine ar (aR k rfl ?_)
  refine G6 (g':=tq i g) (fun c a d v w h=>hQ c a d v w h) (fun a w h=>h) gm.wf jr j8 kV lL od eC ?_ (k.sub ⟨rfl,rfl,rfl,trivial⟩)
  rw[Gw,if_pos (.inl h1)]
 refine cm (c:=false) k rfl rfl (acW h1) fun a k=> ?_
 repeat (first|refine sm k fun a k=> ?_|refine ld k (od.cell (fun h=>h) rfl) fun a k=> ?_)
 by_cases h2:5000<x.term
 ·refine cm (c:=true) k rfl rfl (acV h2) fun a k=> ?_
  refine pk k rfl rfl fun a k=> ?_
  refine ar (aR k rfl ?_)
  refine G6 (g':=tq i g) (fun c a d v w h=>hQ c a d v w h) (fun a w h=>h) gm.wf jr j8 kV lL od eC ?_ (k.sub ⟨rfl,rfl,rfl,trivial⟩)
  rw[Gw,if_pos (.inr h2)]
 refine cm (c:=false) k rfl rfl (Rw h2) fun a k=> ?_
 refine pk k rfl rfl fun a k=> ?_
 refine ar (aR k rfl (wp_skip ?_))
 rw[if_neg (by omega)]at Gw
 have k:=k.sub (l:=[(4, .pointer (some ⟨b4,0,none⟩)),(0,aM b),(1, .int .i64 i)]) ⟨rfl,rfl,rfl,trivial⟩
 clear wI yN Ig F5 s0
 refine wp_seq (jJ (n0:=8) ae mix (fun c a d v w h=>hQ c a d v w h) ai1 (fun _=>by kernel_rfl) ?_)
 intro w3 e3
 have j7:=j8.aG e3
 have rG:=od.aG e3
 have jq:=aC.aF gm.wf j8.wf jr (aC.aG e3 ae ae S ow) (fun _ h=>h.elim)
 have s0:=SX.refl ae w3
 have gY:=Dp (n:=x.term) bM.tm (by omega)
 obtain⟨bt,Ct,cur,wI,iS,iC,yN,Ig,zE,Ib,zj⟩:=j7.bW.set (i:=i) (d:= .int .i64 x.term) (us:=[.int .i64 x.term]) j7.wf eC ⟨_,rfl,gY⟩ rfl (fun j u c h1 h2=>ER j u c h1 h2)
 repeat (first|refine sm k fun a k=> ?_|refine ld k (j7.cell (fun h=>h) rfl) fun a k=> ?_|refine ld k (rG.cell (fun h=>h) rfl) fun a k=> ?_)
 rw[wI]at k
 refine FU (el:=3) (sz:=1) k rfl rfl eC fun a k=> ?_
 refine lM (vs:=[.int .i64 x.term]) (cur:=cur) k (by decide) rfl (by kernel_rfl) rfl rfl rfl iS iC (by simp[Value.oneCell']) (fun h=>absurd rfl h) fun a k=> ?_
 refine ar ?_
 have ta:=j7.C8 zE Ib zj
 have kq:=jq.dJ gm.wf j7.wf zE (.inl (by decide))
 have KE:kr .i64 x.vote:=by
  obtain⟨bs,_,_,fV⟩:=gm.fZ i x hx
  obtain⟨y,hy,hh⟩:=bX fV 12 I6 (by rw[Ty.cC];rfl)
  have e:(encS x)[12]? =some (.int .i64 x.vote):=rfl
  rw[e]at hy
  injection hy with hy
  subst hy
  obtain⟨n,hn,hk⟩:=hh
  injection hn with _ hn
  rw[hn];exact hk
 refine Nt (R:={R with bW:=R.bW}) (g:={g with bW:=g.bW.set i (.int .i64 x.term)}) (fun c a d v w h=>hQ c a d v w h) ?_ gm.wf kq ta kV lL (rG.aB zE (fun h=>h)) bM.tm (by omega) hl.vl (by show i<g.aE.length;rw[hl.aE];exact hi) (by omega) KE (k.sub ⟨rfl,rfl,rfl,trivial⟩)
 intro a w7 S7 N5 R7 k pb Mi ahO ahl lx7
 unfold vM
 refine wp_seq (rg ae hQ aiV ?_)
 intro w8 e8
 have yO:=Mi.aG e8
 have B2:=lx7.aG e8
 have ur:=pb.aF gm.wf Mi.wf (aC.aG e8 ae ae S7 N5) (fun _ h=>h.elim)
 have s0:=SX.refl ae w8
 repeat (first|refine sm k fun a k=> ?_|refine ld k (B2.cell (fun h=>h) rfl) fun a k=> ?_)
 refine cm (c:=x.role==2) k rfl rfl rfl fun a k=> ?_
 refine ar (aR k rfl ?_)
 by_cases hr:x.role=2
 ·rw[if_pos (by simpa using hr)]
  refine Nu (g':=tq i g) (fun c a d v w h=>hQ c a d v w h) (fun a w h=>h) gm.wf ur yO ahO ahl B2 bM.tm (by omega) hl.lead (by omega) ?_ (k.sub ⟨rfl,rfl,rfl,trivial⟩)
  rw[Gw,if_pos hr]
 ·rw[if_neg (by simpa using hr)]
  refine wp_skip (mn PF k ⟨S7,N5,rfl,ur,R7,?_,ahO,ahl⟩).2
  rw[Gw,if_neg hr]
  exact yO
def Cb(ow:Ow):Prop:= ∀b l,ow b=some l→LG l
theorem Cb.aB{L X:Nat→Prop}{w w':World}{S S':aO}{ow aT:Ow}(h:Cb ow)(st:aC L X w S ow w' S' aT)(hL: ∀l,L l→LG l):Cb aT:=fun b l hl=>(st.fU b l hl).elim (h b l) (hL l)
theorem aC.lg{X:Nat→Prop}{w w':World}{S S':aO}{ow aT:Ow}(h:Cb ow)(h':Cb aT)(st:aC (fun l=>LG l∨60≤l) X w S ow w' S' aT):aC LG X w S ow w' S' aT:=by
 have hT: ∀l,LG l→(LG l∨60≤l):=fun _ h=> .inl h
 exact⟨st.size,st.os,st.tape,st.output,fun b l hb ho hl=>absurd (h b l ho) hl,st.free,st.gV,st.cell,fun b l ho hl=>absurd (h b l ho) hl,fun b o hs=>(st.new b o hs).imp id (fun h1=>h1.imp id (fun⟨l,h2,_⟩=>⟨l,h2,h b l h2⟩)),st.tu,fun b l hl=> .inr (h' b l hl)⟩
def p6(es:List D)(f:Int):List D:=es.filter fun e=>decide ((cD 0 e).ab<f)
def EO(x o:D):List D:=if(cD 3 o).ak=[] then(cD 7 x).ak else p6 (cD 7 x).ak (cD 0 ((cD 3 o).ak.getD 0 .top)).ab++(cD 3 o).ak
def uZ(i:Nat)(o:D)(g:GS):GS:=
 let x:=g.saved.getD i .top
 {g with saved:=g.saved.set i (.agg [cD 1 o,cD 2 o,cD 2 x,cD 3 x,cD 4 x,cD 5 x,cD 6 x, .list (EO x o)])}
theorem Kk{es:List D}{f:Int}{j:Nat}{e:D}(h:es[j]? =some e):p6 (es.take (j+1)) f=if(cD 0 e).ab<f then p6 (es.take j) f++[e] else p6 (es.take j) f:=by
 have hj:es.take (j+1)=es.take j++[e] :=by
  rw[List.take_add_one,h];rfl
 unfold p6
 rw[hj,List.filter_append]
 by_cases hc:(cD 0 e).ab<f
 ·rw[if_pos hc];simp[hc]
 ·rw[if_neg hc];simp[hc]
theorem He{es:List D}{f:Int}:(p6 es f).length≤es.length:=List.length_filter_le _ _
theorem VI{d:D}(h:Has cX d):d.cells[0]? =some (.int .i64 (cD 0 d).ab):=by
 obtain⟨l,rfl,hl⟩:=cu.1 h
 obtain⟨x,r,rfl,hx,_⟩:=aa.1 hl
 obtain⟨n,rfl,_⟩:=hx
 rfl
theorem j3:cX.cells.length=29:=rfl
theorem xz{n:Nat}(h:n≤400000000000):lP cX n:=by
 refine⟨by simp only[maxLen];omega,?_⟩
 rw[mV];omega
section
variable{w0 w:World}{S0 S:aO}{kK ow:Ow}{b b5 b6 i:Nat}{g:GS}{R:GR}{o:D}{Q:Exit→Act→World→Prop}{a:Act}{m:List (Nat×Value)}
theorem EP{v:Value}{l:List D}{j:Nat}{d:D}(h:bj w S v (.list l))(hj:l[j]? =some d)(hd:Has cX d):
  ∃(bb off cap:Nat) (us:List Value),v= .slice (some ⟨bb,off,none⟩) l.length cap∧S bb (off+j*29)∧us.length=29∧(∀(q:Nat) u,us[q]? =some u→w.cell? ⟨bb,off+j*29+q,none⟩=some u)∧(∀(q:Nat) u c,us[q]? =some u→d.cells[q]? =some c→bj w S u c)∧us[0]? =some (.int .i64 (cD 0 d).ab)∧
   w.cell? ⟨bb,off+j*29+0,none⟩=some (.int .i64 (cD 0 d).ab):=by
 obtain⟨bb,off,cap,us,h1,h2,h3,h4,h5⟩:=h.QC hj hd (by rw[j3];decide)
 rw[j3]at h2 h3 h4
 obtain⟨u0,Oy⟩: ∃u0,us[0]? =some u0:=⟨_,av (by omega)⟩
 have:=(h5 0 u0 _ Oy (VI hd)).bD
 subst this
 exact⟨bb,off,cap,us,h1,h2,h3,h4,h5,Oy,h4 0 _ Oy⟩
def TT(l:Nat):Prop:=LG l∨60≤l
theorem TT.all(l:Nat):TT l:=by unfold TT LG;omega
theorem wS{L X:Nat→Prop}{w0 w w1:World}{S0 S S1:aO}{kK ow dA:Ow}(gi:Wf w0 S0 kK)(hw:Wf w S ow)(h:aC TT ae w0 S0 kK w S ow)(k:aC L X w S ow w1 S1 dA)(hX: ∀b,X b→w0.heap.size≤b):aC TT ae w0 S0 kK w1 S1 dA:=
 (h.tr gi hw k (fun b h=> .inr (hX b h))).mono (fun l _=>TT.all l) (fun _ h=>h)
def RH(w:World)(S:aO)(ow:Ow)(b:Nat)(g':GS):Exit→Act→World→Prop:=bodyPost Try.prog Try.f30 (oH w S ow b g')
theorem RG{xs:List Value}{d:D}(hQ:QP Q)(nM: ∀a w,RH w0 S0 kK b {g with saved:=g.saved.set i d} .normal a w→Q .normal a w)(gi:Wf w0 S0 kK)(Od:Cb kK)(st:aC TT ae w0 S0 kK w S ow)(hn:Cb ow)(gm:GM w S ow b (R.cells g.bad) R g)(kV:R.la=R.lb)(lL:R.va=R.vv)
  (lx:dP w S ow b6 65 xs) (mZ:xs.length=8) (hr: ∀(j:Nat) u c,xs[j]? =some u→d.cells[j]? =some c→bj w S u c) (hd:Has jP d) (fX: ∀v∈xs,v.oneCell'=true) (hi:i<g.saved.length) (k:Kn 119 a [(6, .pointer (some ⟨b6,0,none⟩)),(0,aM b),(1, .int .i64 i)]):
  (Code.region 21 Ep true).wp Try.prog Q a w:=by
 refine jJ (n0:=6) ae mix hQ abm (fun _=>by kernel_rfl) ?_
 intro w1 e1
 have dB:=gm.aG e1
 have yH:=lx.aG e1
 have gC:=wS gi gm.wf st (aC.aG e1 ae ae S ow) (fun _ h=>h.elim)
 have s0:=SX.refl ae w1
 obtain⟨bt,Ct,cur,wI,iS,iC,yN,Ig,zE,Ib,zj⟩:=dB.saved.set (i:=i) (d:=d) (us:=xs) dB.wf hi hd mZ (fun j u c h1 h2=>(hr j u c h1 h2).aB (aC.aG e1 ae ae S ow))
 repeat (first|refine sm k fun a k=> ?_|refine ld k (dB.cell (fun h=>h) rfl) fun a k=> ?_)
 refine lN (vs:=xs) k rfl mZ (fun w' gX j v hv=>by rw[Nat.zero_add];exact yH.cell (fun h=>h) hv w' gX) fun a k=> ?_
 rw[wI]at k
 refine FU (el:=65) (sz:=8) k rfl rfl hi fun a k=> ?_
 refine lM (vs:=xs) (cur:=cur) k (by decide) rfl (by rw[mZ];kernel_rfl) rfl rfl rfl iS iC fX (fun h=>absurd rfl h) fun a k=> ?_
 refine ar (nM _ _ (mn aip k ?_).2)
 have gA:=dB.C9 zE Ib zj
 have en:=wS gi dB.wf gC zE (fun _ h=>h.elim)
 exact⟨S,ow,rfl,aC.lg Od hn en,R,gA,kV,lL⟩
end
end Go.Proofs.Ytjhmkaninmgilaa
