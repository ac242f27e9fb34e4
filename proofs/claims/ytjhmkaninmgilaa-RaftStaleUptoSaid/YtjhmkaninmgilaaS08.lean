/- Part 8 of the proof of RaftStale; no condition. -/
import Derived.Test.YtjhmkaninmgilaaS07
set_option linter.unusedVariables false
set_option linter.unusedSimpArgs false
set_option maxHeartbeats 4000000
namespace Go.Proofs.Ytjhmkaninmgilaa
open Go Go.RowKit Go.bZ Go.Proofs
theorem arB:ax Try.prog 65 af7 (pre 65) (aK 65):=by
 refine bz (given:=[]) mix Lh Try.func65 rfl (by kernel_rfl) (v:=Wv) (by kernel_rfl) ?_
 intro ds h hp
 obtain⟨_,_,rfl,⟨f,rfl,hf⟩,_,_,rfl,⟨m,rfl,hm⟩,_,_,rfl,⟨i,rfl,hi⟩,_,_,rfl,⟨t,rfl,ht⟩,_,_,rfl,⟨l,rfl,hlen,hL⟩,rfl⟩:=h
 have hR:aK 65 [.int .i64 f, .int .i64 m, .int .i64 i, .int .i64 t, .list l] = .cW [.list (fi i l f m),su i t l] :=rfl
 simp[Wv,cO,cg,cb,bh,cd,bG,cN,cQ,cP,dI,den,U.den,B.den,dp,aq,bu,cn,ch,ck,df,aQ,bn,pre,hR,su]
 replace hp:okB i t=true:=hp
 rw[tn]at hf hm
 obtain⟨k1,k2,_,_⟩:=jd.1 hp
 have nL:=hlen.1
 have hb:=hlen.2
 rw[mV]at hb
 simp only[maxLen,MX]at nL k2⊢
 refine⟨?_,fun h1 h2=> ?_⟩
 ·intro h
  unfold fi
  by_cases hc:m<1∨f≤i
  ·rw[if_pos hc]
  ·rw[if_neg hc]
   have h':=h.resolve_left hc
   rw[wrap64 (n:=f-i) (by omega) (by omega),wrap64 (by omega) (by omega)]at h'
   rw[List.drop_of_length_le (by omega)];simp
 ·rw[wrap64 (n:=f-i) (by omega) (by omega),wrap64 (n:=f-i-1) (by omega) (by omega)]
  intro h3
  rw[wrap64 (n:=(l.length:Int)-(f-i-1)) (by omega) (by omega)]
  have es:fi i l f m=(l.drop (f-i-1).toNat).take m.toNat:=by unfold fi;rw[if_neg (by omega)]
  refine⟨fun h4=> ?_,fun h4=> ?_⟩
  ·rw[wrap64 (n:=f-i-1+m) (by omega) (by omega)]
   refine⟨by omega,⟨by omega,Nat.le_trans (Nat.mul_le_mul_right 320 (by omega)) hb⟩,?_⟩
   rw[es,List.drop_take];congr 1;omega
  ·refine⟨by omega,⟨by omega,Nat.le_trans (Nat.mul_le_mul_right 320 (by omega)) hb⟩,?_⟩
   rw[es,List.take_of_length_le (by rw[List.length_drop];omega)]
theorem Rt:gM Try.prog pre aK Wx:=aj arB Lh
theorem c53:ax Try.prog 53 s53 (pre 53) (aK 53):=by
 refine bz (given:=[]) mix Rt Try.func53 rfl (by kernel_rfl) (v:=apu) (by kernel_rfl) ?_
 intro ds h hp
 have hs:=h
 obtain⟨s,rfl⟩:=dV h
 refine VC.bH (Φ:=aK) (Pre:=pre) (dec:=na) (enc:=dF) (bad:=aW) (lp:=fun _ _ _=>aW) (y:=dQ s) bC (by kernel_rfl) (VC.gu (by kernel_rfl)) (by kernel_rfl) (by kernel_rfl)
theorem Yh:gM Try.prog pre aK afM:=aj c53 Rt
theorem c35:ax Try.prog 35 s35 (pre 35) (aK 35):=by
 refine bz (given:=[]) mix Yh Try.func35 rfl (by kernel_rfl) (v:=apv) (by kernel_rfl) ?_
 intro ds h hp
 have hs:=h
 obtain⟨s,rfl⟩:=dV h
 refine VC.bH (Φ:=aK) (Pre:=pre) (dec:=na) (enc:=dF) (bad:=aW) (lp:=fun _ _ _=>aW) (y:=lO s) bC (by kernel_rfl) (VC.gu (by kernel_rfl)) (by kernel_rfl) (by kernel_rfl)
theorem Yx:gM Try.prog pre aK afU:=aj c35 Yh
def agK(x:D)(s:RS):Prop:=
 (true=true→((s.msgs++([ah 46 x [(1,D.int .i64 s.id),(3,D.int .i64 s.term)]] :List D)):List D).length≤maxLen∧((s.msgs++([ah 46 x [(1,D.int .i64 s.id),(3,D.int .i64 s.term)]] :List D)):List D).length*536≤140737488355328)∧(
 True)
theorem U4(x:D)(s:RS)(hs:bV (.bQ cY) (encS s))(h:Ok s 1):agK x s:=by
 refine⟨fun _=> ?_,trivial⟩
 have:=h.nm
 simp only[List.length_append,List.length_singleton,maxLen]
 omega
theorem c64:ax Try.prog 64 s64 (pre 64) (aK 64):=by
 refine bz (given:=[]) mix Yx Try.func64 rfl (by kernel_rfl) (v:=aps) (by kernel_rfl) ?_
 intro ds h hp
 obtain⟨x,_,rfl,hx,h1⟩:=aa.1 h
 have hs:=h1
 obtain⟨s,rfl⟩:=dV h1
 refine VC.bH (Φ:=aK) (Pre:=pre) (dec:=na) (enc:=dF) (bad:=aW) (lp:=fun _ _ _=>aW) (y:=aX x s) bC (by kernel_rfl) (Eq.mpr (α:=VC.fH aK pre triv (VC.o9 aK pre dF (fun _ _ _=>aW) []) _ _) (β:=agK x s) (by kernel_rfl) (U4 x s hs hp)) (by kernel_rfl) (by kernel_rfl)
theorem Ya:gM Try.prog pre aK ZJ:=aj c64 Yx
theorem c41:ax Try.prog 41 s41 (pre 41) (aK 41):=by
 refine bz (given:=[]) mix Ya Try.func41 rfl (by kernel_rfl) (v:=afg) (by kernel_rfl) ?_
 intro ds h hp
 obtain⟨_,_,rfl,⟨x,rfl,hx⟩,h1⟩:=aa.1 h
 obtain⟨_,_,rfl,⟨y,rfl,hy⟩,h2⟩:=aa.1 h1
 have hs:=h2
 obtain⟨s,rfl⟩:=dV h2
 refine VC.bH (Φ:=aK) (Pre:=pre) (dec:=na) (enc:=dF) (bad:=aW) (lp:=fun _ _ _=>aW) (y:=iE x y s) bC (by kernel_rfl) (VC.gu (by kernel_rfl)) (by kernel_rfl) (by kernel_rfl)
theorem Ys:gM Try.prog pre aK afS:=aj c41 Ya
theorem c34:ax Try.prog 34 s34 (pre 34) (aK 34):=by
 refine bz (given:=[]) mix Ys Try.func34 rfl (by kernel_rfl) (v:=apw) (by kernel_rfl) ?_
 intro ds h hp
 have hs:=h
 obtain⟨s,rfl⟩:=dV h
 refine VC.bH (Φ:=aK) (Pre:=pre) (dec:=UD) (enc:=zZ) (bad:=(.top,aW)) (lp:=fun _ _ _=>(.top,aW)) (y:=cE s) bC (by kernel_rfl) (VC.gu (by kernel_rfl)) (by kernel_rfl) (by kernel_rfl)
theorem Yy:gM Try.prog pre aK ZT:=aj c34 Ys
def agU(x:D)(s:RS):Prop:=
 ((true=true→de s.li s.lt s.le=true∧s.le.length<4294967296))∧(
 let zF:=ag3 s.li s.lt s.le s.term (ah 27 x [])
 (((zF.1.2==0)=true→
  (True)∧(
  let V4:=dQ ({s with li:=zF.2.1,lt:=zF.2.2.1,le:=zF.2.2.2}:RS)
  (true=true→((V4.dt++([ah 29 zF.1.1 []] :List D)):List D).length≤maxLen∧((V4.dt++([ah 29 zF.1.1 []] :List D)):List D).length*320≤140737488355328)∧(
  True))))∧(True))
theorem Ve(x:D)(s:RS)(hs:bV (.bQ cY) (encS s))(h:Ok s 1):agU x s:=by
 refine⟨fun _=>⟨h.may,by have:=h.xM;omega⟩,fun _=>⟨trivial,fun _=> ?_,trivial⟩,trivial⟩
 have:=h.ne
 simp only[dQ,List.length_append,List.length_singleton,maxLen]
 omega
theorem c39:ax Try.prog 39 s39 (pre 39) (aK 39):=by
 refine bz (given:=[]) mix Yy Try.func39 rfl (by kernel_rfl) (v:=afh) (by kernel_rfl) ?_
 intro ds h hp
 obtain⟨x,_,rfl,hx,h1⟩:=aa.1 h
 have hs:=h1
 obtain⟨s,rfl⟩:=dV h1
 refine VC.bH (Φ:=aK) (Pre:=pre) (dec:=akO) (enc:=Lg) (bad:=((.top,0),aW)) (lp:=fun _ _ _=>((.top,0),aW)) (y:=DY x s) bC (by kernel_rfl) (Eq.mpr (α:=VC.fH aK pre triv (VC.o9 aK pre Lg (fun _ _ _=>((.top,0),aW)) []) _ _) (β:=agU x s) (by kernel_rfl) (Ve x s hs hp)) (by kernel_rfl) (by kernel_rfl)
theorem Yu:gM Try.prog pre aK ZR:=aj c39 Yy
def agX(x:Int)(s:RS):Prop:=
 (((x==0)=true→
  (True)∧(
  let qb:=(fh s.li s.lt s.le)
  ((decide (s.wE≤qb.1)=true→
   (True)∧(
   let hH:=(du (D.agg [D.list s.sv,D.list s.sl]))
   (true=true→((decide (0≤(az (ay 0 s.xL) ((s.au:List D).length:Int))))&&((decide ((az (ay 0 s.xL) ((s.au:List D).length:Int))≤(az (IntKind.i64.wrap ((az (ay 0 s.xL) ((s.au:List D).length:Int))+256)) ((s.au:List D).length:Int))))&&(decide ((az (IntKind.i64.wrap ((az (ay 0 s.xL) ((s.au:List D).length:Int))+256)) ((s.au:List D).length:Int))≤((s.au:List D).length:Int)))))=true)∧(
   (True)∧(
   let mC:=(lJ ((s.au.take ((az (IntKind.i64.wrap ((az (ay 0 s.xL) ((s.au:List D).length:Int))+256)) ((s.au:List D).length:Int)):Int).toNat).drop ((az (ay 0 s.xL) ((s.au:List D).length:Int)):Int).toNat))
   ((true=true→Ok ({s with xL:=(az (ay 0 s.xL) ((s.au:List D).length:Int))}:RS) 1))∧(
   let qw:=aX (ah 46 cA [(0,D.int .i64 5),(4,D.int .i64 s.iK),(5,D.int .i64 s.ff),(9,D.int .i64 (az (ay 0 s.xL) ((s.au:List D).length:Int))),(10,D.int .i64 ((s.au:List D).length:Int)),(13,(cD 0 hH)),(14,(cD 1 hH)),(15,D.list mC)]) ({s with xL:=(az (ay 0 s.xL) ((s.au:List D).length:Int))}:RS)
   True))))))∧((decide (s.wE≤qb.1)=false→
   ((true=true→de s.li s.lt s.le=true))∧(
   let uq:=(fN s.li s.lt s.le (IntKind.i64.wrap (s.wE-1)))
   ((true=true→okB s.li s.lt=true))∧(
   let mD:=cT s.li s.lt s.le s.wE 8
   ((true=true→Ok s 1))∧(
   let gk:=aX (ah 46 cA [(0,D.int .i64 3),(4,D.int .i64 (IntKind.i64.wrap (s.wE-1))),(5,D.int .i64 uq.1),(6,D.int .i64 s.aJ),(8,D.int .i64 s.round),(12,D.list mD)]) s
   True))))))))∧(((x==0)=false→
  (((x==1)=true→
   (True)∧(
   let qb:=(fh s.li s.lt s.le)
   ((decide (s.wD≤qb.1)=true→
    (True)∧(
    let hH:=(du (D.agg [D.list s.sv,D.list s.sl]))
    (true=true→((decide (0≤(az (ay 0 s.xK) ((s.au:List D).length:Int))))&&((decide ((az (ay 0 s.xK) ((s.au:List D).length:Int))≤(az (IntKind.i64.wrap ((az (ay 0 s.xK) ((s.au:List D).length:Int))+256)) ((s.au:List D).length:Int))))&&(decide ((az (IntKind.i64.wrap ((az (ay 0 s.xK) ((s.au:List D).length:Int))+256)) ((s.au:List D).length:Int))≤((s.au:List D).length:Int)))))=true)∧(
    (True)∧(
    let mC:=(lJ ((s.au.take ((az (IntKind.i64.wrap ((az (ay 0 s.xK) ((s.au:List D).length:Int))+256)) ((s.au:List D).length:Int)):Int).toNat).drop ((az (ay 0 s.xK) ((s.au:List D).length:Int)):Int).toNat))
    ((true=true→Ok ({s with xK:=(az (ay 0 s.xK) ((s.au:List D).length:Int))}:RS) 1))∧(
    let qw:=aX (ah 46 cA [(0,D.int .i64 5),(2,D.int .i64 1),(4,D.int .i64 s.iK),(5,D.int .i64 s.ff),(9,D.int .i64 (az (ay 0 s.xK) ((s.au:List D).length:Int))),(10,D.int .i64 ((s.au:List D).length:Int)),(13,(cD 0 hH)),(14,(cD 1 hH)),(15,D.list mC)]) ({s with xK:=(az (ay 0 s.xK) ((s.au:List D).length:Int))}:RS)
    True))))))∧((decide (s.wD≤qb.1)=false→
    ((true=true→de s.li s.lt s.le=true))∧(
    let uq:=(fN s.li s.lt s.le (IntKind.i64.wrap (s.wD-1)))
    ((true=true→okB s.li s.lt=true))∧(
    let mD:=cT s.li s.lt s.le s.wD 8
    ((true=true→Ok s 1))∧(
    let gk:=aX (ah 46 cA [(0,D.int .i64 3),(2,D.int .i64 1),(4,D.int .i64 (IntKind.i64.wrap (s.wD-1))),(5,D.int .i64 uq.1),(6,D.int .i64 s.aJ),(8,D.int .i64 s.round),(12,D.list mD)]) s
    True))))))))∧(((x==1)=false→
   (((x==2)=true→
    (True)∧(
    let qb:=(fh s.li s.lt s.le)
    ((decide (s.wC≤qb.1)=true→
     (True)∧(
     let hH:=(du (D.agg [D.list s.sv,D.list s.sl]))
     (true=true→((decide (0≤(az (ay 0 s.xJ) ((s.au:List D).length:Int))))&&((decide ((az (ay 0 s.xJ) ((s.au:List D).length:Int))≤(az (IntKind.i64.wrap ((az (ay 0 s.xJ) ((s.au:List D).length:Int))+256)) ((s.au:List D).length:Int))))&&(decide ((az (IntKind.i64.wrap ((az (ay 0 s.xJ) ((s.au:List D).length:Int))+256)) ((s.au:List D).length:Int))≤((s.au:List D).length:Int)))))=true)∧(
     (True)∧(
     let mC:=(lJ ((s.au.take ((az (IntKind.i64.wrap ((az (ay 0 s.xJ) ((s.au:List D).length:Int))+256)) ((s.au:List D).length:Int)):Int).toNat).drop ((az (ay 0 s.xJ) ((s.au:List D).length:Int)):Int).toNat))
     ((true=true→Ok ({s with xJ:=(az (ay 0 s.xJ) ((s.au:List D).length:Int))}:RS) 1))∧(
     let qw:=aX (ah 46 cA [(0,D.int .i64 5),(2,D.int .i64 2),(4,D.int .i64 s.iK),(5,D.int .i64 s.ff),(9,D.int .i64 (az (ay 0 s.xJ) ((s.au:List D).length:Int))),(10,D.int .i64 ((s.au:List D).length:Int)),(13,(cD 0 hH)),(14,(cD 1 hH)),(15,D.list mC)]) ({s with xJ:=(az (ay 0 s.xJ) ((s.au:List D).length:Int))}:RS)
     True))))))∧((decide (s.wC≤qb.1)=false→
     ((true=true→de s.li s.lt s.le=true))∧(
     let uq:=(fN s.li s.lt s.le (IntKind.i64.wrap (s.wC-1)))
     ((true=true→okB s.li s.lt=true))∧(
     let mD:=cT s.li s.lt s.le s.wC 8
     ((true=true→Ok s 1))∧(
     let gk:=aX (ah 46 cA [(0,D.int .i64 3),(2,D.int .i64 2),(4,D.int .i64 (IntKind.i64.wrap (s.wC-1))),(5,D.int .i64 uq.1),(6,D.int .i64 s.aJ),(8,D.int .i64 s.round),(12,D.list mD)]) s
     True))))))))∧(((x==2)=false→
    (((x==3)=true→
     (True)∧(
     let qb:=(fh s.li s.lt s.le)
     ((decide (s.wB≤qb.1)=true→
      (True)∧(
      let hH:=(du (D.agg [D.list s.sv,D.list s.sl]))
      (true=true→((decide (0≤(az (ay 0 s.xI) ((s.au:List D).length:Int))))&&((decide ((az (ay 0 s.xI) ((s.au:List D).length:Int))≤(az (IntKind.i64.wrap ((az (ay 0 s.xI) ((s.au:List D).length:Int))+256)) ((s.au:List D).length:Int))))&&(decide ((az (IntKind.i64.wrap ((az (ay 0 s.xI) ((s.au:List D).length:Int))+256)) ((s.au:List D).length:Int))≤((s.au:List D).length:Int)))))=true)∧(
      (True)∧(
      let mC:=(lJ ((s.au.take ((az (IntKind.i64.wrap ((az (ay 0 s.xI) ((s.au:List D).length:Int))+256)) ((s.au:List D).length:Int)):Int).toNat).drop ((az (ay 0 s.xI) ((s.au:List D).length:Int)):Int).toNat))
      ((true=true→Ok ({s with xI:=(az (ay 0 s.xI) ((s.au:List D).length:Int))}:RS) 1))∧(
      let qw:=aX (ah 46 cA [(0,D.int .i64 5),(2,D.int .i64 3),(4,D.int .i64 s.iK),(5,D.int .i64 s.ff),(9,D.int .i64 (az (ay 0 s.xI) ((s.au:List D).length:Int))),(10,D.int .i64 ((s.au:List D).length:Int)),(13,(cD 0 hH)),(14,(cD 1 hH)),(15,D.list mC)]) ({s with xI:=(az (ay 0 s.xI) ((s.au:List D).length:Int))}:RS)
      True))))))∧((decide (s.wB≤qb.1)=false→
      ((true=true→de s.li s.lt s.le=true))∧(
      let uq:=(fN s.li s.lt s.le (IntKind.i64.wrap (s.wB-1)))
      ((true=true→okB s.li s.lt=true))∧(
      let mD:=cT s.li s.lt s.le s.wB 8
      ((true=true→Ok s 1))∧(
      let gk:=aX (ah 46 cA [(0,D.int .i64 3),(2,D.int .i64 3),(4,D.int .i64 (IntKind.i64.wrap (s.wB-1))),(5,D.int .i64 uq.1),(6,D.int .i64 s.aJ),(8,D.int .i64 s.round),(12,D.list mD)]) s
      True))))))))∧(((x==3)=false→
     (((x==4)=true→
      (True)∧(
      let qb:=(fh s.li s.lt s.le)
      ((decide (s.wA≤qb.1)=true→
       (True)∧(
       let hH:=(du (D.agg [D.list s.sv,D.list s.sl]))
       (true=true→((decide (0≤(az (ay 0 s.xH) ((s.au:List D).length:Int))))&&((decide ((az (ay 0 s.xH) ((s.au:List D).length:Int))≤(az (IntKind.i64.wrap ((az (ay 0 s.xH) ((s.au:List D).length:Int))+256)) ((s.au:List D).length:Int))))&&(decide ((az (IntKind.i64.wrap ((az (ay 0 s.xH) ((s.au:List D).length:Int))+256)) ((s.au:List D).length:Int))≤((s.au:List D).length:Int)))))=true)∧(
       (True)∧(
       let mC:=(lJ ((s.au.take ((az (IntKind.i64.wrap ((az (ay 0 s.xH) ((s.au:List D).length:Int))+256)) ((s.au:List D).length:Int)):Int).toNat).drop ((az (ay 0 s.xH) ((s.au:List D).length:Int)):Int).toNat))
       ((true=true→Ok ({s with xH:=(az (ay 0 s.xH) ((s.au:List D).length:Int))}:RS) 1))∧(
       let qw:=aX (ah 46 cA [(0,D.int .i64 5),(2,D.int .i64 4),(4,D.int .i64 s.iK),(5,D.int .i64 s.ff),(9,D.int .i64 (az (ay 0 s.xH) ((s.au:List D).length:Int))),(10,D.int .i64 ((s.au:List D).length:Int)),(13,(cD 0 hH)),(14,(cD 1 hH)),(15,D.list mC)]) ({s with xH:=(az (ay 0 s.xH) ((s.au:List D).length:Int))}:RS)
       True))))))∧((decide (s.wA≤qb.1)=false→
       ((true=true→de s.li s.lt s.le=true))∧(
       let uq:=(fN s.li s.lt s.le (IntKind.i64.wrap (s.wA-1)))
       ((true=true→okB s.li s.lt=true))∧(
       let mD:=cT s.li s.lt s.le s.wA 8
       ((true=true→Ok s 1))∧(
       let gk:=aX (ah 46 cA [(0,D.int .i64 3),(2,D.int .i64 4),(4,D.int .i64 (IntKind.i64.wrap (s.wA-1))),(5,D.int .i64 uq.1),(6,D.int .i64 s.aJ),(8,D.int .i64 s.round),(12,D.list mD)]) s
       True))))))))∧(((x==4)=false→
      (((x==5)=true→
       (True)∧(
       let qb:=(fh s.li s.lt s.le)
       ((decide (s.wy≤qb.1)=true→
        (True)∧(
        let hH:=(du (D.agg [D.list s.sv,D.list s.sl]))
        (true=true→((decide (0≤(az (ay 0 s.xG) ((s.au:List D).length:Int))))&&((decide ((az (ay 0 s.xG) ((s.au:List D).length:Int))≤(az (IntKind.i64.wrap ((az (ay 0 s.xG) ((s.au:List D).length:Int))+256)) ((s.au:List D).length:Int))))&&(decide ((az (IntKind.i64.wrap ((az (ay 0 s.xG) ((s.au:List D).length:Int))+256)) ((s.au:List D).length:Int))≤((s.au:List D).length:Int)))))=true)∧(
        (True)∧(
        let mC:=(lJ ((s.au.take ((az (IntKind.i64.wrap ((az (ay 0 s.xG) ((s.au:List D).length:Int))+256)) ((s.au:List D).length:Int)):Int).toNat).drop ((az (ay 0 s.xG) ((s.au:List D).length:Int)):Int).toNat))
        ((true=true→Ok ({s with xG:=(az (ay 0 s.xG) ((s.au:List D).length:Int))}:RS) 1))∧(
        let qw:=aX (ah 46 cA [(0,D.int .i64 5),(2,D.int .i64 5),(4,D.int .i64 s.iK),(5,D.int .i64 s.ff),(9,D.int .i64 (az (ay 0 s.xG) ((s.au:List D).length:Int))),(10,D.int .i64 ((s.au:List D).length:Int)),(13,(cD 0 hH)),(14,(cD 1 hH)),(15,D.list mC)]) ({s with xG:=(az (ay 0 s.xG) ((s.au:List D).length:Int))}:RS)
        True))))))∧((decide (s.wy≤qb.1)=false→
        ((true=true→de s.li s.lt s.le=true))∧(
        let uq:=(fN s.li s.lt s.le (IntKind.i64.wrap (s.wy-1)))
        ((true=true→okB s.li s.lt=true))∧(
        let mD:=cT s.li s.lt s.le s.wy 8
        ((true=true→Ok s 1))∧(
        let gk:=aX (ah 46 cA [(0,D.int .i64 3),(2,D.int .i64 5),(4,D.int .i64 (IntKind.i64.wrap (s.wy-1))),(5,D.int .i64 uq.1),(6,D.int .i64 s.aJ),(8,D.int .i64 s.round),(12,D.list mD)]) s
        True))))))))∧(((x==5)=false→
       False))))))))))))
theorem Vh(x:Int)(s:RS)(hx:kr .i64 x)(hs:bV (.bQ cY) (encS s))(h:Ok s 1∧0≤x∧x≤5):agX x s:=by
 have hd:=Nc hs
 obtain⟨h,h0,h5⟩:=h
 (repeat' (first|exact trivial|apply And.intro|intro _))
 all_goals first
  |exact RP _ _ hd
  |exact h.may
  |exact h.O6
  |exact h
  |exact h.same ⟨rfl,rfl,rfl,rfl,rfl,rfl,rfl,rfl,rfl,rfl,rfl,rfl,rfl,rfl⟩
  |(simp only[beq_eq_false_iff_ne,ne_eq]at*;omega)
theorem c33:ax Try.prog 33 s33 (pre 33) (aK 33):=by
 refine bz (given:=[(0,{drop:=[4006001]})]) mix Yu Try.func33 rfl (by kernel_rfl) (v:=afk) (by kernel_rfl) ?_
 intro ds h hp
 obtain⟨_,_,rfl,⟨x,rfl,hx⟩,h1⟩:=aa.1 h
 have hs:=h1
 obtain⟨s,rfl⟩:=dV h1
 refine VC.bH (Φ:=aK) (Pre:=pre) (dec:=na) (enc:=dF) (bad:=aW) (lp:=fun _ _ _=>aW) (y:=cq x s) bC (by kernel_rfl) (Eq.mpr (α:=VC.fH aK pre triv (VC.o9 aK pre dF (fun _ _ _=>aW) []) _ _) (β:=agX x s) (by kernel_rfl) (Vh x s hx hs hp)) (by kernel_rfl) (by kernel_rfl)
theorem Yz:gM Try.prog pre aK afV:=aj c33 Yu
theorem c84:ax Try.prog 84 DJ (pre 84) (aK 84):=by
 refine aH (given:=[]) mix Yz Try.func84 (by kernel_rfl) (v:=apo) (by kernel_rfl) ?_
 intro ds h hp
 obtain⟨x,_,rfl,hx,rfl⟩:=h
 refine VC.bH (Φ:=aK) (Pre:=pre) (dec:=D.eh) (enc:=D.bool) (bad:=false) (lp:=fun _ _ _=>false) (y:=qT x) bC (by kernel_rfl) (VC.gu (by kernel_rfl)) (by kernel_rfl) (by kernel_rfl)
theorem XR:gM Try.prog pre aK afu:=aj c84 Yz
theorem akW:ax Try.prog 80 WG (pre 80) (aK 80):=by
 refine aH (given:=[]) mix XR Try.func80 (by kernel_rfl) (v:=QL) (by kernel_rfl) ?_
 intro ds h hp
 obtain⟨_,_,rfl,⟨l,rfl,hlen,hL⟩,_,_,rfl,⟨_,rfl,rfl⟩,rfl⟩:=h
 have nL:=hlen.1
 simp only[maxLen]at nL
 have hR:aK 80 [.list l, .fn 84 []] = .int .i64 (findF (wX (.fn 84 [])) l 0):=rfl
 rw[hR]
 have hc: ∀x,aK 84 [x] = .bool (wX (.fn 84 []) x):=fun _=>rfl
 simp[QL,cO,cg,cb,bh,cd,bG,cN,cQ,cP,dI,den,U.den,B.den,dp,aq,bu,cn,ch,ck,df,aQ,bn,pre,hc]
 obtain⟨J,wJ⟩: ∃J:List D→Prop,∀xs,J xs↔ ∃n:Nat,∃y:Int,xs=[.int .i64 y, .int .i64 n] ∧n≤l.length∧findF (wX (.fn 84 [])) (l.drop n) n=findF (wX (.fn 84 [])) l 0:=⟨_,fun _=>Iff.rfl⟩
 obtain⟨M,BZ⟩: ∃M:List D→Nat,∀xs,M xs=l.length-((xs.getD 1 .top).ab).toNat:=⟨_,fun _=>rfl⟩
 refine jS.intro J M ((wJ _).2 ⟨0,0,rfl,Nat.zero_le _,by simp⟩) ?_
 intro xs pT hJ
 obtain⟨n,y,rfl,hle,qF⟩:=(wJ _).1 hJ
 clear hJ pT
 simp[cO,cg,cb,bh,cd,bG,cN,cQ,cP,dI,den,U.den,B.den,dp,aq,bu,cn,ch,ck,df,aQ,bn]
 refine⟨fun aL=> ?_,fun lR=> ?_⟩
 ·have hx:l[n]? =some l[n] :=av aL
  have hd:l.drop n=l[n] ::l.drop (n+1):=List.drop_eq_getElem_cons aL
  rw[hd]at qF
  simp only[findF]at qF
  rw[hx,Option.getD_some]
  refine⟨by omega,fun hb=> ?_,fun hb=> ?_⟩
  ·rw[if_pos hb]at qF;exact qF
  ·rw[wrap64 (by omega) (by omega)]
   refine⟨(wJ _).2 ⟨n+1,y,by simp,aL,?_⟩,?_⟩
   ·rw[if_neg (by rw[hb];simp)]at qF
    rw[←qF];simp
   ·rw[BZ,BZ];simp[aQ];omega
 ·have:l.drop n=[] :=List.drop_of_length_le lR
  rw[this]at qF
  exact qF
theorem LR:gM Try.prog pre aK QS:=aj akW XR
theorem akY:ax Try.prog 59 WH (pre 59) (aK 59):=by
 refine aH (given:=[]) mix LR Try.func59 (by kernel_rfl) (v:=QN) (by kernel_rfl) ?_
 intro ds h hp
 obtain⟨_,_,rfl,⟨l,rfl,hlen,hL⟩,_,_,rfl,⟨_,rfl,rfl⟩,rfl⟩:=h
 have hR:aK 59 [.list l, .fn 84 []] = .bool (mT l (.fn 84 [])):=rfl
 have hI:aK 80 [.list l, .fn 84 []] = .int .i64 (findF (wX (.fn 84 [])) l 0):=rfl
 rw[hR]
 simp[QN,cO,cg,cb,bh,cd,bG,cN,cQ,cP,dI,den,U.den,B.den,dp,aq,bu,cn,ch,ck,df,aQ,bn,pre,hI]
 rw[Bool.eq_iff_iff,aN]
 exact(xB _ l 0 (Int.le_refl 0)).symm
theorem LU:gM Try.prog pre aK I4:=aj akY LR
def agG(x:Int)(s:RS):Prop:=
 (True)∧((decide (x≤s.aJ)=false→
  ((true=true→okB s.li s.lt=true))∧(
  let x77:=cT s.li s.lt s.le (IntKind.i64.wrap (s.aJ+1)) (IntKind.i64.wrap (x-s.aJ))
  (true=true→((s.bq++x77):List D).length≤maxLen∧((s.bq++x77):List D).length*320≤140737488355328)∧(
  True))))
theorem U0(x:Int)(s:RS)(hx:kr .i64 x)(hs:bV (.bQ cY) (encS s))(h:Ok s 1):agG x s:=by
 have h3:=rU (i:=s.li) (f:=IntKind.i64.wrap (s.aJ+1)) (m:=IntKind.i64.wrap (x-s.aJ)) (l:=s.le)
 have h1:=h.nc
 have h2:=h.xM
 refine⟨trivial,fun _=>⟨fun _=>h.O6,fun _=> ?_,trivial⟩⟩
 show(s.bq++fi _ _ _ _).length≤maxLen∧(s.bq++fi _ _ _ _).length*320≤_
 rw[List.length_append]
 simp only[maxLen]
 omega
theorem c73:ax Try.prog 73 s73 (pre 73) (aK 73):=by
 refine bz (given:=[]) mix LU Try.func73 rfl (by kernel_rfl) (v:=aeU) (by kernel_rfl) ?_
 intro ds h hp
 obtain⟨_,_,rfl,⟨x,rfl,hx⟩,h1⟩:=aa.1 h
 have hs:=h1
 obtain⟨s,rfl⟩:=dV h1
 refine VC.bH (Φ:=aK) (Pre:=pre) (dec:=XP) (enc:=GJ) (bad:=(false,aW)) (lp:=fun _ _ _=>(false,aW)) (y:=iq x s) bC (by kernel_rfl) (Eq.mpr (α:=VC.fH aK pre triv (VC.o9 aK pre GJ (fun _ _ _=>(false,aW)) []) _ _) (β:=agG x s) (by kernel_rfl) (U0 x s hx hs hp)) (by kernel_rfl) (by kernel_rfl)
theorem X1:gM Try.prog pre aK ZF:=aj c73 LU
def agT(s:RS):Prop:=
 ((true=true→de s.li s.lt s.le=true))∧(
 let jF:=(dm s.li s.lt s.le)
 VC.o9 aK pre dF (fun _ _ l=>o4 s jF (l.getD 0 .top).ak (l.getD 1 .top).ab) [] (VC.lp 69 Zy) (dp (fun i=>([] ++encS s).getD i .top) 58 (D.cW [D.int .i64 jF.1,D.int .i64 jF.2])))
def ajJ(s:RS)(jF:Int×Int)(i69:List D)(nf:Int):Prop:=
 ((decide (nf<((([D.int .i64 0,D.int .i64 0,D.int .i64 0,D.int .i64 0,D.int .i64 0] :List D):List D).length:Int))=true→
  (((nf==0)=true→
   (true=true→((decide (0≤0))&&(decide (0<((i69:List D).length:Int))))=true)∧(
   True)))∧(((nf==0)=false→
   (((nf==1)=true→
    (true=true→((decide (0≤1))&&(decide (1<((i69:List D).length:Int))))=true)∧(
    True)))∧(((nf==1)=false→
    (((nf==2)=true→
     (true=true→((decide (0≤2))&&(decide (2<((i69:List D).length:Int))))=true)∧(
     True)))∧(((nf==2)=false→
     (((nf==3)=true→
      (true=true→((decide (0≤3))&&(decide (3<((i69:List D).length:Int))))=true)∧(
      True)))∧(((nf==3)=false→
      (((nf==4)=true→
       (true=true→((decide (0≤4))&&(decide (4<((i69:List D).length:Int))))=true)∧(
       True)))∧(((nf==4)=false→
       False))))))))))))∧((decide (nf<((([D.int .i64 0,D.int .i64 0,D.int .i64 0,D.int .i64 0,D.int .i64 0] :List D):List D).length:Int))=false→
  (true=true→((decide (0≤(IntKind.i64.wrap (s.id-1))))&&(decide ((IntKind.i64.wrap (s.id-1))<((i69:List D).length:Int))))=true)∧(
  ((true=true→Ok s 0))∧(
  let x82:=(cH s)
  (True)∧(
  let nZ:=(rR (ah 2 x82 []) (D.list ((i69.take ((IntKind.i64.wrap (s.id-1)):Int).toNat)++(D.int .i64 jF.1::((i69.drop ((IntKind.i64.wrap (s.id-1)):Int).toNat).drop (1:Int).toNat)))))
  ((true=true→de s.li s.lt s.le=true))∧(
  let Ti:=(fN s.li s.lt s.le nZ)
  (True)∧(((((decide (nZ≤s.aJ))||(Ti.2 !=0))||(Ti.1 !=s.term))=false→
   ((true=true→Ok s 1))∧(
   let gk:=iq nZ s
   ((((gk.1==true)&&true)=true→Ok gk.2 0))∧(
   let TV:=(cH gk.2)
   True))))))))))
def xr(s:RS)(jF:Int×Int)(i69:List D)(nf:Int):(List D×Int)⊕(RS):=
 if decide (nf<((([D.int .i64 0,D.int .i64 0,D.int .i64 0,D.int .i64 0,D.int .i64 0] :List D):List D).length:Int)) then(
  if(nf==0) then(
   .inl (((i69.take (0:Int).toNat)++(D.int .i64 s.FK::((i69.drop (0:Int).toNat).drop (1:Int).toNat))),(IntKind.i64.wrap (nf+1))))
  else(
   if(nf==1) then(
    .inl (((i69.take (1:Int).toNat)++(D.int .i64 s.FJ::((i69.drop (1:Int).toNat).drop (1:Int).toNat))),(IntKind.i64.wrap (nf+1))))
   else(
    if(nf==2) then(
     .inl (((i69.take (2:Int).toNat)++(D.int .i64 s.FI::((i69.drop (2:Int).toNat).drop (1:Int).toNat))),(IntKind.i64.wrap (nf+1))))
    else(
     if(nf==3) then(
      .inl (((i69.take (3:Int).toNat)++(D.int .i64 s.FH::((i69.drop (3:Int).toNat).drop (1:Int).toNat))),(IntKind.i64.wrap (nf+1))))
     else(
      if(nf==4) then(
       .inl (((i69.take (4:Int).toNat)++(D.int .i64 s.FG::((i69.drop (4:Int).toNat).drop (1:Int).toNat))),(IntKind.i64.wrap (nf+1))))
      else(
       .inr aW))))))
 else(
  let x82:=(cH s)
  let nZ:=(rR (ah 2 x82 []) (D.list ((i69.take ((IntKind.i64.wrap (s.id-1)):Int).toNat)++(D.int .i64 jF.1::((i69.drop ((IntKind.i64.wrap (s.id-1)):Int).toNat).drop (1:Int).toNat)))))
  let Ti:=(fN s.li s.lt s.le nZ)
  if(((decide (nZ≤s.aJ))||(Ti.2 !=0))||(Ti.1 !=s.term)) then(
   .inr (s))
  else(
   let gk:=iq nZ s
   let TV:=(cH gk.2)
   let Zr:=(lI (ah 2 TV []) gk.2.id)
   if(gk.1&&(!Zr)) then(
    let ZZ:=iE gk.2.term 0 gk.2
    let ZY:=lO ZZ
    .inr (ZY))
   else(
    .inr (gk.2))))
theorem Fg(s:RS)(jF:Int×Int)(i69:List D)(nf:Int):xr s jF i69 nf=ml s jF i69 nf:=by
 unfold xr ml rX
 dsimp only
 repeat (first|rfl|split)
theorem Vd(s:RS)(hs:bV (.bQ cY) (encS s))(h:Ok s 1):agT s:=by
 refine⟨fun _=>h.may,?_⟩
 intro jF
 clear_value jF
 refine VC.iH 69 (by kernel_rfl) ?_
 refine VC.fB (Φ:=aK) (Pre:=pre) (triv:=triv) (v0:=69) (decL:=fun l=>((l.getD 0 .top).ak,(l.getD 1 .top).ab)) (encL:=fun a:List D×Int=>([D.list a.1,D.int .i64 a.2])) (dec:=na) (enc:=dF) (lp:=fun _ _ _ _=>aW) (bad:= .inr aW) (bd:=aW) (by kernel_rfl) (fun a:List D×Int=>ml s jF a.1 a.2) (fun a:List D×Int=>a.1.length=5∧0≤a.2∧a.2≤5) (fun a:List D×Int=>kA s jF a.1 a.2) ([D.int .i64 0,D.int .i64 0,D.int .i64 0,D.int .i64 0,D.int .i64 0],0) bC (by kernel_rfl) ?YX (fun a=>rfl) ?SU (by kernel_rfl) (fun a ha=>Eq.trans (b:=xr s jF a.1 a.2) (by kernel_rfl) (Fg s jF a.1 a.2)) (fun a=>by kernel_rfl) (fun a=>by kernel_rfl) (fun a ha fV=>Eq.mpr (α:=VC.fH aK pre triv (VC.yQ aK pre dF (fun _ _ _=>aW) []) _ _) (β:=ajJ s jF a.1 a.2) (by kernel_rfl) ?Cm) (by kernel_rfl)
 ·exact⟨rfl,by decide,by decide⟩
 ·rintro⟨l,j⟩ ⟨hl,h0,h5⟩
  simp only at hl h0 h5
  unfold ml
  dsimp only
  have hj:j=0∨j=1∨j=2∨j=3∨j=4∨j=5:=by omega
  have hL: ∀(x:D) (n:Int),n.toNat<5→(l.take n.toNat++(x::(l.drop n.toNat).drop (1:Int).toNat)).length=5:=by
   intro x n hn
   simp only[List.length_append,List.length_take,List.length_cons,List.length_drop,hl]
   omega
  rcases hj with rfl|rfl|rfl|rfl|rfl|rfl
  ·rw[if_pos (by rfl),if_pos (by rfl)];refine⟨⟨hL _ 0 (by decide),?_,?_⟩,?_⟩<;>first|(dsimp only;decide)|(unfold kA;dsimp only;decide)
  ·rw[if_pos (by rfl),if_neg (by simp),if_pos (by rfl)];refine⟨⟨hL _ 1 (by decide),?_,?_⟩,?_⟩<;>first|(dsimp only;decide)|(unfold kA;dsimp only;decide)
  ·rw[if_pos (by rfl),if_neg (by simp),if_neg (by simp),if_pos (by rfl)];refine⟨⟨hL _ 2 (by decide),?_,?_⟩,?_⟩<;>first|(dsimp only;decide)|(unfold kA;dsimp only;decide)
  ·rw[if_pos (by rfl),if_neg (by simp),if_neg (by simp),if_neg (by simp),if_pos (by rfl)];refine⟨⟨hL _ 3 (by decide),?_,?_⟩,?_⟩<;>first|(dsimp only;decide)|(unfold kA;dsimp only;decide)
  ·rw[if_pos (by rfl),if_neg (by simp),if_neg (by simp),if_neg (by simp),if_neg (by simp),if_pos (by rfl)];refine⟨⟨hL _ 4 (by decide),?_,?_⟩,?_⟩<;>first|(dsimp only;decide)|(unfold kA;dsimp only;decide)
  ·rw[if_neg (by simp)];trivial
 ·obtain⟨l,j⟩:=a
  obtain⟨hl,h0,h5⟩:=ha
  simp only at hl h0 h5
  have hb: ∀n:Int,0≤n→n<5→(decide (0≤n)&&decide (n<((l:List D).length:Int)))=true:=by
   intro n h1 h2
   rw[hl,aw,aN,aN]
   exact⟨h1,h2⟩
  have i1:=h.DL
  have i5:=h.DK
  have hw:IntKind.wrap .i64 (s.id-1)=s.id-1:=wrap64 (by omega) (by omega)
  refine⟨fun aL=> ?_,fun _=>⟨fun _=> ?_,fun _=>h.le (by omega),?_⟩⟩
  ·(repeat' (first|exact trivial|apply And.intro|intro _))
   all_goals first
    |(rw[hl];rfl)
    |(simp only[beq_eq_false_iff_ne,ne_eq,aN,List.length_cons,List.length_nil]at*;omega)
  ·show(decide (0≤IntKind.wrap .i64 (s.id-1))&&decide (IntKind.wrap .i64 (s.id-1)<_))=true
   rw[hw];exact hb _ (by omega) (by omega)
  ·intro x82
   refine⟨trivial,?_⟩
   intro nZ
   refine⟨fun _=>h.may,?_⟩
   intro Ti
   refine⟨trivial,fun _=>⟨fun _=>h,?_⟩⟩
   intro gk
   exact⟨fun _=>h.bq,trivial⟩
theorem c40:ax Try.prog 40 s40 (pre 40) (aK 40):=by
 refine bz (given:=[(1000000,{drop:=[18]}),(3,{own:=[(4,3)]}),(5,{drop:=[4005005]})]) mix X1 Try.func40 rfl (by kernel_rfl) (v:=Zy) (by kernel_rfl) ?_
 intro ds h hp
 have hs:=h
 obtain⟨s,rfl⟩:=dV h
 refine VC.bH (Φ:=aK) (Pre:=pre) (dec:=na) (enc:=dF) (bad:=aW) (lp:=fun _ _ l=>(let jF:=(dm s.li s.lt s.le);o4 s jF (l.getD 0 .top).ak (l.getD 1 .top).ab)) (y:=fx s) bC (by kernel_rfl) (Eq.mpr (α:=VC.fH aK pre triv (VC.o9 aK pre dF (fun _ _ l=>(let jF:=(dm s.li s.lt s.le);o4 s jF (l.getD 0 .top).ak (l.getD 1 .top).ab)) []) _ _) (β:=agT s) (by kernel_rfl) (Vd s hs hp)) (by kernel_rfl) (by kernel_rfl)
theorem Yt:gM Try.prog pre aK ZQ:=aj c40 X1
def agJ(s:RS):Prop:=
 ((true=true→de s.li s.lt s.le=true))∧(
 let jF:=(dm s.li s.lt s.le)
 VC.o9 aK pre dF (fun _ _ l=>qZ jF (l.getD 0 .top).ab (oD (l.drop 1))) [] (VC.lp 89 TX) (dp (fun i=>([] ++encS s).getD i .top) 58 (D.cW [D.int .i64 jF.1,D.int .i64 jF.2])))
def ajH(s:RS)(jF:Int×Int)(i89:Int)(t89:RS):Prop:=
 ((decide (i89<6)=true→
  (True)∧(((i89==0)=false→
   (True)∧(((i89==1)=false→
    (True)∧(((i89==2)=false→
     (True)∧(((i89==3)=false→
      (True)∧(((i89==4)=false→
       (True)∧(((i89==5)=false→
        False))))))))))))))∧((decide (i89<6)=false→
  ((true=true→Ok t89 1))∧(
  let ot:=DY (ah 27 Pw [(0,D.int .i64 1)]) t89
  ((true=true→Ok ot.2 0))∧(
  let wR:=(cH ot.2)
  ((true=true→Ok ot.2 0∧dL (ah 2 wR [])=true))∧(
  let gj:=(eO (ah 2 wR []) ot.2)
  VC.yQ aK pre dF (fun _ _ l=>rW gj (l.getD 0 .top).ab (oD (l.drop 1))) [] (VC.lp 153 TX) (dp (dp (dp (dI (dp (fun i=>([] ++encS s).getD i .top) 58 (D.cW [D.int .i64 jF.1,D.int .i64 jF.2])) 89 ([D.int .i64 i89] ++MN t89)) 146 (Lg ot)) 149 (wR)) 150 (D.list gj)))))))
def ajG(gj:List D)(i153:Int)(t153:RS):Prop:=
 ((decide (i153<((gj:List D).length:Int))=true→
  (true=true→((decide (0≤i153))&&(decide (i153<((gj:List D).length:Int))))=true)∧(
  ((true=true→Ok t153 1∧(0:Int)≤((((gj).getD (i153:Int).toNat .top)).ab)∧(((((gj).getD (i153:Int).toNat .top)).ab):Int)≤5))∧(
  let agh:=cq ((((gj).getD (i153:Int).toNat .top)).ab) t153
  True))))∧((decide (i153<((gj:List D).length:Int))=false→
  ((true=true→Ok t153 1))∧(
  let F9:=fx t153
  True)))
theorem U3(s:RS)(hs:bV (.bQ cY) (encS s))(h:Ok s 13):agJ s:=by
 refine⟨fun _=>h.may,?_⟩
 intro jF
 clear_value jF
 refine VC.iH 89 (by kernel_rfl) ?_
 refine VC.fB (Φ:=aK) (Pre:=pre) (triv:=triv) (v0:=89) (decL:=fun l=>((l.getD 0 .top).ab,oD (l.drop 1))) (encL:=fun a:Int×RS=>([D.int .i64 a.1] ++MN a.2)) (dec:=na) (enc:=dF) (lp:=fun a _ _ l=>(let i89:=a.1;let t89:=a.2;let ot:=DY (ah 27 Pw [(0,D.int .i64 1)]) t89;let wR:=(cH ot.2);let gj:=(eO (ah 2 wR []) ot.2);rW gj (l.getD 0 .top).ab (oD (l.drop 1)))) (bad:= .inr aW) (bd:=aW) (by kernel_rfl) (fun a:Int×RS=>vF jF a.1 a.2) (fun a:Int×RS=>0≤a.1∧a.1≤6∧Ok a.2 13) (fun a:Int×RS=>lq jF a.1 a.2) (0,{s with role:=2,aI:=s.id,wait:=0,round:=0,reads:=[]}) bC (by kernel_rfl) ?YX (fun a=>rfl) ?SU (by kernel_rfl) (fun a ha=>by kernel_rfl) (fun a=>by kernel_rfl) (fun a=>by kernel_rfl) (fun a ha fV=>Eq.mpr (α:=VC.fH aK pre triv (VC.yQ aK pre dF (fun _ _ l=>(let i89:=a.1;let t89:=a.2;let ot:=DY (ah 27 Pw [(0,D.int .i64 1)]) t89;let wR:=(cH ot.2);let gj:=(eO (ah 2 wR []) ot.2);rW gj (l.getD 0 .top).ab (oD (l.drop 1)))) []) _ _) (β:=ajH s jF a.1 a.2) (by kernel_rfl) ?Cm) (by kernel_rfl)
 ·exact⟨Int.le_refl 0,by show(0:Int)≤6;decide,⟨h.may,h.DL,h.DK,h.xM,h.nm,h.ne,h.nc,h.nv,h.cf,h.cs,h.cl,h.tm,h.tx,rfl⟩⟩
 ·rintro⟨j,t⟩ ⟨h0,h5,ht⟩
  simp only at h0 h5 ht
  unfold vF
  dsimp only
  have hj:j=0∨j=1∨j=2∨j=3∨j=4∨j=5∨j=6:=by omega
  rcases hj with rfl|rfl|rfl|rfl|rfl|rfl|rfl
  ·rw[if_pos (by rfl),if_pos (by rfl)];refine⟨⟨?_,?_,ht.same ⟨rfl,rfl,rfl,rfl,rfl,rfl,rfl,rfl,rfl,rfl,rfl,rfl,rfl,rfl⟩⟩,?_⟩<;>first|(dsimp only;decide)|(unfold lq;dsimp only;decide)
  ·rw[if_pos (by rfl),if_neg (by simp),if_pos (by rfl)];refine⟨⟨?_,?_,ht.same ⟨rfl,rfl,rfl,rfl,rfl,rfl,rfl,rfl,rfl,rfl,rfl,rfl,rfl,rfl⟩⟩,?_⟩<;>first|(dsimp only;decide)|(unfold lq;dsimp only;decide)
  ·rw[if_pos (by rfl),if_neg (by simp),if_neg (by simp),if_pos (by rfl)];refine⟨⟨?_,?_,ht.same ⟨rfl,rfl,rfl,rfl,rfl,rfl,rfl,rfl,rfl,rfl,rfl,rfl,rfl,rfl⟩⟩,?_⟩<;>first|(dsimp only;decide)|(unfold lq;dsimp only;decide)
  ·rw[if_pos (by rfl),if_neg (by simp),if_neg (by simp),if_neg (by simp),if_pos (by rfl)];refine⟨⟨?_,?_,ht.same ⟨rfl,rfl,rfl,rfl,rfl,rfl,rfl,rfl,rfl,rfl,rfl,rfl,rfl,rfl⟩⟩,?_⟩<;>first|(dsimp only;decide)|(unfold lq;dsimp only;decide)
  ·rw[if_pos (by rfl),if_neg (by simp),if_neg (by simp),if_neg (by simp),if_neg (by simp),if_pos (by rfl)];refine⟨⟨?_,?_,ht.same ⟨rfl,rfl,rfl,rfl,rfl,rfl,rfl,rfl,rfl,rfl,rfl,rfl,rfl,rfl⟩⟩,?_⟩<;>first|(dsimp only;decide)|(unfold lq;dsimp only;decide)
  ·rw[if_pos (by rfl),if_neg (by simp),if_neg (by simp),if_neg (by simp),if_neg (by simp),if_neg (by simp),if_pos (by rfl)];refine⟨⟨?_,?_,ht.same ⟨rfl,rfl,rfl,rfl,rfl,rfl,rfl,rfl,rfl,rfl,rfl,rfl,rfl,rfl⟩⟩,?_⟩<;>first|(dsimp only;decide)|(unfold lq;dsimp only;decide)
  ·rw[if_neg (by simp)];trivial
 ·obtain⟨j,t⟩:=a
  obtain⟨h0,h5,ht⟩:=ha
  simp only at h0 h5 ht
  refine⟨fun aL=> ?_,fun _=>⟨fun _=>ht.le (by omega),?_⟩⟩
  ·(repeat' (first|exact trivial|apply And.intro|intro _))
   all_goals (simp only[beq_eq_false_iff_ne,ne_eq,aN]at*;omega)
  ·intro ot
   have hp:Ok ot.2 12:=ht.put (k:=12) (by intro hq;exact absurd hq (by decide))
   clear_value ot
   refine⟨fun _=>hp.le (by omega),?_⟩
   intro wR
   have ah9:dL (ah 2 wR [])=true:=jt hp
   clear_value wR
   refine⟨fun _=>⟨hp.le (by omega),ah9⟩,?_⟩
   intro gj
   have Xo:=jn (c:=ah 2 wR []) (s:=ot.2) ah9
   change gj.length≤10∧ ∀y∈gj,1≤y.ab∧y.ab≤5 at Xo
   clear_value gj
   obtain⟨hl,hr⟩:=Xo
   have hg: ∀i:Int,0≤i→i<gj.length→1≤(gj.getD i.toNat .top).ab∧(gj.getD i.toNat .top).ab≤5:=by
    intro i h0 h1
    have eX:i.toNat<gj.length:=by omega
    rw[List.getD_eq_getElem?_getD,av eX]
    exact hr _ (List.getElem_mem eX)
   intro J
   refine VC.iH 153 (by kernel_rfl) ?_
   refine VC.fB (Φ:=aK) (Pre:=pre) (triv:=triv) (v0:=153) (decL:=fun l=>((l.getD 0 .top).ab,oD (l.drop 1))) (encL:=fun a:Int×RS=>([D.int .i64 a.1] ++MN a.2)) (dec:=na) (enc:=dF) (lp:=fun _ _ _ _=>aW) (bad:= .inr aW) (bd:=aW) (by kernel_rfl) (fun a:Int×RS=>xq gj a.1 a.2) (fun a:Int×RS=>0≤a.1∧a.1≤gj.length∧Ok a.2 (1+(10-a.1.toNat))) (fun a:Int×RS=>Dc gj a.1 a.2) (0,ot.2) bC (by kernel_rfl) ?i0c (fun a=>rfl) ?jC (by kernel_rfl) (fun a ha=>by kernel_rfl) (fun a=>by kernel_rfl) (fun a=>by kernel_rfl) (fun a ha fV=>Eq.mpr (α:=VC.fH aK pre triv (VC.yQ aK pre dF (fun _ _ _=>aW) [J]) _ _) (β:=ajG gj a.1 a.2) (by kernel_rfl) ?aaI) (by kernel_rfl)
   ·exact⟨Int.le_refl 0,Int.natCast_nonneg _,hp.le (by show 1+(10-0)≤_;omega)⟩
   ·rintro⟨i,t⟩ ⟨h1,h2,h3⟩
    simp only at h1 h2 h3
    unfold xq
    by_cases aL:decide (i<(gj.length:Int))=true
    ·rw[if_pos aL]
     rw[aN]at aL
     have hw:IntKind.wrap .i64 (i+1)=i+1:=wrap64 (by omega) (by omega)
     dsimp only
     rw[hw]
     obtain⟨g1,g5⟩:=hg i h1 aL
     refine⟨⟨by show 0≤i+1;omega,by show i+1≤_;omega,?_⟩,by show gj.length-(i+1).toNat<gj.length-i.toNat;omega⟩
     exact bB.Ms (h3.le (by show 1+(10-(i+1).toNat)+1≤_;omega)) (by omega) g5
    ·rw[if_neg aL];trivial
   ·obtain⟨i,t⟩:=a
    obtain⟨h1,h2,h3⟩:=ha
    simp only at h1 h2 h3
    refine⟨fun aL=> ?_,fun _=>⟨fun _=>h3.le (by omega),trivial⟩⟩
    rw[aN]at aL
    obtain⟨g1,g5⟩:=hg i h1 aL
    refine⟨fun _=> ?_,fun _=>⟨h3.le (by omega),by show 0≤(gj.getD i.toNat .top).ab;omega,g5⟩,trivial⟩
    rw[aw,aN,aN]
    exact⟨h1,aL⟩
theorem c67:ax Try.prog 67 s67 (pre 67) (aK 67):=by
 refine bz (given:=[(3,{boxes:=Cu}),(9,{boxes:=Cu}),(5,{drop:=[4006004]})]) mix Yt Try.func67 rfl (by kernel_rfl) (v:=TX) (by kernel_rfl) ?_
 intro ds h hp
 have hs:=h
 obtain⟨s,rfl⟩:=dV h
 refine VC.bH (Φ:=aK) (Pre:=pre) (dec:=na) (enc:=dF) (bad:=aW) (lp:=fun _ _ l=>(let jF:=(dm s.li s.lt s.le);qZ jF (l.getD 0 .top).ab (oD (l.drop 1)))) (y:=xU s) bC (by kernel_rfl) (Eq.mpr (α:=VC.fH aK pre triv (VC.o9 aK pre dF (fun _ _ l=>(let jF:=(dm s.li s.lt s.le);qZ jF (l.getD 0 .top).ab (oD (l.drop 1)))) []) _ _) (β:=agJ s) (by kernel_rfl) (U3 s hs hp)) (by kernel_rfl) (by kernel_rfl)
theorem X7:gM Try.prog pre aK ZH:=aj c67 Yt
def agW(x:D)(s:RS):Prop:=
 (True)∧(
 let mh:=dQ ({s with term:=(IntKind.i64.wrap (s.term+1)),vote:=s.id}:RS)
 (True)∧(
 let YP:=(jv (ah 2 x []) (D.list ([D.int .i64 mh.id] :List D)))
 ((YP=true→
  ((true=true→Ok ({mh with role:=1,aI:=0,aE:=([D.int .i64 mh.id] :List D)}:RS) 13))∧(
  let N4:=xU ({mh with role:=1,aI:=0,aE:=([D.int .i64 mh.id] :List D)}:RS)
  True)))∧((YP=false→
  ((true=true→de mh.li mh.lt mh.le=true))∧(
  let lS:=(dm mh.li mh.lt mh.le)
  ((true=true→Ok ({mh with role:=1,aI:=0,aE:=([D.int .i64 mh.id] :List D)}:RS) 0∧dL (ah 2 x [])=true))∧(
  let hU:=(eO (ah 2 x []) ({mh with role:=1,aI:=0,aE:=([D.int .i64 mh.id] :List D)}:RS))
  VC.o9 aK pre dF (fun _ _ l=>kE x lS hU (l.getD 0 .top).ab (oD (l.drop 1))) [] (VC.lp 113 Zz) (dp (dp (dp (dp (fun i=>([x] ++encS s).getD i .top) 74 (dF mh)) 97 (D.bool YP)) 102 (D.cW [D.int .i64 lS.1,D.int .i64 lS.2])) 110 (D.list hU))))))))
def ajK(x:D)(lS:Int×Int)(hU:List D)(i113:Int)(t113:RS):Prop:=
 ((decide (i113<((hU:List D).length:Int))=true→
  (true=true→((decide (0≤i113))&&(decide (i113<((hU:List D).length:Int))))=true)∧(
  (True)∧(
  let Zq:=(lI (ah 2 x []) ((((hU).getD (i113:Int).toNat .top)).ab))
  ((Zq=true→
   ((true=true→Ok t113 1))∧(
   let agi:=aX (ah 46 cA [(0,D.int .i64 1),(2,((hU).getD (i113:Int).toNat .top)),(4,D.int .i64 lS.1),(5,D.int .i64 lS.2)]) t113
   True)))∧(True)))))∧(True)
theorem Vg(x:D)(s:RS)(hs:bV (.bQ cY) (encS s))(h:Ok s 14∧dL x=true∧s.term<MX):agW x s:=by
 obtain⟨h,hc,ht⟩:=h
 have h0:=h.QV ht
 refine⟨trivial,trivial,fun _=>⟨fun _=>h0.le (by omega),trivial⟩,fun _=>⟨fun _=>h.may,?_⟩⟩
 intro lS
 refine⟨fun _=>⟨h0.le (by omega),hc⟩,?_⟩
 intro hU
 have atD:hU.length≤10:=(jn (c:=ah 2 x []) hc).1
 clear_value lS hU
 refine VC.iH 113 (by kernel_rfl) ?_
 refine VC.fB (Φ:=aK) (Pre:=pre) (triv:=triv) (v0:=113) (decL:=fun l=>((l.getD 0 .top).ab,oD (l.drop 1))) (encL:=fun a:Int×RS=>([D.int .i64 a.1] ++MN a.2)) (dec:=na) (enc:=dF) (lp:=fun _ _ _ _=>aW) (bad:= .inr aW) (bd:=aW) (by kernel_rfl) (fun a:Int×RS=>pH x lS hU a.1 a.2) (fun a:Int×RS=>0≤a.1∧a.1≤hU.length∧Ok a.2 (1+(10-a.1.toNat))) (fun a:Int×RS=>Bs x lS hU a.1 a.2) (0,{dQ ({s with term:=IntKind.i64.wrap (s.term+1),vote:=s.id}:RS) with role:=1,aI:=0,aE:=[.int .i64 s.id]}) bC (by kernel_rfl) ?YX (fun a=>rfl) ?SU (by kernel_rfl) (fun a ha=>by kernel_rfl) (fun a=>by kernel_rfl) (fun a=>by kernel_rfl) (fun a ha fV=>Eq.mpr (α:=VC.fH aK pre triv (VC.yQ aK pre dF (fun _ _ _=>aW) []) _ _) (β:=ajK x lS hU a.1 a.2) (by kernel_rfl) ?Cm) (by kernel_rfl)
 ·exact⟨Int.le_refl 0,Int.natCast_nonneg _,h0.le (by show 1+(10-0)≤_;omega)⟩
 ·rintro⟨i,t⟩ ⟨h1,h2,h3⟩
  simp only at h1 h2 h3
  unfold pH
  by_cases aL:decide (i<(hU.length:Int))=true
  ·rw[if_pos aL]
   rw[aN]at aL
   have hw:IntKind.wrap .i64 (i+1)=i+1:=wrap64 (by omega) (by omega)
   dsimp only
   rw[hw]
   generalize lI (ah 2 x []) ((hU.getD i.toNat .top).ab)=c
   cases c with
   |true=>
    refine⟨⟨by show 0≤i+1;omega,by show i+1≤_;omega,?_⟩,by show hU.length-(i+1).toNat<hU.length-i.toNat;omega⟩
    exact bB.send (h3.le (by show 1+(10-(i+1).toNat)+1≤_;omega))
   |false=>exact⟨⟨by show 0≤i+1;omega,by show i+1≤_;omega,h3.le (by show 1+(10-(i+1).toNat)≤_;omega)⟩,by show hU.length-(i+1).toNat<hU.length-i.toNat;omega⟩
  ·rw[if_neg aL];trivial
 ·obtain⟨i,t⟩:=a
  obtain⟨h1,h2,h3⟩:=ha
  simp only at h1 h2 h3
  refine⟨fun aL=>⟨fun _=> ?_,trivial,fun _=>⟨fun _=>h3.le (by omega),trivial⟩,trivial⟩,trivial⟩
  rw[aN]at aL
  rw[aw,aN,aN]
  exact⟨h1,aL⟩
theorem c37:ax Try.prog 37 s37 (pre 37) (aK 37):=by
 refine bz (given:=[(8,{boxes:=Cu})]) mix X7 Try.func37 rfl (by kernel_rfl) (v:=Zz) (by kernel_rfl) ?_
 intro ds h hp
 obtain⟨x,_,rfl,hx,h1⟩:=aa.1 h
 have hs:=h1
 obtain⟨s,rfl⟩:=dV h1
 refine VC.bH (Φ:=aK) (Pre:=pre) (dec:=na) (enc:=dF) (bad:=aW) (lp:=fun _ _ l=>(let mh:=dQ ({s with term:=(IntKind.i64.wrap (s.term+1)),vote:=s.id}:RS);let YP:=(jv (ah 2 x []) (D.list ([D.int .i64 mh.id] :List D)));let lS:=(dm mh.li mh.lt mh.le);let hU:=(eO (ah 2 x []) ({mh with role:=1,aI:=0,aE:=([D.int .i64 mh.id] :List D)}:RS));kE x lS hU (l.getD 0 .top).ab (oD (l.drop 1)))) (y:=mM x s) bC (by kernel_rfl) (Eq.mpr (α:=VC.fH aK pre triv (VC.o9 aK pre dF (fun _ _ l=>(let mh:=dQ ({s with term:=(IntKind.i64.wrap (s.term+1)),vote:=s.id}:RS);let YP:=(jv (ah 2 x []) (D.list ([D.int .i64 mh.id] :List D)));let lS:=(dm mh.li mh.lt mh.le);let hU:=(eO (ah 2 x []) ({mh with role:=1,aI:=0,aE:=([D.int .i64 mh.id] :List D)}:RS));kE x lS hU (l.getD 0 .top).ab (oD (l.drop 1)))) []) _ _) (β:=agW x s) (by kernel_rfl) (Vg x s hs hp)) (by kernel_rfl) (by kernel_rfl)
theorem Yv:gM Try.prog pre aK ZS:=aj c37 X7
end Go.Proofs.Ytjhmkaninmgilaa
