/- Part 7 of the proof of RaftOut; no condition. -/
import Derived.Test.YtjhmkaninmgilaaS06
import Derived.Test.YtjhmkaninmgilaaS05
set_option linter.defProp false
set_option linter.unusedVariables false
set_option linter.unusedSimpArgs false
set_option maxHeartbeats 4000000
open Go.IntKind (i64)
namespace Go.Proofs.Ytjhmkaninmgilaa
open Go Go.RowKit Go.dI Go.Proofs
def afc:bj Try.prog 65 YW (pre 65) (cz 65):=by
 refine zO Jh Try.func65 (v:=Ri) ?_;intro C h b;obtain⟨_,_,rfl,⟨f,rfl,o⟩,_,_,rfl,⟨m,rfl,k⟩,_,_,rfl,⟨i,rfl,w⟩,_,_,rfl,⟨t,rfl,u⟩,_,_,rfl,⟨l,rfl,a,x⟩,rfl⟩:=h;have p:cz 65 [.int .i64 f,.int .i64 m,.int .i64 i,.int .i64 t,.list l] = .eS [.list (gK i l f m),oT i t l] :=rfl;simp[Ri,fi,eh,dY,cH,dZ,dy,fh,fm,fj,fZ,den,U.den,B.den,fD,aU,cV,eu,ep,er,fE,bT,cQ,pre,p,oT];replace b:okB i t=true:=b;rw[tH]at o k;obtain⟨s,j,_,_⟩:=jv.1 b;have c:=a.1;have e:=a.2;rw[nQ]at e;simp only[maxLen,MX]at c j⊢;refine⟨?_,fun A z=> ?_⟩
 ·intro h;unfold gK;by_cases d:m<1∨f<=i
  ·rw[if_pos d]
  ·rw[if_neg d];have r:=h.resolve_left d;rw[wrap64 (n:=f-i) (by omega) (by omega),wrap64 (by omega) (by omega)]at r;rw[bO (by omega)];simp
 ·rw[wrap64 (n:=f-i) (by omega) (by omega),wrap64 (n:=f-i-1) (by omega) (by omega)];intro y;rw[wrap64 (n:=(l.length:Int)-(f-i-1)) (by omega) (by omega)];have g:gK i l f m=(l.drop (f-i-1).toNat).take m.toNat:=by unfold gK;rw[if_neg (by omega)]
  refine⟨fun q=> ?_,fun q=> ?_⟩
  ·rw[wrap64 (n:=f-i-1+m) (by omega) (by omega)];refine⟨by omega,⟨by omega,aW (au 320 (by omega)) e⟩,?_⟩;rw[g,List.drop_take];congr 1;omega
  ·refine⟨by omega,⟨by omega,aW (au 320 (by omega)) e⟩,?_⟩;rw[g,eB (by rw[aX];omega)]
def N4:jg Try.prog pre cz Rl:=aO afc Jh
def c53:bj Try.prog 53 s53 (pre 53) (cz 53):=by refine zO N4 Try.func53 (v:=adC) ?_;intro c h b;have a:=h;obtain⟨s,rfl⟩:=fW h;refine zH nV iz dK (y:=eU s) zK
def Tf:jg Try.prog pre cz YE:=aO c53 N4
def c35:bj Try.prog 35 s35 (pre 35) (cz 35):=by refine zO Tf Try.func35 (v:=adD) ?_;intro c h b;have a:=h;obtain⟨s,rfl⟩:=fW h;refine zH nV iz dK (y:=lE s) zK
def Tv:jg Try.prog pre cz YM:=aO c35 Tf
def aem(x:D)(s:RS):Prop:=
 (true=true->((s.msgs++([aJ 46 x [(1,D.int .i64 s.id),(3,D.int .i64 s.term)]] :Taf)):Taf).length<=maxLen∧((s.msgs++([aJ 46 x [(1,D.int .i64 s.id),(3,D.int .i64 s.term)]] :Taf)):Taf).length*536<=140737488355328)∧(
 True)
def P3(x:D)(s:RS)(a:dn (.V eR) (encS s))(h:Ok s 1):aem x s:=by refine⟨fun _=> ?_,trivial⟩;have:=h.nm;simp only[ah,aZ,maxLen];omega
def c64:bj Try.prog 64 s64 (pre 64) (cz 64):=by refine zO Tv Try.func64 (v:=adA) ?_;intro e h c;obtain⟨x,_,rfl,d,a⟩:=ag.1 h;have b:=a;obtain⟨s,rfl⟩:=fW a;refine zH nV iz dK (y:=ez x s) (zE (P3 x s b c))
def SW:jg Try.prog pre cz Us:=aO c64 Tv
def c41:bj Try.prog 41 s41 (pre 41) (cz 41):=by refine zO SW Try.func41 (v:=X9) ?_;intro g h f;obtain⟨_,_,rfl,⟨x,rfl,d⟩,b⟩:=ag.1 h;obtain⟨_,_,rfl,⟨y,rfl,c⟩,a⟩:=ag.1 b;have e:=a;obtain⟨s,rfl⟩:=fW a;refine zH nV iz dK (y:=gy x y s) zK
def Tq:jg Try.prog pre cz YK:=aO c41 SW
def c34:bj Try.prog 34 s34 (pre 34) (cz 34):=by refine zO Tq Try.func34 (v:=adE) ?_;intro c h b;have a:=h;obtain⟨s,rfl⟩:=fW h;refine zH PB Ei (.top,dK) (y:=cq s) zK
def Tw:jg Try.prog pre cz UC:=aO c34 Tq
def aew(x:D)(s:RS):Prop:=
 ((true=true->eV s.li s.lt s.le=true∧s.le.length<4294967296))∧(
 let xh:=Y3 s.li s.lt s.le s.term (aJ 27 x [])
 (((xh.1.2==0)=true->
  (True)∧(
  let a:=eU ({s with li:=xh.2.1,lt:=xh.2.2.1,le:=xh.2.2.2}:RS)
  (true=true->((a.dW++([aJ 29 xh.1.1 []] :Taf)):Taf).length<=maxLen∧((a.dW++([aJ 29 xh.1.1 []] :Taf)):Taf).length*320<=140737488355328)∧(
  True))))∧(True))
def Qd(x:D)(s:RS)(a:dn (.V eR) (encS s))(h:Ok s 1):aew x s:=by refine⟨fun _=>⟨h.may,by have:=h.qV;omega⟩,fun _=>⟨trivial,fun _=> ?_,trivial⟩,trivial⟩;have:=h.ne;simp only[eU,ah,aZ,maxLen];omega
def c39:bj Try.prog 39 s39 (pre 39) (cz 39):=by refine zO Tw Try.func39 (v:=Ya) ?_;intro e h c;obtain⟨x,_,rfl,d,a⟩:=ag.1 h;have b:=a;obtain⟨s,rfl⟩:=fW a;refine zH abF Je ((.top,0),dK) (y:=pw x s) (zE (Qd x s b c))
def Ts:jg Try.prog pre cz UA:=aO c39 Tw
def aez(x:Int)(s:RS):Prop:=
 (((x==0)=true->
  (True)∧(
  let a:=(gF s.li s.lt s.le)
  ((decide (s.wq<=a.1)=true->
   (True)∧(
   let c:=(fN (D.agg [D.list s.sv,D.list s.sl]))
   (true=true->((decide (0<=(bK (bP 0 s.Ba) (s.aY.length:Int))))&&((decide ((bK (bP 0 s.Ba) (s.aY.length:Int))<=(bK (i64.wrap ((bK (bP 0 s.Ba) (s.aY.length:Int))+256)) (s.aY.length:Int))))&&(decide ((bK (i64.wrap ((bK (bP 0 s.Ba) (s.aY.length:Int))+256)) (s.aY.length:Int))<=(s.aY.length:Int)))))=true)∧(
   (True)∧(
   let b:=(lL ((s.aY.take ((bK (i64.wrap ((bK (bP 0 s.Ba) (s.aY.length:Int))+256)) (s.aY.length:Int)):Int).toNat).drop ((bK (bP 0 s.Ba) (s.aY.length:Int)):Int).toNat))
   ((true=true->Ok ({s with Ba:=(bK (bP 0 s.Ba) (s.aY.length:Int))}:RS) 1))∧(
   True))))))∧((decide (s.wq<=a.1)=false->
   ((true=true->eV s.li s.lt s.le=true))∧(
   let e:=(ij s.li s.lt s.le (i64.wrap (s.wq-1)))
   ((true=true->okB s.li s.lt=true))∧(
   let d:=dP s.li s.lt s.le s.wq 8
   ((true=true->Ok s 1))∧(
   True))))))))∧(((x==0)=false->
  (((x==1)=true->
   (True)∧(
   let a:=(gF s.li s.lt s.le)
   ((decide (s.uM<=a.1)=true->
    (True)∧(
    let c:=(fN (D.agg [D.list s.sv,D.list s.sl]))
    (true=true->((decide (0<=(bK (bP 0 s.A9) (s.aY.length:Int))))&&((decide ((bK (bP 0 s.A9) (s.aY.length:Int))<=(bK (i64.wrap ((bK (bP 0 s.A9) (s.aY.length:Int))+256)) (s.aY.length:Int))))&&(decide ((bK (i64.wrap ((bK (bP 0 s.A9) (s.aY.length:Int))+256)) (s.aY.length:Int))<=(s.aY.length:Int)))))=true)∧(
    (True)∧(
    let b:=(lL ((s.aY.take ((bK (i64.wrap ((bK (bP 0 s.A9) (s.aY.length:Int))+256)) (s.aY.length:Int)):Int).toNat).drop ((bK (bP 0 s.A9) (s.aY.length:Int)):Int).toNat))
    ((true=true->Ok ({s with A9:=(bK (bP 0 s.A9) (s.aY.length:Int))}:RS) 1))∧(
    True))))))∧((decide (s.uM<=a.1)=false->
    ((true=true->eV s.li s.lt s.le=true))∧(
    let e:=(ij s.li s.lt s.le (i64.wrap (s.uM-1)))
    ((true=true->okB s.li s.lt=true))∧(
    let d:=dP s.li s.lt s.le s.uM 8
    ((true=true->Ok s 1))∧(
    True))))))))∧(((x==1)=false->
   (((x==2)=true->
    (True)∧(
    let a:=(gF s.li s.lt s.le)
    ((decide (s.uL<=a.1)=true->
     (True)∧(
     let c:=(fN (D.agg [D.list s.sv,D.list s.sl]))
     (true=true->((decide (0<=(bK (bP 0 s.A8) (s.aY.length:Int))))&&((decide ((bK (bP 0 s.A8) (s.aY.length:Int))<=(bK (i64.wrap ((bK (bP 0 s.A8) (s.aY.length:Int))+256)) (s.aY.length:Int))))&&(decide ((bK (i64.wrap ((bK (bP 0 s.A8) (s.aY.length:Int))+256)) (s.aY.length:Int))<=(s.aY.length:Int)))))=true)∧(
     (True)∧(
     let b:=(lL ((s.aY.take ((bK (i64.wrap ((bK (bP 0 s.A8) (s.aY.length:Int))+256)) (s.aY.length:Int)):Int).toNat).drop ((bK (bP 0 s.A8) (s.aY.length:Int)):Int).toNat))
     ((true=true->Ok ({s with A8:=(bK (bP 0 s.A8) (s.aY.length:Int))}:RS) 1))∧(
     True))))))∧((decide (s.uL<=a.1)=false->
     ((true=true->eV s.li s.lt s.le=true))∧(
     let e:=(ij s.li s.lt s.le (i64.wrap (s.uL-1)))
     ((true=true->okB s.li s.lt=true))∧(
     let d:=dP s.li s.lt s.le s.uL 8
     ((true=true->Ok s 1))∧(
     True))))))))∧(((x==2)=false->
    (((x==3)=true->
     (True)∧(
     let a:=(gF s.li s.lt s.le)
     ((decide (s.uK<=a.1)=true->
      (True)∧(
      let c:=(fN (D.agg [D.list s.sv,D.list s.sl]))
      (true=true->((decide (0<=(bK (bP 0 s.A4) (s.aY.length:Int))))&&((decide ((bK (bP 0 s.A4) (s.aY.length:Int))<=(bK (i64.wrap ((bK (bP 0 s.A4) (s.aY.length:Int))+256)) (s.aY.length:Int))))&&(decide ((bK (i64.wrap ((bK (bP 0 s.A4) (s.aY.length:Int))+256)) (s.aY.length:Int))<=(s.aY.length:Int)))))=true)∧(
      (True)∧(
      let b:=(lL ((s.aY.take ((bK (i64.wrap ((bK (bP 0 s.A4) (s.aY.length:Int))+256)) (s.aY.length:Int)):Int).toNat).drop ((bK (bP 0 s.A4) (s.aY.length:Int)):Int).toNat))
      ((true=true->Ok ({s with A4:=(bK (bP 0 s.A4) (s.aY.length:Int))}:RS) 1))∧(
      True))))))∧((decide (s.uK<=a.1)=false->
      ((true=true->eV s.li s.lt s.le=true))∧(
      let e:=(ij s.li s.lt s.le (i64.wrap (s.uK-1)))
      ((true=true->okB s.li s.lt=true))∧(
      let d:=dP s.li s.lt s.le s.uK 8
      ((true=true->Ok s 1))∧(
      True))))))))∧(((x==3)=false->
     (((x==4)=true->
      (True)∧(
      let a:=(gF s.li s.lt s.le)
      ((decide (s.uJ<=a.1)=true->
       (True)∧(
       let c:=(fN (D.agg [D.list s.sv,D.list s.sl]))
       (true=true->((decide (0<=(bK (bP 0 s.A0) (s.aY.length:Int))))&&((decide ((bK (bP 0 s.A0) (s.aY.length:Int))<=(bK (i64.wrap ((bK (bP 0 s.A0) (s.aY.length:Int))+256)) (s.aY.length:Int))))&&(decide ((bK (i64.wrap ((bK (bP 0 s.A0) (s.aY.length:Int))+256)) (s.aY.length:Int))<=(s.aY.length:Int)))))=true)∧(
       (True)∧(
       let b:=(lL ((s.aY.take ((bK (i64.wrap ((bK (bP 0 s.A0) (s.aY.length:Int))+256)) (s.aY.length:Int)):Int).toNat).drop ((bK (bP 0 s.A0) (s.aY.length:Int)):Int).toNat))
       ((true=true->Ok ({s with A0:=(bK (bP 0 s.A0) (s.aY.length:Int))}:RS) 1))∧(
       True))))))∧((decide (s.uJ<=a.1)=false->
       ((true=true->eV s.li s.lt s.le=true))∧(
       let e:=(ij s.li s.lt s.le (i64.wrap (s.uJ-1)))
       ((true=true->okB s.li s.lt=true))∧(
       let d:=dP s.li s.lt s.le s.uJ 8
       ((true=true->Ok s 1))∧(
       True))))))))∧(((x==4)=false->
      (((x==5)=true->
       (True)∧(
       let a:=(gF s.li s.lt s.le)
       ((decide (s.uI<=a.1)=true->
        (True)∧(
        let c:=(fN (D.agg [D.list s.sv,D.list s.sl]))
        (true=true->((decide (0<=(bK (bP 0 s.AZ) (s.aY.length:Int))))&&((decide ((bK (bP 0 s.AZ) (s.aY.length:Int))<=(bK (i64.wrap ((bK (bP 0 s.AZ) (s.aY.length:Int))+256)) (s.aY.length:Int))))&&(decide ((bK (i64.wrap ((bK (bP 0 s.AZ) (s.aY.length:Int))+256)) (s.aY.length:Int))<=(s.aY.length:Int)))))=true)∧(
        (True)∧(
        let b:=(lL ((s.aY.take ((bK (i64.wrap ((bK (bP 0 s.AZ) (s.aY.length:Int))+256)) (s.aY.length:Int)):Int).toNat).drop ((bK (bP 0 s.AZ) (s.aY.length:Int)):Int).toNat))
        ((true=true->Ok ({s with AZ:=(bK (bP 0 s.AZ) (s.aY.length:Int))}:RS) 1))∧(
        True))))))∧((decide (s.uI<=a.1)=false->
        ((true=true->eV s.li s.lt s.le=true))∧(
        let e:=(ij s.li s.lt s.le (i64.wrap (s.uI-1)))
        ((true=true->okB s.li s.lt=true))∧(
        let d:=dP s.li s.lt s.le s.uI 8
        ((true=true->Ok s 1))∧(
        True))))))))∧(((x==5)=false->
       False))))))))))))
def Qg(x:Int)(s:RS)(c:jo .i64 x)(a:dn (.V eR) (encS s))(h:Ok s 1∧0<=x∧x<=5):aez x s:=by
 have b:=Kr a;obtain⟨h,e,d⟩:=h
 (repeat' (first|exact trivial|apply And.intro|intro _))
 all_goals first
  |exact Ou _ _ b
  |exact h.may
  |exact h.LW
  |exact h
  |exact h.same fH
  |(simp only[beq_eq_false_iff_ne,ne_eq]at*;omega)
def c33:bj Try.prog 33 s33 (pre 33) (cz 33):=by refine hP (given:=[(0,{drop:=[4006001]})]) mix Ts Try.func33 rfl (by kernel_rfl) (v:=Yd) (by kernel_rfl) ?_;intro e h d;obtain⟨_,_,rfl,⟨x,rfl,b⟩,a⟩:=ag.1 h;have c:=a;obtain⟨s,rfl⟩:=fW a;refine zH nV iz dK (y:=eL x s) (zE (Qg x s b c d))
def Tx:jg Try.prog pre cz YN:=aO c33 Ts
def c84:bj Try.prog 84 D1 (pre 84) (cz 84):=by refine zF Tx Try.func84 (v:=adx) ?_;intro c h b;obtain⟨x,_,rfl,a,rfl⟩:=h;refine zH D.Y D.bool false (y:=ru x) zK
def SA:jg Try.prog pre cz Ym:=aO c84 Tx
def abM:bj Try.prog 80 Rs (pre 80) (cz 80):=by
 refine zF SA Try.func80 (v:=Ns) ?_;intro w h t;obtain⟨_,_,rfl,⟨l,rfl,e,u⟩,_,_,rfl,⟨_,rfl,rfl⟩,rfl⟩:=h;have i:=e.1;simp only[maxLen]at i;have s:cz 80 [.list l,.fn 84 []] = .int .i64 (findF (wA (.fn 84 [])) l 0):=rfl;rw[s];have r: ∀x,cz 84 [x] = .bool (wA (.fn 84 []) x):=fun _=>rfl;simp[Ns,fi,eh,dY,cH,dZ,dy,fh,fm,fj,fZ,den,U.den,B.den,fD,aU,cV,eu,ep,er,fE,bT,cQ,pre,r];obtain⟨J,c⟩: ∃J:Taf->Prop,∀d,J d↔ ∃n:Nat,∃y:Int,d=[.int .i64 y,.int .i64 n] ∧n<=l.length∧findF (wA (.fn 84 [])) (l.drop n) n=findF (wA (.fn 84 [])) l 0:=⟨_,fun _=>dx⟩;obtain⟨M,f⟩: ∃M:Taf->Nat,∀d,M d=l.length-((d.getD 1 .top).q).toNat:=⟨_,fun _=>rfl⟩;refine kZ.intro J M ((c _).2 ⟨0,0,rfl,aC _,by simp⟩) ?_;intro d g m;obtain⟨n,y,rfl,p,a⟩:=(c _).1 m;clear m g;simp[fi,eh,dY,cH,dZ,dy,fh,fm,fj,fZ,den,U.den,B.den,fD,aU,cV,eu,ep,er,fE,bT,cQ];refine⟨fun b=> ?_,fun j=> ?_⟩
 ·have o:l[n]? =some l[n] :=aQ b;have q:l.drop n=l[n] ::l.drop (n+1):=cT b;rw[q]at a;simp only[findF]at a;rw[o,br];refine⟨by omega,fun k=> ?_,fun k=> ?_⟩
  ·rw[if_pos k]at a;exact a
  ·rw[wrap64 (by omega) (by omega)];refine⟨(c _).2 ⟨n+1,y,by simp,b,?_⟩,?_⟩
   ·rw[if_neg (by rw[k];simp)]at a;rw[<-a];simp
   ·rw[f,f];simp[bT];omega
 ·have:l.drop n=[] :=bO j;rw[this]at a;exact a
def JL:jg Try.prog pre cz Ny:=aO abM SA
def abN:bj Try.prog 59 Rt (pre 59) (cz 59):=by refine zF JL Try.func59 (v:=Nv) ?_;intro f h d;obtain⟨_,_,rfl,⟨l,rfl,a,e⟩,_,_,rfl,⟨_,rfl,rfl⟩,rfl⟩:=h;have b:cz 59 [.list l,.fn 84 []] = .bool (mC l (.fn 84 [])):=rfl;have c:cz 80 [.list l,.fn 84 []] = .int .i64 (findF (wA (.fn 84 [])) l 0):=rfl;rw[b];simp[Nv,fi,eh,dY,cH,dZ,dy,fh,fm,fj,fZ,den,U.den,B.den,fD,aU,cV,eu,ep,er,fE,bT,cQ,pre,c];rw[du,bk];exact(xa _ l 0 (ba 0)).symm
def JN:jg Try.prog pre cz Gt:=aO abN JL
def aei(x:Int)(s:RS):Prop:=
 (True)∧((decide (x<=s.bF)=false->
  ((true=true->okB s.li s.lt=true))∧(
  let a:=dP s.li s.lt s.le (i64.wrap (s.bF+1)) (i64.wrap (x-s.bF))
  (true=true->((s.bZ++a):Taf).length<=maxLen∧((s.bZ++a):Taf).length*320<=140737488355328)∧(
  True))))
def PZ(x:Int)(s:RS)(a:jo .i64 x)(b:dn (.V eR) (encS s))(h:Ok s 1):aei x s:=by have c:=sY (i:=s.li) (f:=i64.wrap (s.bF+1)) (m:=i64.wrap (x-s.bF)) (l:=s.le);have e:=h.nc;have d:=h.qV;refine⟨trivial,fun _=>⟨fun _=>h.LW,fun _=> ?_,trivial⟩⟩;show(s.bZ++gK _ _ _ _).length<=maxLen∧(s.bZ++gK _ _ _ _).length*320<=_;rw[ah];simp only[maxLen];omega
def c73:bj Try.prog 73 s73 (pre 73) (cz 73):=by refine zO JN Try.func73 (v:=XM) ?_;intro e h d;obtain⟨_,_,rfl,⟨x,rfl,b⟩,a⟩:=ag.1 h;have c:=a;obtain⟨s,rfl⟩:=fW a;refine zH Sz Jf (false,dK) (y:=iW x s) (zE (PZ x s b c d))
def SK:jg Try.prog pre cz Uo:=aO c73 JN
def aev(s:RS):Prop:=
 ((true=true->eV s.li s.lt s.le=true))∧(
 let a:=(gf s.li s.lt s.le)
 VC.Ea cz pre iz (fun _ _ l=>pF s a (l.getD 0 .top).A (l.getD 1 .top).q) [] (VC.lp 69 Uh) (fD (fun i=>([] ++encS s).getD i .top) 58 (D.eS [D.int .i64 a.1,D.int .i64 a.2])))
def abg(s:RS)(g:Int×Int)(b:Taf)(a:Int):Prop:=
 ((decide (a<((([D.int .i64 0,D.int .i64 0,D.int .i64 0,D.int .i64 0,D.int .i64 0] :Taf):Taf).length:Int))=true->
  (((a==0)=true->
   (true=true->((decide (0<=0))&&(decide (0<((b:Taf).length:Int))))=true)∧(
   True)))∧(((a==0)=false->
   (((a==1)=true->
    (true=true->((decide (0<=1))&&(decide (1<((b:Taf).length:Int))))=true)∧(
    True)))∧(((a==1)=false->
    (((a==2)=true->
     (true=true->((decide (0<=2))&&(decide (2<((b:Taf).length:Int))))=true)∧(
     True)))∧(((a==2)=false->
     (((a==3)=true->
      (true=true->((decide (0<=3))&&(decide (3<((b:Taf).length:Int))))=true)∧(
      True)))∧(((a==3)=false->
      (((a==4)=true->
       (true=true->((decide (0<=4))&&(decide (4<((b:Taf).length:Int))))=true)∧(
       True)))∧(((a==4)=false->
       False))))))))))))∧((decide (a<((([D.int .i64 0,D.int .i64 0,D.int .i64 0,D.int .i64 0,D.int .i64 0] :Taf):Taf).length:Int))=false->
  (true=true->((decide (0<=(i64.wrap (s.id-1))))&&(decide ((i64.wrap (s.id-1))<((b:Taf).length:Int))))=true)∧(
  ((true=true->Ok s 0))∧(
  let f:=(eZ s)
  (True)∧(
  let d:=(sw (aJ 2 f []) (D.list ((b.take ((i64.wrap (s.id-1)):Int).toNat)++(D.int .i64 g.1::((b.drop ((i64.wrap (s.id-1)):Int).toNat).drop (1:Int).toNat)))))
  ((true=true->eV s.li s.lt s.le=true))∧(
  let e:=(ij s.li s.lt s.le d)
  (True)∧(((((decide (d<=s.bF))||(e.2 !=0))||(e.1 !=s.term))=false->
   ((true=true->Ok s 1))∧(
   let c:=iW d s
   ((((c.1==true)&&true)=true->Ok c.2 0))∧(
   True))))))))))
def wT(s:RS)(k:Int×Int)(a:Taf)(b:Int):(Taf×Int)⊕(RS):=
 if decide (b<((([D.int .i64 0,D.int .i64 0,D.int .i64 0,D.int .i64 0,D.int .i64 0] :Taf):Taf).length:Int)) then(
  if(b==0) then(
   .inl (((a.take (0:Int).toNat)++(D.int .i64 s.D9::((a.drop (0:Int).toNat).drop (1:Int).toNat))),(i64.wrap (b+1))))
  else(
   if(b==1) then(
    .inl (((a.take (1:Int).toNat)++(D.int .i64 s.D8::((a.drop (1:Int).toNat).drop (1:Int).toNat))),(i64.wrap (b+1))))
   else(
    if(b==2) then(
     .inl (((a.take (2:Int).toNat)++(D.int .i64 s.D7::((a.drop (2:Int).toNat).drop (1:Int).toNat))),(i64.wrap (b+1))))
    else(
     if(b==3) then(
      .inl (((a.take (3:Int).toNat)++(D.int .i64 s.D6::((a.drop (3:Int).toNat).drop (1:Int).toNat))),(i64.wrap (b+1))))
     else(
      if(b==4) then(
       .inl (((a.take (4:Int).toNat)++(D.int .i64 s.D5::((a.drop (4:Int).toNat).drop (1:Int).toNat))),(i64.wrap (b+1))))
      else(
       .inr dK))))))
 else(
  let j:=(eZ s);let d:=(sw (aJ 2 j []) (D.list ((a.take ((i64.wrap (s.id-1)):Int).toNat)++(D.int .i64 k.1::((a.drop ((i64.wrap (s.id-1)):Int).toNat).drop (1:Int).toNat)))));let e:=(ij s.li s.lt s.le d)
  if(((decide (d<=s.bF))||(e.2 !=0))||(e.1 !=s.term)) then(
   .inr (s))
  else(
   let c:=iW d s;let g:=(eZ c.2);let f:=(lK (aJ 2 g []) c.2.id)
   if(c.1&&(!f)) then(
    let i:=gy c.2.term 0 c.2;let h:=lE i
    .inr (h))
   else(
    .inr (c.2))))
def DB(s:RS)(a:Int×Int)(b:Taf)(j69:Int):wT s a b j69=lM s a b j69:=by
 unfold wT lM nb;dsimp only
 repeat (first|rfl|split)
def Qc(s:RS)(B:dn (.V eR) (encS s))(h:Ok s 1):aev s:=by
 refine⟨fun _=>h.may,?_⟩;intro c
 clear_value c
 refine VC.jn 69 (by kernel_rfl) ?_;refine VC.ia (Φ:=cz) (Pre:=pre) (triv:=triv) (v0:=69) (decL:=fun l=>((l.getD 0 .top).A,(l.getD 1 .top).q)) (encL:=fun a:Taf×Int=>([D.list a.1,D.int .i64 a.2])) (dec:=nV) (enc:=iz) (lp:=fun _ _ _ _=>dK) (bad:=.inr dK) (bd:=dK) (by kernel_rfl) (fun a:Taf×Int=>lM s c a.1 a.2) (fun a:Taf×Int=>a.1.length=5∧0<=a.2∧a.2<=5) (fun a:Taf×Int=>lO s c a.1 a.2) ([D.int .i64 0,D.int .i64 0,D.int .i64 0,D.int .i64 0,D.int .i64 0],0) kA (by kernel_rfl) ?Q6 (fun a=>rfl) ?Q9 (by kernel_rfl) (fun a k=>Eq.trans (b:=wT s c a.1 a.2) (by kernel_rfl) (DB s c a.1 a.2)) (fun a=>by kernel_rfl) (fun a=>by kernel_rfl) (fun a k r=>zE (β:=abg s c a.1 a.2) ?Ef) (by kernel_rfl)
 ·exact⟨rfl,by decide,by decide⟩
 ·rintro⟨l,j⟩ ⟨d,g,f⟩;simp only at d g f;unfold lM;dsimp only;have u:j=0∨j=1∨j=2∨j=3∨j=4∨j=5:=by omega
  have e: ∀(x:D) (n:Int),n.toNat<5->(l.take n.toNat++(x::(l.drop n.toNat).drop (1:Int).toNat)).length=5:=by intro x n C;simp only[ah,aK,bu,aX,d];omega
  rcases u with rfl|rfl|rfl|rfl|rfl|rfl
  ·rw[if_pos (by rfl),if_pos (by rfl)];refine⟨⟨e _ 0 (by decide),?_,?_⟩,?_⟩<;>first|(dsimp only;decide)|(unfold lO;dsimp only;decide)
  ·rw[if_pos (by rfl),if_neg (by simp),if_pos (by rfl)];refine⟨⟨e _ 1 (by decide),?_,?_⟩,?_⟩<;>first|(dsimp only;decide)|(unfold lO;dsimp only;decide)
  ·rw[if_pos (by rfl),if_neg (by simp),if_neg (by simp),if_pos (by rfl)];refine⟨⟨e _ 2 (by decide),?_,?_⟩,?_⟩<;>first|(dsimp only;decide)|(unfold lO;dsimp only;decide)
  ·rw[if_pos (by rfl),if_neg (by simp),if_neg (by simp),if_neg (by simp),if_pos (by rfl)];refine⟨⟨e _ 3 (by decide),?_,?_⟩,?_⟩<;>first|(dsimp only;decide)|(unfold lO;dsimp only;decide)
  ·rw[if_pos (by rfl),if_neg (by simp),if_neg (by simp),if_neg (by simp),if_neg (by simp),if_pos (by rfl)];refine⟨⟨e _ 4 (by decide),?_,?_⟩,?_⟩<;>first|(dsimp only;decide)|(unfold lO;dsimp only;decide)
  ·rw[if_neg (by simp)];trivial
 ·obtain⟨l,j⟩:=a;obtain⟨d,g,f⟩:=k;simp only at d g f
  have v: ∀n:Int,0<=n->n<5->(decide (0<=n)&&decide (n<((l:Taf).length:Int)))=true:=by intro n y w;rw[d,aS,bk,bk];exact⟨y,w⟩
  have A:=h.xV;have z:=h.xU;have q:IntKind.wrap .i64 (s.id-1)=s.id-1:=wrap64 (by omega) (by omega);refine⟨fun t=> ?_,fun _=>⟨fun _=> ?_,fun _=>h.le (by omega),?_⟩⟩
  ·(repeat' (first|exact trivial|apply And.intro|intro _))
   all_goals first
    |(rw[d];rfl)
    |(simp only[beq_eq_false_iff_ne,ne_eq,bk,bu,fO]at*;omega)
  ·show(decide (0<=IntKind.wrap .i64 (s.id-1))&&decide (IntKind.wrap .i64 (s.id-1)<_))=true;rw[q];exact v _ (by omega) (by omega)
  ·intro p;refine⟨trivial,?_⟩;intro o;refine⟨fun _=>h.may,?_⟩;intro m;refine⟨trivial,fun _=>⟨fun _=>h,?_⟩⟩;intro i;exact⟨fun _=>h.bZ,trivial⟩
def c40:bj Try.prog 40 s40 (pre 40) (cz 40):=by refine hP (given:=[(1000000,{drop:=[18]}),(3,{own:=[(4,3)]}),(5,{drop:=[4005005]})]) mix SK Try.func40 rfl (by kernel_rfl) (v:=Uh) (by kernel_rfl) ?_;intro d h c;have b:=h;obtain⟨s,rfl⟩:=fW h;refine zL nV iz dK (fun _ _ l=>(let a:=(gf s.li s.lt s.le);pF s a (l.getD 0 .top).A (l.getD 1 .top).q)) (y:=gR s) (zE (Qc s b c))
def Tr:jg Try.prog pre cz Uz:=aO c40 SK
def ael(s:RS):Prop:=
 ((true=true->eV s.li s.lt s.le=true))∧(
 let a:=(gf s.li s.lt s.le)
 VC.Ea cz pre iz (fun _ _ l=>rE a (l.getD 0 .top).q (qS (l.drop 1))) [] (VC.lp 89 Pu) (fD (fun i=>([] ++encS s).getD i .top) 58 (D.eS [D.int .i64 a.1,D.int .i64 a.2])))
def abe(s:RS)(f:Int×Int)(a:Int)(e:RS):Prop:=
 ((decide (a<6)=true->
  (True)∧(((a==0)=false->
   (True)∧(((a==1)=false->
    (True)∧(((a==2)=false->
     (True)∧(((a==3)=false->
      (True)∧(((a==4)=false->
       (True)∧(((a==5)=false->
        False))))))))))))))∧((decide (a<6)=false->
  ((true=true->Ok e 1))∧(
  let b:=pw (aJ 27 L4 [(0,D.int .i64 1)]) e
  ((true=true->Ok b.2 0))∧(
  let c:=(eZ b.2)
  ((true=true->Ok b.2 0∧fB (aJ 2 c [])=true))∧(
  let d:=(gN (aJ 2 c []) b.2)
  VC.U3 cz pre iz (fun _ _ l=>wS d (l.getD 0 .top).q (qS (l.drop 1))) [] (VC.lp 153 Pu) (fD (fD (fD (fZ (fD (fun i=>([] ++encS s).getD i .top) 58 (D.eS [D.int .i64 f.1,D.int .i64 f.2])) 89 ([D.int .i64 a] ++Gf e)) 146 (Je b)) 149 (c)) 150 (D.list d)))))))
def abd(b:Taf)(a:Int)(c:RS):Prop:=
 ((decide (a<((b:Taf).length:Int))=true->
  (true=true->((decide (0<=a))&&(decide (a<((b:Taf).length:Int))))=true)∧(
  ((true=true->Ok c 1∧(0:Int)<=((((b).getD (a:Int).toNat .top)).q)∧(((((b).getD (a:Int).toNat .top)).q):Int)<=5))∧(
  True))))∧((decide (a<((b:Taf).length:Int))=false->
  ((true=true->Ok c 1))∧(
  True)))
def P2(s:RS)(M:dn (.V eR) (encS s))(h:Ok s 13):ael s:=by
 refine⟨fun _=>h.may,?_⟩;intro n
 clear_value n
 refine VC.jn 89 (by kernel_rfl) ?_;refine VC.ia (Φ:=cz) (Pre:=pre) (triv:=triv) (v0:=89) (decL:=fun l=>((l.getD 0 .top).q,qS (l.drop 1))) (encL:=fun a:Int×RS=>([D.int .i64 a.1] ++Gf a.2)) (dec:=nV) (enc:=iz) (lp:=fun a _ _ l=>(let F:=a.1;let x:=a.2;let d:=pw (aJ 27 L4 [(0,D.int .i64 1)]) x;let f:=(eZ d.2);let b:=(gN (aJ 2 f []) d.2);wS b (l.getD 0 .top).q (qS (l.drop 1)))) (bad:=.inr dK) (bd:=dK) (by kernel_rfl) (fun a:Int×RS=>rD n a.1 a.2) (fun a:Int×RS=>0<=a.1∧a.1<=6∧Ok a.2 13) (fun a:Int×RS=>mA n a.1 a.2) (0,{s with role:=2,bM:=s.id,wait:=0,round:=0,reads:=[]}) kA (by kernel_rfl) ?Q6 (fun a=>rfl) ?Q9 (by kernel_rfl) (fun a u=>by kernel_rfl) (fun a=>by kernel_rfl) (fun a=>by kernel_rfl) (fun a u z=>zE (β:=abe s n a.1 a.2) ?Ef) (by kernel_rfl)
 ·exact⟨ba 0,by show(0:Int)<=6;decide,⟨h.may,h.xV,h.xU,h.qV,h.nm,h.ne,h.nc,h.nv,h.cf,h.cs,h.cl,h.tm,h.tx,rfl⟩⟩
 ·rintro⟨j,t⟩ ⟨w,A,m⟩;simp only at w A m;unfold rD;dsimp only;have K:j=0∨j=1∨j=2∨j=3∨j=4∨j=5∨j=6:=by omega
  rcases K with rfl|rfl|rfl|rfl|rfl|rfl|rfl
  ·rw[if_pos (by rfl),if_pos (by rfl)];refine⟨⟨?_,?_,m.same fH⟩,?_⟩<;>first|(dsimp only;decide)|(unfold mA;dsimp only;decide)
  ·rw[if_pos (by rfl),if_neg (by simp),if_pos (by rfl)];refine⟨⟨?_,?_,m.same fH⟩,?_⟩<;>first|(dsimp only;decide)|(unfold mA;dsimp only;decide)
  ·rw[if_pos (by rfl),if_neg (by simp),if_neg (by simp),if_pos (by rfl)];refine⟨⟨?_,?_,m.same fH⟩,?_⟩<;>first|(dsimp only;decide)|(unfold mA;dsimp only;decide)
  ·rw[if_pos (by rfl),if_neg (by simp),if_neg (by simp),if_neg (by simp),if_pos (by rfl)];refine⟨⟨?_,?_,m.same fH⟩,?_⟩<;>first|(dsimp only;decide)|(unfold mA;dsimp only;decide)
  ·rw[if_pos (by rfl),if_neg (by simp),if_neg (by simp),if_neg (by simp),if_neg (by simp),if_pos (by rfl)];refine⟨⟨?_,?_,m.same fH⟩,?_⟩<;>first|(dsimp only;decide)|(unfold mA;dsimp only;decide)
  ·rw[if_pos (by rfl),if_neg (by simp),if_neg (by simp),if_neg (by simp),if_neg (by simp),if_neg (by simp),if_pos (by rfl)];refine⟨⟨?_,?_,m.same fH⟩,?_⟩<;>first|(dsimp only;decide)|(unfold mA;dsimp only;decide)
  ·rw[if_neg (by simp)];trivial
 ·obtain⟨j,t⟩:=a;obtain⟨w,A,m⟩:=u;simp only at w A m;refine⟨fun e=> ?_,fun _=>⟨fun _=>m.le (by omega),?_⟩⟩
  ·(repeat' (first|exact trivial|apply And.intro|intro _))
   all_goals (simp only[beq_eq_false_iff_ne,ne_eq,bk]at*;omega)
  ·intro d;have v:Ok d.2 12:=m.put (k:=12) (by intro I;exact absurd I (by decide))
   clear_value d
   refine⟨fun _=>v.le (by omega),?_⟩;intro f;have o:fB (aJ 2 f [])=true:=iY v
   clear_value f
   refine⟨fun _=>⟨v.le (by omega),o⟩,?_⟩;intro b;have g:=iL (c:=aJ 2 f []) (s:=d.2) o;change b.length<=10∧ ∀y∈b,1<=y.q∧y.q<=5 at g
   clear_value b
   obtain⟨N,H⟩:=g
   have E: ∀i:Int,0<=i->i<b.length->1<=(b.getD i.toNat .top).q∧(b.getD i.toNat .top).q<=5:=by
    intro i w p;have r:i.toNat<b.length:=by omega
    rw[aj,aQ r];exact H _ (aF r)
   intro J;refine VC.jn 153 (by kernel_rfl) ?_;refine VC.ia (Φ:=cz) (Pre:=pre) (triv:=triv) (v0:=153) (decL:=fun l=>((l.getD 0 .top).q,qS (l.drop 1))) (encL:=fun a:Int×RS=>([D.int .i64 a.1] ++Gf a.2)) (dec:=nV) (enc:=iz) (lp:=fun _ _ _ _=>dK) (bad:=.inr dK) (bd:=dK) (by kernel_rfl) (fun a:Int×RS=>wR b a.1 a.2) (fun a:Int×RS=>0<=a.1∧a.1<=b.length∧Ok a.2 (1+(10-a.1.toNat))) (fun a:Int×RS=>BX b a.1 a.2) (0,d.2) kA (by kernel_rfl) ?i0c (fun a=>rfl) ?hsc (by kernel_rfl) (fun a u=>by kernel_rfl) (fun a=>by kernel_rfl) (fun a=>by kernel_rfl) (fun a u z=>zE (β:=abd b a.1 a.2) ?ahu) (by kernel_rfl)
   ·exact⟨ba 0,ew _,v.le (by show 1+(10-0)<=_;omega)⟩
   ·rintro⟨i,t⟩ ⟨p,B,q⟩;simp only at p B q;unfold wR;by_cases e:decide (i<(b.length:Int))=true
    ·rw[if_pos e];rw[bk]at e;have G:IntKind.wrap .i64 (i+1)=i+1:=wrap64 (by omega) (by omega);dsimp only;rw[G];obtain⟨L,C⟩:=E i p e;refine⟨⟨by show 0<=i+1;omega,by show i+1<=_;omega,?_⟩,by show b.length-(i+1).toNat<b.length-i.toNat;omega⟩;exact cJ.pQ (q.le (by show 1+(10-(i+1).toNat)+1<=_;omega)) (by omega) C
    ·rw[if_neg e];trivial
   ·obtain⟨i,t⟩:=a;obtain⟨p,B,q⟩:=u;simp only at p B q;refine⟨fun e=> ?_,fun _=>⟨fun _=>q.le (by omega),trivial⟩⟩;rw[bk]at e;obtain⟨L,C⟩:=E i p e;refine⟨fun _=> ?_,fun _=>⟨q.le (by omega),by show 0<=(b.getD i.toNat .top).q;omega,C⟩,trivial⟩;rw[aS,bk,bk];exact⟨p,e⟩
def c67:bj Try.prog 67 kj (pre 67) (cz 67):=by refine hP (given:=[(3,{boxes:=ya}),(9,{boxes:=ya}),(5,{drop:=[4006004]})]) mix Tr Try.func67 rfl (by kernel_rfl) (v:=Pu) (by kernel_rfl) ?_;intro d h c;have b:=h;obtain⟨s,rfl⟩:=fW h;refine zL nV iz dK (fun _ _ l=>(let a:=(gf s.li s.lt s.le);rE a (l.getD 0 .top).q (qS (l.drop 1)))) (y:=xk s) (zE (P2 s b c))
def SQ:jg Try.prog pre cz Uq:=aO c67 Tr
def aey(x:D)(s:RS):Prop:=
 (True)∧(
 let qE:=eU ({s with term:=(i64.wrap (s.term+1)),vote:=s.id}:RS)
 (True)∧(
 let c:=(lR (aJ 2 x []) (D.list ([D.int .i64 qE.id] :Taf)))
 ((c=true->
  ((true=true->Ok ({qE with role:=1,bM:=0,bc:=([D.int .i64 qE.id] :Taf)}:RS) 13))∧(
  True)))∧((c=false->
  ((true=true->eV qE.li qE.lt qE.le=true))∧(
  let a:=(gf qE.li qE.lt qE.le)
  ((true=true->Ok ({qE with role:=1,bM:=0,bc:=([D.int .i64 qE.id] :Taf)}:RS) 0∧fB (aJ 2 x [])=true))∧(
  let b:=(gN (aJ 2 x []) ({qE with role:=1,bM:=0,bc:=([D.int .i64 qE.id] :Taf)}:RS))
  VC.Ea cz pre iz (fun _ _ l=>lU x a b (l.getD 0 .top).q (qS (l.drop 1))) [] (VC.lp 113 Ui) (fD (fD (fD (fD (fun i=>([x] ++encS s).getD i .top) 74 (iz qE)) 97 (D.bool c)) 102 (D.eS [D.int .i64 a.1,D.int .i64 a.2])) 110 (D.list b))))))))
def abh(x:D)(e:Int×Int)(b:Taf)(a:Int)(d:RS):Prop:=
 ((decide (a<((b:Taf).length:Int))=true->
  (true=true->((decide (0<=a))&&(decide (a<((b:Taf).length:Int))))=true)∧(
  (True)∧(
  let c:=(lK (aJ 2 x []) ((((b).getD (a:Int).toNat .top)).q))
  ((c=true->
   ((true=true->Ok d 1))∧(
   True)))∧(True)))))∧(True)
def Qf(x:D)(s:RS)(u:dn (.V eR) (encS s))(h:Ok s 14∧fB x=true∧s.term<MX):aey x s:=by
 obtain⟨h,n,r⟩:=h;have m:=h.Gv r;refine⟨trivial,trivial,fun _=>⟨fun _=>m.le (by omega),trivial⟩,fun _=>⟨fun _=>h.may,?_⟩⟩;intro d;refine⟨fun _=>⟨m.le (by omega),n⟩,?_⟩;intro b;have j:b.length<=10:=(iL (c:=aJ 2 x []) n).1
 clear_value d b
 refine VC.jn 113 (by kernel_rfl) ?_;refine VC.ia (Φ:=cz) (Pre:=pre) (triv:=triv) (v0:=113) (decL:=fun l=>((l.getD 0 .top).q,qS (l.drop 1))) (encL:=fun a:Int×RS=>([D.int .i64 a.1] ++Gf a.2)) (dec:=nV) (enc:=iz) (lp:=fun _ _ _ _=>dK) (bad:=.inr dK) (bd:=dK) (by kernel_rfl) (fun a:Int×RS=>nM x d b a.1 a.2) (fun a:Int×RS=>0<=a.1∧a.1<=b.length∧Ok a.2 (1+(10-a.1.toNat))) (fun a:Int×RS=>Ar x d b a.1 a.2) (0,{eU ({s with term:=i64.wrap (s.term+1),vote:=s.id}:RS) with role:=1,bM:=0,bc:=[.int .i64 s.id]}) kA (by kernel_rfl) ?Q6 (fun a=>rfl) ?Q9 (by kernel_rfl) (fun a o=>by kernel_rfl) (fun a=>by kernel_rfl) (fun a=>by kernel_rfl) (fun a o q=>zE (β:=abh x d b a.1 a.2) ?Ef) (by kernel_rfl)
 ·exact⟨ba 0,ew _,m.le (by show 1+(10-0)<=_;omega)⟩
 ·rintro⟨i,t⟩ ⟨g,k,f⟩;simp only at g k f;unfold nM;by_cases e:decide (i<(b.length:Int))=true
  ·rw[if_pos e];rw[bk]at e;have p:IntKind.wrap .i64 (i+1)=i+1:=wrap64 (by omega) (by omega);dsimp only;rw[p];generalize lK (aJ 2 x []) ((b.getD i.toNat .top).q)=c;cases c with
   |true=>
    refine⟨⟨by show 0<=i+1;omega,by show i+1<=_;omega,?_⟩,by show b.length-(i+1).toNat<b.length-i.toNat;omega⟩;exact cJ.send (f.le (by show 1+(10-(i+1).toNat)+1<=_;omega))
   |false=>exact⟨⟨by show 0<=i+1;omega,by show i+1<=_;omega,f.le (by show 1+(10-(i+1).toNat)<=_;omega)⟩,by show b.length-(i+1).toNat<b.length-i.toNat;omega⟩
  ·rw[if_neg e];trivial
 ·obtain⟨i,t⟩:=a;obtain⟨g,k,f⟩:=o;simp only at g k f;refine⟨fun e=>⟨fun _=> ?_,trivial,fun _=>⟨fun _=>f.le (by omega),trivial⟩,trivial⟩,trivial⟩;rw[bk]at e;rw[aS,bk,bk];exact⟨g,e⟩
def c37:bj Try.prog 37 s37 (pre 37) (cz 37):=by refine hP (given:=[(8,{boxes:=ya})]) mix SQ Try.func37 rfl (by kernel_rfl) (v:=Ui) (by kernel_rfl) ?_;intro i h f;obtain⟨x,_,rfl,g,c⟩:=ag.1 h;have e:=c;obtain⟨s,rfl⟩:=fW c;refine zL nV iz dK (fun _ _ l=>(let qE:=eU ({s with term:=(i64.wrap (s.term+1)),vote:=s.id}:RS);let d:=(lR (aJ 2 x []) (D.list ([D.int .i64 qE.id] :Taf)));let b:=(gf qE.li qE.lt qE.le);let a:=(gN (aJ 2 x []) ({qE with role:=1,bM:=0,bc:=([D.int .i64 qE.id] :Taf)}:RS));lU x b a (l.getD 0 .top).q (qS (l.drop 1)))) (y:=nG x s) (zE (Qf x s e f))
def Tt:jg Try.prog pre cz UB:=aO c37 SQ
end Go.Proofs.Ytjhmkaninmgilaa
