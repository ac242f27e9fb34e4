/- Part 8 of the proof of RaftOut; no condition. -/
import Derived.Test.YtjhmkaninmgilaaS07
import Derived.Test.YtjhmkaninmgilaaS05
import Derived.Test.YtjhmkaninmgilaaS04
import Derived.OrdersHeld
import Derived.Deep.LoopGhost
set_option linter.defProp false
set_option linter.unusedVariables false
set_option linter.unusedSimpArgs false
set_option maxHeartbeats 4000000
open Go.IntKind (i64)
namespace Go.Proofs.Ytjhmkaninmgilaa
open Go Go.RowKit Go.dI Go.Proofs
def aeu(x:D)(s:RS):Prop:=
 ((true=true->eV s.li s.lt s.le=true))∧(
 let a:=(gf s.li s.lt s.le)
 ((((cD 0 x).q==1)=true->
  ((true=true->Ok s 1))∧(
  True)))∧((((cD 0 x).q==1)=false->
  ((((cD 0 x).q==3)=true->
   ((true=true->Ok s 1))∧(
   True)))∧((((cD 0 x).q==3)=false->
   ((((cD 0 x).q==5)=true->
    ((true=true->Ok s 1))∧(
    True)))∧(True))))))
def Qb(x:D)(s:RS)(a:dn (.V eR) (encS s))(h:Ok s 1):aeu x s:=by
 (repeat' (first|exact trivial|apply And.intro|intro _))
 all_goals first|exact h.may|exact h
def c42:bj Try.prog 42 s42 (pre 42) (cz 42):=by refine zO Tt Try.func42 (v:=X8) ?_;intro e h c;obtain⟨x,_,rfl,d,a⟩:=ag.1 h;have b:=a;obtain⟨s,rfl⟩:=fW a;refine zH nV iz dK (y:=oi x s) (zE (Qb x s b c))
def Tp:jg Try.prog pre cz Uy:=aO c42 Tt
def aet(x:D)(s:RS):Prop:=
 (((((((s.vote==0)||(s.vote==(cD 1 x).q))&&(s.role !=2))==true)&&true)=true->eV s.li s.lt s.le=true))∧(
 let a:=(HK s.li s.lt s.le (cD 4 x).q (cD 5 x).q)
 ((((((s.vote==0)||(s.vote==(cD 1 x).q))&&(s.role !=2))&&a)=true->
  (((s.vote==0)=true->
   (True)∧(
   let c:=eU ({s with vote:=(cD 1 x).q}:RS)
   (True)∧(
   let b:=lE c
   ((true=true->Ok b 1))∧(
   True)))))∧(((s.vote==0)=false->
   (True)∧(
   let d:=lE s
   ((true=true->Ok d 1))∧(
   True))))))∧((((((s.vote==0)||(s.vote==(cD 1 x).q))&&(s.role !=2))&&a)=false->
  ((true=true->Ok s 1))∧(
  True))))
def Qa(x:D)(s:RS)(a:dn (.V eR) (encS s))(h:Ok s 1):aet x s:=by
 (repeat' (first|exact trivial|apply And.intro|intro _))
 all_goals first|exact h.may|exact h|exact h.same fH
def c43:bj Try.prog 43 s43 (pre 43) (cz 43):=by refine zO Tp Try.func43 (v:=X7) ?_;intro e h c;obtain⟨x,_,rfl,d,a⟩:=ag.1 h;have b:=a;obtain⟨s,rfl⟩:=fW a;refine zH nV iz dK (y:=uU x s) (zE (Qa x s b c))
def To:jg Try.prog pre cz Ux:=aO c43 Tp
def aes(x:D)(s:RS):Prop:=
 (True)∧((((s.role !=1)||(cD 7 x).Y)=false->
  (true=true->((s.bc++([(cD 1 x)] :Taf)):Taf).length<=maxLen∧((s.bc++([(cD 1 x)] :Taf)):Taf).length*8<=140737488355328)∧(
  ((true=true->Ok ({s with bc:=(s.bc++([(cD 1 x)] :Taf))}:RS) 0))∧(
  let b:=(eZ ({s with bc:=(s.bc++([(cD 1 x)] :Taf))}:RS))
  (True)∧(
  let a:=(lR (aJ 2 b []) (D.list (s.bc++([(cD 1 x)] :Taf))))
  ((a=true->
   ((true=true->Ok ({s with bc:=(s.bc++([(cD 1 x)] :Taf))}:RS) 13))∧(
   True)))∧(True))))))
def P9(x:D)(s:RS)(e:dn (.V eR) (encS s))(h:Ok s 15):aes x s:=by
 have d:=h.nv
 have b: ∀k,k+1<=15->Ok ({s with bc:=s.bc++[cD 1 x]}:RS) k:=fun k c=>
  have a:=h.le c
  ⟨a.may,a.xV,a.xU,by have:=a.qV;show s.le.length+k<=_;omega,by have:=a.nm;show s.msgs.length+k<=_;omega,by have:=a.ne;show s.dW.length+k<=_;omega,by have:=a.nc;have:=C3 k;show s.bZ.length+G k<=_;omega,by have:=a.nv;show(s.bc++[cD 1 x]).length+k<=_;rw[ah,aZ];omega,a.cf,a.cs,a.cl,a.tm,a.tx,a.rd⟩
 refine⟨trivial,fun _=>⟨fun _=> ?_,fun _=>b 0 (by omega),trivial,fun _=>⟨fun _=>b 13 (by omega),trivial⟩,trivial⟩⟩;show(s.bc++[cD 1 x]).length<=maxLen∧(s.bc++[cD 1 x]).length*8<=_;rw[ah,aZ];simp only[maxLen];omega
def c44:bj Try.prog 44 s44 (pre 44) (cz 44):=by refine zO To Try.func44 (v:=X6) ?_;intro e h c;obtain⟨x,_,rfl,d,a⟩:=ag.1 h;have b:=a;obtain⟨s,rfl⟩:=fW a;refine zH nV iz dK (y:=pY x s) (zE (P9 x s b c))
def Tn:jg Try.prog pre cz Uw:=aO c44 To
def c75:bj Try.prog 75 Q3 (pre 75) (cz 75):=by refine zO Tn Try.func75 (v:=XK) ?_;intro e h d;obtain⟨x,_,rfl,b,a⟩:=ag.1 h;have c:=a;obtain⟨s,rfl⟩:=fW a;refine zH Sz Jf (false,dK) (y:=il x s) zK
def SI:jg Try.prog pre cz Yq:=aO c75 Tn
def afd:bj Try.prog 65 YX (pre 65) (cz 65):=by
 refine zO SI Try.func65 (v:=Rj) ?_;intro C h b;obtain⟨_,_,rfl,⟨f,rfl,o⟩,_,_,rfl,⟨m,rfl,k⟩,_,_,rfl,⟨i,rfl,w⟩,_,_,rfl,⟨t,rfl,u⟩,_,_,rfl,⟨l,rfl,a,x⟩,rfl⟩:=h;have p:cz 65 [.int .i64 f,.int .i64 m,.int .i64 i,.int .i64 t,.list l] = .eS [.list (gK i l f m),oT i t l] :=rfl;simp[Rj,fi,eh,dY,cH,dZ,dy,fh,fm,fj,fZ,den,U.den,B.den,fD,aU,cV,eu,ep,er,fE,bT,cQ,pre,p,oT];replace b:okB i t=true:=b;rw[tH]at o k;obtain⟨s,j,_,_⟩:=jv.1 b;have c:=a.1;have e:=a.2;rw[nQ]at e;simp only[maxLen,MX]at c j⊢;refine⟨?_,fun A z=> ?_⟩
 ·intro h;unfold gK;by_cases d:m<1∨f<=i
  ·rw[if_pos d]
  ·rw[if_neg d];have r:=h.resolve_left d;rw[wrap64 (n:=f-i) (by omega) (by omega),wrap64 (by omega) (by omega)]at r;rw[bO (by omega)];simp
 ·rw[wrap64 (n:=f-i) (by omega) (by omega),wrap64 (n:=f-i-1) (by omega) (by omega)];intro y;rw[wrap64 (n:=(l.length:Int)-(f-i-1)) (by omega) (by omega)];have g:gK i l f m=(l.drop (f-i-1).toNat).take m.toNat:=by unfold gK;rw[if_neg (by omega)]
  refine⟨fun q=> ?_,fun q=> ?_⟩
  ·rw[wrap64 (n:=f-i-1+m) (by omega) (by omega)];refine⟨by omega,⟨by omega,aW (au 320 (by omega)) e⟩,?_⟩;rw[g,List.drop_take];congr 1;omega
  ·refine⟨by omega,⟨by omega,aW (au 320 (by omega)) e⟩,?_⟩;rw[g,eB (by rw[aX];omega)]
def N5:jg Try.prog pre cz Md:=aO afd SI
def aer(x:D)(s:RS):Prop:=
 (True)∧(
 let cP:=il (aJ 46 x []) s
 (True)∧(((!cP.1)=false->
  ((decide ((cD 4 x).q<cP.2.bF)=true->
   ((true=true->Ok cP.2 1))∧(
   True)))∧((decide ((cD 4 x).q<cP.2.bF)=false->
   ((true=true->eV cP.2.li cP.2.lt cP.2.le=true∧cP.2.le.length<4294967296∧(cD 12 x).A.length<4294967296))∧(
   let np:=yA cP.2.li cP.2.lt cP.2.le (cD 4 x).q (cD 5 x).q (cD 12 x).A
   (((!np.1.2)=true->
    ((true=true->eV np.2.1 np.2.2.1 np.2.2.2=true))∧(
    let e:=(gf np.2.1 np.2.2.1 np.2.2.2)
    ((true=true->Ok ({cP.2 with li:=np.2.1,lt:=np.2.2.1,le:=np.2.2.2}:RS) 1))∧(
    True))))∧(((!np.1.2)=false->
    ((decide (np.1.1>0)=true->
     (True)∧(
     let a:=eU ({cP.2 with li:=np.2.1,lt:=np.2.2.1,le:=np.2.2.2}:RS)
     ((true=true->okB a.li a.lt=true))∧(
     let b:=dP a.li a.lt a.le np.1.1 (i64.wrap ((cD 4 x).q+(((cD 12 x).A:Taf).length:Int)))
     ((true=true->Ok ({a with dW:=b}:RS) 1))∧(
     let c:=iW (bK (cD 6 x).q (i64.wrap ((cD 4 x).q+(((cD 12 x).A:Taf).length:Int)))) ({a with dW:=b}:RS)
     ((true=true->Ok c.2 1))∧(
     True))))))∧((decide (np.1.1>0)=false->
     ((true=true->Ok ({cP.2 with li:=np.2.1,lt:=np.2.2.1,le:=np.2.2.2}:RS) 1))∧(
     let d:=iW (bK (cD 6 x).q (i64.wrap ((cD 4 x).q+(((cD 12 x).A:Taf).length:Int)))) ({cP.2 with li:=np.2.1,lt:=np.2.2.1,le:=np.2.2.2}:RS)
     ((true=true->Ok d.2 1))∧(
     True))))))))))))
def P8(x:D)(s:RS)(d:dn (.V eR) (encS s))(h:Ok s (4+(cD 12 x).A.length)∧(cD 12 x).A.length<=2147483648∧eI (cD 12 x).A=true):aer x s:=by
 obtain⟨h,e,c⟩:=h;have b:Ok (il (aJ 46 x []) s).2 (4+(cD 12 x).A.length):=h.BG;refine⟨trivial,?_⟩;intro cP;change Ok cP.2 _ at b
 clear_value cP
 have a:=cJ.accept (k:=4) (pi:=(cD 4 x).q) (pt:=(cD 5 x).q) b c;have f:=b.qV;refine⟨trivial,fun _=>⟨fun _=>⟨fun _=>b.le (by omega),trivial⟩,fun _=>⟨fun _=>⟨b.may,by omega,by omega⟩,?_⟩⟩⟩
 (repeat' (first|exact trivial|apply And.intro|intro _))
 all_goals first
  |exact a.may
  |exact a.LW
  |exact a.le (by omega)
  |exact(cJ.dW a).le (by omega)
  |exact cJ.bZ ((cJ.dW a).le (by omega))
  |exact cJ.bZ (a.le (by omega))
def c45:bj Try.prog 45 s45 (pre 45) (cz 45):=by refine zO N5 Try.func45 (v:=X5) ?_;intro e h c;obtain⟨x,_,rfl,d,a⟩:=ag.1 h;have b:=a;obtain⟨s,rfl⟩:=fW a;refine zH nV iz dK (y:=mQ x s) (zE (P8 x s b c))
def Tm:jg Try.prog pre cz Uv:=aO c45 N5
def aeg(x:D)(s:RS):Prop:=
 ((true=true->Ok s 0))∧(
 let a:=(eZ s)
 VC.Ea cz pre iz (fun _ _ l=>lz x s a (l.getD 0 .top).A (l.getD 1 .top).q (qS (l.drop 2))) [] (VC.lp 67 Ue) (fD (fun i=>([x] ++encS s).getD i .top) 57 (a)))
def abb(x:D)(s:RS)(e:D)(d:Taf)(a:Int)(b:RS):Prop:=
 ((decide (a<(s.reads.length:Int))=true->
  (true=true->((decide (0<=a))&&(decide (a<(s.reads.length:Int))))=true)∧(
  ((((decide ((cD 8 x).q≥((cD 2 ((s.reads).getD (a:Int).toNat .top)).q)))&&(decide ((cD 8 x).q<=b.round)))=true->
   False))∧((((decide ((cD 8 x).q≥((cD 2 ((s.reads).getD (a:Int).toNat .top)).q)))&&(decide ((cD 8 x).q<=b.round)))=false->
   (True)∧(
   let c:=(lR (aJ 2 e []) (cD 3 ((s.reads).getD (a:Int).toNat .top)))
   ((c=true->
    (true=true->((b.pZ++([aJ 2 ((s.reads).getD (a:Int).toNat .top) []] :Taf)):Taf).length<=maxLen∧((b.pZ++([aJ 2 ((s.reads).getD (a:Int).toNat .top) []] :Taf)):Taf).length*16<=140737488355328)∧(
    True)))∧((c=false->
    (true=true->((d++([aJ 4 ((s.reads).getD (a:Int).toNat .top) []] :Taf)):Taf).length<=maxLen∧((d++([aJ 4 ((s.reads).getD (a:Int).toNat .top) []] :Taf)):Taf).length*48<=140737488355328)∧(
    True)))))))))∧(True)
def PX(x:D)(s:RS)(i:dn (.V eR) (encS s))(h:Ok s 0):aeg x s:=by
 refine⟨fun _=>h,?_⟩;intro b
 clear_value b
 have e:=h.rd;refine VC.jn 67 (by kernel_rfl) ?_;refine VC.ia (Φ:=cz) (Pre:=pre) (triv:=triv) (v0:=67) (decL:=fun l=>((l.getD 0 .top).A,(l.getD 1 .top).q,qS (l.drop 2))) (encL:=fun a:Taf×Int×RS=>([D.list a.1,D.int .i64 a.2.1] ++Gf a.2.2)) (dec:=nV) (enc:=iz) (lp:=fun _ _ _ _=>dK) (bad:=.inr dK) (bd:=dK) (by kernel_rfl) (fun a:Taf×Int×RS=>ly x s b a.1 a.2.1 a.2.2) (fun a:Taf×Int×RS=>0<=a.2.1) (fun a:Taf×Int×RS=>vT x s b a.1 a.2.1 a.2.2) ([],0,s) kA (by kernel_rfl) ?Q6 (fun a=>rfl) ?Q9 (by kernel_rfl) (fun a d=>by kernel_rfl) (fun a=>by kernel_rfl) (fun a=>by kernel_rfl) (fun a d g=>zE (β:=abb x s b a.1 a.2.1 a.2.2) ?Ef) (by kernel_rfl)
 ·exact ba 0
 ·rintro⟨l,j,t⟩ f;replace f:0<=j:=f;unfold ly;rw[if_neg (by rw[e,bk];simp only[fO];omega)];trivial
 ·obtain⟨l,j,t⟩:=a;replace d:0<=j:=d;refine⟨fun c=> ?_,trivial⟩;rw[e,bk]at c;simp only[fO]at c;omega
def c77:bj Try.prog 77 np (pre 77) (cz 77):=by refine hP (given:=[(4,{boxes:=ya})]) mix Tm Try.func77 rfl (by kernel_rfl) (v:=Ue) (by kernel_rfl) ?_;intro f h d;obtain⟨x,_,rfl,e,b⟩:=ag.1 h;have c:=b;obtain⟨s,rfl⟩:=fW b;refine zL nV iz dK (fun _ _ l=>(let a:=(eZ s);lz x s a (l.getD 0 .top).A (l.getD 1 .top).q (qS (l.drop 2)))) (y:=hC x s) (zE (PX x s c d))
def SG:jg Try.prog pre cz Um:=aO c77 Tm
def aef(x:Int)(y:Int)(s:RS):Prop:=
 ((true=true->eV s.li s.lt s.le=true))∧(
 let b:=(gf s.li s.lt s.le)
 (((x==0)=true->
  ((true=true->Ok ({s with F6:=(bP s.F6 (bK y b.1)),wq:=(bP s.wq (i64.wrap ((bP s.F6 (bK y b.1))+1))),Ba:=0}:RS) 1))∧(
  let a:=gR ({s with F6:=(bP s.F6 (bK y b.1)),wq:=(bP s.wq (i64.wrap ((bP s.F6 (bK y b.1))+1))),Ba:=0}:RS)
  ((((a.role==2)&&(decide (a.wq<=b.1)))=true->
   ((true=true->Ok a 1∧(0:Int)<=0∧(0:Int)<=5))∧(
   True)))∧(True))))∧(((x==0)=false->
  (((x==1)=true->
   ((true=true->Ok ({s with D9:=(bP s.D9 (bK y b.1)),uM:=(bP s.uM (i64.wrap ((bP s.D9 (bK y b.1))+1))),A9:=0}:RS) 1))∧(
   let a:=gR ({s with D9:=(bP s.D9 (bK y b.1)),uM:=(bP s.uM (i64.wrap ((bP s.D9 (bK y b.1))+1))),A9:=0}:RS)
   ((((a.role==2)&&(decide (a.uM<=b.1)))=true->
    ((true=true->Ok a 1∧(0:Int)<=1∧(1:Int)<=5))∧(
    True)))∧(True))))∧(((x==1)=false->
   (((x==2)=true->
    ((true=true->Ok ({s with D8:=(bP s.D8 (bK y b.1)),uL:=(bP s.uL (i64.wrap ((bP s.D8 (bK y b.1))+1))),A8:=0}:RS) 1))∧(
    let a:=gR ({s with D8:=(bP s.D8 (bK y b.1)),uL:=(bP s.uL (i64.wrap ((bP s.D8 (bK y b.1))+1))),A8:=0}:RS)
    ((((a.role==2)&&(decide (a.uL<=b.1)))=true->
     ((true=true->Ok a 1∧(0:Int)<=2∧(2:Int)<=5))∧(
     True)))∧(True))))∧(((x==2)=false->
    (((x==3)=true->
     ((true=true->Ok ({s with D7:=(bP s.D7 (bK y b.1)),uK:=(bP s.uK (i64.wrap ((bP s.D7 (bK y b.1))+1))),A4:=0}:RS) 1))∧(
     let a:=gR ({s with D7:=(bP s.D7 (bK y b.1)),uK:=(bP s.uK (i64.wrap ((bP s.D7 (bK y b.1))+1))),A4:=0}:RS)
     ((((a.role==2)&&(decide (a.uK<=b.1)))=true->
      ((true=true->Ok a 1∧(0:Int)<=3∧(3:Int)<=5))∧(
      True)))∧(True))))∧(((x==3)=false->
     (((x==4)=true->
      ((true=true->Ok ({s with D6:=(bP s.D6 (bK y b.1)),uJ:=(bP s.uJ (i64.wrap ((bP s.D6 (bK y b.1))+1))),A0:=0}:RS) 1))∧(
      let a:=gR ({s with D6:=(bP s.D6 (bK y b.1)),uJ:=(bP s.uJ (i64.wrap ((bP s.D6 (bK y b.1))+1))),A0:=0}:RS)
      ((((a.role==2)&&(decide (a.uJ<=b.1)))=true->
       ((true=true->Ok a 1∧(0:Int)<=4∧(4:Int)<=5))∧(
       True)))∧(True))))∧(((x==4)=false->
      (((x==5)=true->
       ((true=true->Ok ({s with D5:=(bP s.D5 (bK y b.1)),uI:=(bP s.uI (i64.wrap ((bP s.D5 (bK y b.1))+1))),AZ:=0}:RS) 1))∧(
       let a:=gR ({s with D5:=(bP s.D5 (bK y b.1)),uI:=(bP s.uI (i64.wrap ((bP s.D5 (bK y b.1))+1))),AZ:=0}:RS)
       ((((a.role==2)&&(decide (a.uI<=b.1)))=true->
        ((true=true->Ok a 1∧(0:Int)<=5∧(5:Int)<=5))∧(
        True)))∧(True))))∧(((x==5)=false->
       False)))))))))))))
def PW(x:Int)(y:Int)(s:RS)(c:jo .i64 x)(b:jo .i64 y)(d:dn (.V eR) (encS s))(h:Ok s 2∧0<=x∧x<=5):aef x y s:=by
 obtain⟨h,g,f⟩:=h;have a: ∀t:RS,wB s t->Ok (gR t) 1:=fun t e=>cJ.agree (k:=1) (h.same e)
 (repeat' (first|exact trivial|apply And.intro|intro _))
 all_goals first
  |exact h.may
  |decide
  |((with_reducible refine cJ.alike h (by omega) ?_);exact fH)
  |(refine a _ ?_;exact fH)
  |(simp only[beq_eq_false_iff_ne,ne_eq]at*;omega)
def c78:bj Try.prog 78 W6 (pre 78) (cz 78):=by refine hP (given:=[(1,{drop:=[4006001]})]) mix SG Try.func78 rfl (by kernel_rfl) (v:=XJ) (by kernel_rfl) ?_;intro g h e;obtain⟨_,_,rfl,⟨x,rfl,c⟩,f⟩:=ag.1 h;obtain⟨_,_,rfl,⟨y,rfl,b⟩,a⟩:=ag.1 f;have d:=a;obtain⟨s,rfl⟩:=fW a;refine zH nV iz dK (y:=tT x y s) (zE (PW x y s c b d e))
def SF:jg Try.prog pre cz Ul:=aO c78 SG
def aeq(x:D)(s:RS):Prop:=
 (((((s.role !=2)==false)&&true)=true->Ok s 0))∧(
 let b:=(se (cD 1 x).q s)
 (True)∧((((s.role !=2)||(!b))=false->
  ((true=true->Ok s 0))∧(
  let gx:=hC (aJ 46 x []) s
  ((((cD 1 x).q==0)=true->
   (((cD 7 x).Y=true->
    ((true=true->eV gx.li gx.lt gx.le=true))∧(
    let a:=(gf gx.li gx.lt gx.le)
    ((true=true->Ok ({gx with wq:=(bP (i64.wrap (gx.F6+1)) (bK (i64.wrap (gx.wq-1)) (i64.wrap ((bK (bP 0 (cD 4 x).q) a.1)+1))))}:RS) 1∧(0:Int)<=0∧(0:Int)<=5))∧(
    True))))∧(((cD 7 x).Y=false->
    ((true=true->Ok gx 2∧(0:Int)<=0∧(0:Int)<=5))∧(
    True)))))∧((((cD 1 x).q==0)=false->
   ((((cD 1 x).q==1)=true->
    (((cD 7 x).Y=true->
     ((true=true->eV gx.li gx.lt gx.le=true))∧(
     let a:=(gf gx.li gx.lt gx.le)
     ((true=true->Ok ({gx with uM:=(bP (i64.wrap (gx.D9+1)) (bK (i64.wrap (gx.uM-1)) (i64.wrap ((bK (bP 0 (cD 4 x).q) a.1)+1))))}:RS) 1∧(0:Int)<=1∧(1:Int)<=5))∧(
     True))))∧(((cD 7 x).Y=false->
     ((true=true->Ok gx 2∧(0:Int)<=1∧(1:Int)<=5))∧(
     True)))))∧((((cD 1 x).q==1)=false->
    ((((cD 1 x).q==2)=true->
     (((cD 7 x).Y=true->
      ((true=true->eV gx.li gx.lt gx.le=true))∧(
      let a:=(gf gx.li gx.lt gx.le)
      ((true=true->Ok ({gx with uL:=(bP (i64.wrap (gx.D8+1)) (bK (i64.wrap (gx.uL-1)) (i64.wrap ((bK (bP 0 (cD 4 x).q) a.1)+1))))}:RS) 1∧(0:Int)<=2∧(2:Int)<=5))∧(
      True))))∧(((cD 7 x).Y=false->
      ((true=true->Ok gx 2∧(0:Int)<=2∧(2:Int)<=5))∧(
      True)))))∧((((cD 1 x).q==2)=false->
     ((((cD 1 x).q==3)=true->
      (((cD 7 x).Y=true->
       ((true=true->eV gx.li gx.lt gx.le=true))∧(
       let a:=(gf gx.li gx.lt gx.le)
       ((true=true->Ok ({gx with uK:=(bP (i64.wrap (gx.D7+1)) (bK (i64.wrap (gx.uK-1)) (i64.wrap ((bK (bP 0 (cD 4 x).q) a.1)+1))))}:RS) 1∧(0:Int)<=3∧(3:Int)<=5))∧(
       True))))∧(((cD 7 x).Y=false->
       ((true=true->Ok gx 2∧(0:Int)<=3∧(3:Int)<=5))∧(
       True)))))∧((((cD 1 x).q==3)=false->
      ((((cD 1 x).q==4)=true->
       (((cD 7 x).Y=true->
        ((true=true->eV gx.li gx.lt gx.le=true))∧(
        let a:=(gf gx.li gx.lt gx.le)
        ((true=true->Ok ({gx with uJ:=(bP (i64.wrap (gx.D6+1)) (bK (i64.wrap (gx.uJ-1)) (i64.wrap ((bK (bP 0 (cD 4 x).q) a.1)+1))))}:RS) 1∧(0:Int)<=4∧(4:Int)<=5))∧(
        True))))∧(((cD 7 x).Y=false->
        ((true=true->Ok gx 2∧(0:Int)<=4∧(4:Int)<=5))∧(
        True)))))∧((((cD 1 x).q==4)=false->
       ((((cD 1 x).q==5)=true->
        (((cD 7 x).Y=true->
         ((true=true->eV gx.li gx.lt gx.le=true))∧(
         let a:=(gf gx.li gx.lt gx.le)
         ((true=true->Ok ({gx with uI:=(bP (i64.wrap (gx.D5+1)) (bK (i64.wrap (gx.uI-1)) (i64.wrap ((bK (bP 0 (cD 4 x).q) a.1)+1))))}:RS) 1∧(0:Int)<=5∧(5:Int)<=5))∧(
         True))))∧(((cD 7 x).Y=false->
         ((true=true->Ok gx 2∧(0:Int)<=5∧(5:Int)<=5))∧(
         True)))))∧((((cD 1 x).q==5)=false->
        False))))))))))))))))
def P7(x:D)(s:RS)(b:dn (.V eR) (encS s))(h:Ok s 4∧0<=(cD 1 x).q∧(cD 1 x).q<=5):aeq x s:=by
 obtain⟨h,d,c⟩:=h;refine⟨fun _=>h.le (by omega),trivial,fun _=>⟨fun _=>h.le (by omega),?_⟩⟩;have a:Ok (hC (aJ 46 x []) s) 4:=h.rO;intro gx;change Ok gx 4 at a
 clear_value gx
 (repeat' (first|exact trivial|apply And.intro|intro _))
 all_goals first
  |exact a.may
  |decide
  |(with_reducible exact a.le (by omega))
  |((with_reducible refine cJ.alike a (by omega) ?_);exact fH)
  |(simp only[beq_eq_false_iff_ne,ne_eq]at*;omega)
def c46:bj Try.prog 46 s46 (pre 46) (cz 46):=by refine hP (given:=[(3,{drop:=[5106003]})]) mix SF Try.func46 rfl (by kernel_rfl) (v:=X4) (by kernel_rfl) ?_;intro e h c;obtain⟨x,_,rfl,d,a⟩:=ag.1 h;have b:=a;obtain⟨s,rfl⟩:=fW a;refine zH nV iz dK (y:=jR x s) (zE (P7 x s b c))
def Tl:jg Try.prog pre cz Uu:=aO c46 SF
def aeo(x:D)(s:RS):Prop:=
 (((((s.role !=2)==false)&&true)=true->Ok s 0))∧(
 let a:=(se (cD 1 x).q s)
 (True)∧((((s.role !=2)||(!a))=false->
  ((((!(cD 7 x).Y)&&((cD 10 x).q==0))=true->
   ((true=true->Ok s 2∧(0:Int)<=(cD 1 x).q∧((cD 1 x).q:Int)<=5))∧(
   True)))∧((((!(cD 7 x).Y)&&((cD 10 x).q==0))=false->
   ((((cD 4 x).q==s.jO)=true->
    ((((cD 1 x).q==0)=true->
     ((true=true->Ok ({s with Ba:=(bK (bP 0 (cD 9 x).q) (s.aY.length:Int))}:RS) 1∧(0:Int)<=0∧(0:Int)<=5))∧(
     True)))∧((((cD 1 x).q==0)=false->
     ((((cD 1 x).q==1)=true->
      ((true=true->Ok ({s with A9:=(bK (bP 0 (cD 9 x).q) (s.aY.length:Int))}:RS) 1∧(0:Int)<=1∧(1:Int)<=5))∧(
      True)))∧((((cD 1 x).q==1)=false->
      ((((cD 1 x).q==2)=true->
       ((true=true->Ok ({s with A8:=(bK (bP 0 (cD 9 x).q) (s.aY.length:Int))}:RS) 1∧(0:Int)<=2∧(2:Int)<=5))∧(
       True)))∧((((cD 1 x).q==2)=false->
       ((((cD 1 x).q==3)=true->
        ((true=true->Ok ({s with A4:=(bK (bP 0 (cD 9 x).q) (s.aY.length:Int))}:RS) 1∧(0:Int)<=3∧(3:Int)<=5))∧(
        True)))∧((((cD 1 x).q==3)=false->
        ((((cD 1 x).q==4)=true->
         ((true=true->Ok ({s with A0:=(bK (bP 0 (cD 9 x).q) (s.aY.length:Int))}:RS) 1∧(0:Int)<=4∧(4:Int)<=5))∧(
         True)))∧((((cD 1 x).q==4)=false->
         ((((cD 1 x).q==5)=true->
          ((true=true->Ok ({s with AZ:=(bK (bP 0 (cD 9 x).q) (s.aY.length:Int))}:RS) 1∧(0:Int)<=5∧(5:Int)<=5))∧(
          True)))∧((((cD 1 x).q==5)=false->
          False))))))))))))))∧(True))))))
def P5(x:D)(s:RS)(c:dn (.V eR) (encS s))(h:Ok s 4∧0<=(cD 1 x).q∧(cD 1 x).q<=5):aeo x s:=by
 obtain⟨h,b,a⟩:=h
 (repeat' (first|exact trivial|apply And.intro|intro _))
 all_goals first
  |decide
  |exact b
  |exact a
  |(with_reducible exact h.le (by omega))
  |((with_reducible refine cJ.alike h (by omega) ?_);exact fH)
  |(simp only[beq_eq_false_iff_ne,ne_eq]at*;omega)
def c48:bj Try.prog 48 s48 (pre 48) (cz 48):=by refine hP (given:=[(5,{drop:=[5106003]})]) mix Tl Try.func48 rfl (by kernel_rfl) (v:=X2) (by kernel_rfl) ?_;intro e h c;obtain⟨x,_,rfl,d,a⟩:=ag.1 h;have b:=a;obtain⟨s,rfl⟩:=fW a;refine zH nV iz dK (y:=lq x s) (zE (P5 x s b c))
def Tj:jg Try.prog pre cz YJ:=aO c48 Tl
def c27:bj Try.prog 27 s27 (pre 27) (cz 27):=by refine zF Tj Try.func27 (v:=adH) ?_;intro c h a;obtain⟨_,_,rfl,⟨_,rfl,_,_,rfl,⟨i,rfl,_⟩,_,_,rfl,⟨t,rfl,_⟩,_,_,rfl,⟨v,rfl,_,_⟩,_,_,rfl,⟨l,rfl,_,_⟩,_,_,rfl,⟨b,rfl,_,_⟩,rfl⟩,rfl⟩:=h;refine zH id id .top (y:=pS _) zK
def TC:jg Try.prog pre cz UE:=aO c27 Tj
def ae1: ∀k q,lk Jd k=some q-> ∃A t,q.nn=some (A,t)∧PF Try.prog k A (pre k) (cz k):=by
 intro k q h;unfold Jd lk lk at h;split at h
 ·rename_i H;subst H;injection h with h;subst h;refine⟨_,_,rfl,cnw,?_⟩;intro N g w S K J E Q M j f B C;injection g with g;subst g;have I:=List.length_eq_zero_iff.1 j.len;subst I;simp only[List.flatten_nil,cN]at f B C;obtain⟨x,r,rfl,P,o⟩:=ag.1 f;obtain⟨y,r,rfl,O,o⟩:=ag.1 o;obtain rfl:=dg.1 o;have s:=j.args
  match E,s with
  | [u,v],s=>
   obtain⟨G,F,_⟩:=s;refine(cnl.calls rfl w S [u,v] [x,y] j.lt rfl ?_ f ⟨B,C⟩).mono ?_
   ·intro i z d a m
    match i with
    |0=>injection a with a;injection m with m;subst a m;exact G
    |1=>injection a with a;injection m with m;subst a m;exact F
    |n+2=>cases a
   ·rintro e D ⟨z,S',τ',rfl,hb,_,_,_,kR,_⟩;refine⟨?_,hb⟩;rcases kR with⟨c,p,hq⟩|⟨p,_⟩
    ·injection p with p;subst p;obtain⟨L,b,l⟩:=hq;injection b with b;subst b;have o:ca D S' z .gI:=l.1;rw[o.rK]
    ·exact absurd rfl p
 ·cases h
def aep(x:D)(s:RS):Prop:=
 (True)∧(
 let cP:=il (aJ 46 x []) s
 (True)∧(((!cP.1)=false->
  ((decide ((cD 4 x).q<=cP.2.bF)=true->
   ((true=true->Ok cP.2 1))∧(
   True)))∧((decide ((cD 4 x).q<=cP.2.bF)=false->
   ((((!(((((cP.2.gE==(cD 3 x).q)&&(cP.2.gQ==(cD 1 x).q))&&(cP.2.fu==(cD 4 x).q))&&(cP.2.jx==(cD 5 x).q))&&(cP.2.ft==(cD 10 x).q)))||((cD 9 x).q==0))=true->
    (True)∧(
    let E:=(na (cD 10 x).q 1 1048576)
    ((((((cD 9 x).q==(([] :Taf).length:Int))&&(decide ((((cD 15 x).A:Taf).length:Int)<=(i64.wrap ((cD 10 x).q-(([] :Taf).length:Int))))))&&E)=true->
     (true=true->(([] ++(cD 15 x).A):Taf).length<=maxLen∧(([] ++(cD 15 x).A):Taf).length*1<=140737488355328)∧(
     (True)∧(
     let m:=(jP (cD 4 x).q (cD 5 x).q)
     (((cD 0 m).gk=true->
      (True)∧(
      let u:=(fB (D.agg [(cD 13 x),(cD 14 x)]))
      ((true=true->Ok ({cP.2 with gE:=(cD 3 x).q,gQ:=(cD 1 x).q,fu:=(cD 4 x).q,jx:=(cD 5 x).q,ft:=(cD 10 x).q,cg:=([] ++(cD 15 x).A)}:RS) 1))∧(
      True))))∧(((cD 0 m).gk=false->
      (True)∧(
      let u:=(fB (D.agg [(cD 13 x),(cD 14 x)]))
      ((((((((([] ++(cD 15 x).A):Taf).length:Int) !=(cD 10 x).q)||(decide ((cD 10 x).q<1)))&&true)||(!u))=true->
       ((true=true->Ok ({cP.2 with gE:=(cD 3 x).q,gQ:=(cD 1 x).q,fu:=(cD 4 x).q,jx:=(cD 5 x).q,ft:=(cD 10 x).q,cg:=([] ++(cD 15 x).A)}:RS) 1))∧(
       True)))∧((((((((([] ++(cD 15 x).A):Taf).length:Int) !=(cD 10 x).q)||(decide ((cD 10 x).q<1)))&&true)||(!u))=false->
       (True)∧(
       let a:=(fN (D.agg [(cD 13 x),(cD 14 x)]))
       ((true=true->eV cP.2.li cP.2.lt cP.2.le=true))∧(
       let q:=(ij cP.2.li cP.2.lt cP.2.le (cD 4 x).q)
       ((((q.2==0)&&(q.1==(cD 5 x).q))=true->
        ((true=true->eV cP.2.li cP.2.lt cP.2.le=true))∧(
        let z:=hU cP.2.li cP.2.lt cP.2.le (cD 4 x).q
        (True)∧(
        let e:=(pS (D.agg [(cD 4 x),(cD 5 x),(cD 0 a),(cD 1 a),D.list ([] ++(cD 15 x).A)]))
        (True)∧(
        let G:=eU ({cP.2 with fC:=(D.ptr [(cD 0 e),(cD 1 e),(cD 2 e),(cD 3 e),(cD 4 e)]),jO:=(cD 4 x).q,ig:=(cD 5 x).q,sv:=(cD 0 a).A,sl:=(cD 1 a).A,aY:=([] ++(cD 15 x).A),bF:=(cD 4 x).q,gE:=0,gQ:=0,fu:=0,jx:=0,ft:=0,cg:=[],li:=z.2.1,lt:=z.2.2.1,le:=z.2.2.2}:RS)
        ((true=true->Ok G 1))∧(
        True))))))∧((((q.2==0)&&(q.1==(cD 5 x).q))=false->
        (True)∧(
        let f:=(pS (D.agg [(cD 4 x),(cD 5 x),(cD 0 a),(cD 1 a),D.list ([] ++(cD 15 x).A)]))
        (True)∧(
        let H:=eU ({cP.2 with fC:=(D.ptr [(cD 0 f),(cD 1 f),(cD 2 f),(cD 3 f),(cD 4 f)]),jO:=(cD 4 x).q,ig:=(cD 5 x).q,sv:=(cD 0 a).A,sl:=(cD 1 a).A,aY:=([] ++(cD 15 x).A),bF:=(cD 4 x).q,gE:=0,gQ:=0,fu:=0,jx:=0,ft:=0,cg:=[],li:=((cD 0 (cD 1 m)).q),lt:=((cD 1 (cD 1 m)).q),le:=((cD 2 (cD 1 m)).A)}:RS)
        ((true=true->Ok H 1))∧(
        True))))))))))))))))∧((((((cD 9 x).q==(([] :Taf).length:Int))&&(decide ((((cD 15 x).A:Taf).length:Int)<=(i64.wrap ((cD 10 x).q-(([] :Taf).length:Int))))))&&E)=false->
     (True)∧(
     let o:=(jP (cD 4 x).q (cD 5 x).q)
     (((cD 0 o).gk=true->
      (True)∧(
      let w:=(fB (D.agg [(cD 13 x),(cD 14 x)]))
      ((true=true->Ok ({cP.2 with gE:=(cD 3 x).q,gQ:=(cD 1 x).q,fu:=(cD 4 x).q,jx:=(cD 5 x).q,ft:=(cD 10 x).q,cg:=[]}:RS) 1))∧(
      True))))∧(((cD 0 o).gk=false->
      (True)∧(
      let w:=(fB (D.agg [(cD 13 x),(cD 14 x)]))
      (((((((([] :Taf).length:Int) !=(cD 10 x).q)||(decide ((cD 10 x).q<1)))&&true)||(!w))=true->
       ((true=true->Ok ({cP.2 with gE:=(cD 3 x).q,gQ:=(cD 1 x).q,fu:=(cD 4 x).q,jx:=(cD 5 x).q,ft:=(cD 10 x).q,cg:=[]}:RS) 1))∧(
       True)))∧(((((((([] :Taf).length:Int) !=(cD 10 x).q)||(decide ((cD 10 x).q<1)))&&true)||(!w))=false->
       (True)∧(
       let c:=(fN (D.agg [(cD 13 x),(cD 14 x)]))
       ((true=true->eV cP.2.li cP.2.lt cP.2.le=true))∧(
       let t:=(ij cP.2.li cP.2.lt cP.2.le (cD 4 x).q)
       ((((t.2==0)&&(t.1==(cD 5 x).q))=true->
        ((true=true->eV cP.2.li cP.2.lt cP.2.le=true))∧(
        let B:=hU cP.2.li cP.2.lt cP.2.le (cD 4 x).q
        (True)∧(
        let i:=(pS (D.agg [(cD 4 x),(cD 5 x),(cD 0 c),(cD 1 c),D.list []]))
        (True)∧(
        let K:=eU ({cP.2 with fC:=(D.ptr [(cD 0 i),(cD 1 i),(cD 2 i),(cD 3 i),(cD 4 i)]),jO:=(cD 4 x).q,ig:=(cD 5 x).q,sv:=(cD 0 c).A,sl:=(cD 1 c).A,aY:=[],bF:=(cD 4 x).q,gE:=0,gQ:=0,fu:=0,jx:=0,ft:=0,cg:=[],li:=B.2.1,lt:=B.2.2.1,le:=B.2.2.2}:RS)
        ((true=true->Ok K 1))∧(
        True))))))∧((((t.2==0)&&(t.1==(cD 5 x).q))=false->
        (True)∧(
        let j:=(pS (D.agg [(cD 4 x),(cD 5 x),(cD 0 c),(cD 1 c),D.list []]))
        (True)∧(
        let L:=eU ({cP.2 with fC:=(D.ptr [(cD 0 j),(cD 1 j),(cD 2 j),(cD 3 j),(cD 4 j)]),jO:=(cD 4 x).q,ig:=(cD 5 x).q,sv:=(cD 0 c).A,sl:=(cD 1 c).A,aY:=[],bF:=(cD 4 x).q,gE:=0,gQ:=0,fu:=0,jx:=0,ft:=0,cg:=[],li:=((cD 0 (cD 1 o)).q),lt:=((cD 1 (cD 1 o)).q),le:=((cD 2 (cD 1 o)).A)}:RS)
        ((true=true->Ok L 1))∧(
        True))))))))))))))))))∧((((!(((((cP.2.gE==(cD 3 x).q)&&(cP.2.gQ==(cD 1 x).q))&&(cP.2.fu==(cD 4 x).q))&&(cP.2.jx==(cD 5 x).q))&&(cP.2.ft==(cD 10 x).q)))||((cD 9 x).q==0))=false->
    (True)∧(
    let F:=(na (cD 10 x).q 1 1048576)
    ((((((cD 9 x).q==((cP.2.cg:Taf).length:Int))&&(decide ((((cD 15 x).A:Taf).length:Int)<=(i64.wrap ((cD 10 x).q-((cP.2.cg:Taf).length:Int))))))&&F)=true->
     (true=true->((cP.2.cg++(cD 15 x).A):Taf).length<=maxLen∧((cP.2.cg++(cD 15 x).A):Taf).length*1<=140737488355328)∧(
     (True)∧(
     let n:=(jP (cD 4 x).q (cD 5 x).q)
     (((cD 0 n).gk=true->
      (True)∧(
      let v:=(fB (D.agg [(cD 13 x),(cD 14 x)]))
      ((true=true->Ok ({cP.2 with cg:=(cP.2.cg++(cD 15 x).A)}:RS) 1))∧(
      True))))∧(((cD 0 n).gk=false->
      (True)∧(
      let v:=(fB (D.agg [(cD 13 x),(cD 14 x)]))
      (((((((((cP.2.cg++(cD 15 x).A):Taf).length:Int) !=(cD 10 x).q)||(decide ((cD 10 x).q<1)))&&true)||(!v))=true->
       ((true=true->Ok ({cP.2 with cg:=(cP.2.cg++(cD 15 x).A)}:RS) 1))∧(
       True)))∧(((((((((cP.2.cg++(cD 15 x).A):Taf).length:Int) !=(cD 10 x).q)||(decide ((cD 10 x).q<1)))&&true)||(!v))=false->
       (True)∧(
       let b:=(fN (D.agg [(cD 13 x),(cD 14 x)]))
       ((true=true->eV cP.2.li cP.2.lt cP.2.le=true))∧(
       let r:=(ij cP.2.li cP.2.lt cP.2.le (cD 4 x).q)
       ((((r.2==0)&&(r.1==(cD 5 x).q))=true->
        ((true=true->eV cP.2.li cP.2.lt cP.2.le=true))∧(
        let A:=hU cP.2.li cP.2.lt cP.2.le (cD 4 x).q
        (True)∧(
        let g:=(pS (D.agg [(cD 4 x),(cD 5 x),(cD 0 b),(cD 1 b),D.list (cP.2.cg++(cD 15 x).A)]))
        (True)∧(
        let I:=eU ({cP.2 with fC:=(D.ptr [(cD 0 g),(cD 1 g),(cD 2 g),(cD 3 g),(cD 4 g)]),jO:=(cD 4 x).q,ig:=(cD 5 x).q,sv:=(cD 0 b).A,sl:=(cD 1 b).A,aY:=(cP.2.cg++(cD 15 x).A),bF:=(cD 4 x).q,gE:=0,gQ:=0,fu:=0,jx:=0,ft:=0,cg:=[],li:=A.2.1,lt:=A.2.2.1,le:=A.2.2.2}:RS)
        ((true=true->Ok I 1))∧(
        True))))))∧((((r.2==0)&&(r.1==(cD 5 x).q))=false->
        (True)∧(
        let h:=(pS (D.agg [(cD 4 x),(cD 5 x),(cD 0 b),(cD 1 b),D.list (cP.2.cg++(cD 15 x).A)]))
        (True)∧(
        let J:=eU ({cP.2 with fC:=(D.ptr [(cD 0 h),(cD 1 h),(cD 2 h),(cD 3 h),(cD 4 h)]),jO:=(cD 4 x).q,ig:=(cD 5 x).q,sv:=(cD 0 b).A,sl:=(cD 1 b).A,aY:=(cP.2.cg++(cD 15 x).A),bF:=(cD 4 x).q,gE:=0,gQ:=0,fu:=0,jx:=0,ft:=0,cg:=[],li:=((cD 0 (cD 1 n)).q),lt:=((cD 1 (cD 1 n)).q),le:=((cD 2 (cD 1 n)).A)}:RS)
        ((true=true->Ok J 1))∧(
        True))))))))))))))))∧((((((cD 9 x).q==((cP.2.cg:Taf).length:Int))&&(decide ((((cD 15 x).A:Taf).length:Int)<=(i64.wrap ((cD 10 x).q-((cP.2.cg:Taf).length:Int))))))&&F)=false->
     (True)∧(
     let p:=(jP (cD 4 x).q (cD 5 x).q)
     (((cD 0 p).gk=true->
      (True)∧(
      let y:=(fB (D.agg [(cD 13 x),(cD 14 x)]))
      ((true=true->Ok cP.2 1))∧(
      True))))∧(((cD 0 p).gk=false->
      (True)∧(
      let y:=(fB (D.agg [(cD 13 x),(cD 14 x)]))
      ((((((((cP.2.cg:Taf).length:Int) !=(cD 10 x).q)||(decide ((cD 10 x).q<1)))&&true)||(!y))=true->
       ((true=true->Ok cP.2 1))∧(
       True)))∧((((((((cP.2.cg:Taf).length:Int) !=(cD 10 x).q)||(decide ((cD 10 x).q<1)))&&true)||(!y))=false->
       (True)∧(
       let d:=(fN (D.agg [(cD 13 x),(cD 14 x)]))
       ((true=true->eV cP.2.li cP.2.lt cP.2.le=true))∧(
       let a:=(ij cP.2.li cP.2.lt cP.2.le (cD 4 x).q)
       ((((a.2==0)&&(a.1==(cD 5 x).q))=true->
        ((true=true->eV cP.2.li cP.2.lt cP.2.le=true))∧(
        let C:=hU cP.2.li cP.2.lt cP.2.le (cD 4 x).q
        (True)∧(
        let k:=(pS (D.agg [(cD 4 x),(cD 5 x),(cD 0 d),(cD 1 d),D.list cP.2.cg]))
        (True)∧(
        let M:=eU ({cP.2 with fC:=(D.ptr [(cD 0 k),(cD 1 k),(cD 2 k),(cD 3 k),(cD 4 k)]),jO:=(cD 4 x).q,ig:=(cD 5 x).q,sv:=(cD 0 d).A,sl:=(cD 1 d).A,aY:=cP.2.cg,bF:=(cD 4 x).q,gE:=0,gQ:=0,fu:=0,jx:=0,ft:=0,cg:=[],li:=C.2.1,lt:=C.2.2.1,le:=C.2.2.2}:RS)
        ((true=true->Ok M 1))∧(
        True))))))∧((((a.2==0)&&(a.1==(cD 5 x).q))=false->
        (True)∧(
        let l:=(pS (D.agg [(cD 4 x),(cD 5 x),(cD 0 d),(cD 1 d),D.list cP.2.cg]))
        (True)∧(
        let N:=eU ({cP.2 with fC:=(D.ptr [(cD 0 l),(cD 1 l),(cD 2 l),(cD 3 l),(cD 4 l)]),jO:=(cD 4 x).q,ig:=(cD 5 x).q,sv:=(cD 0 d).A,sl:=(cD 1 d).A,aY:=cP.2.cg,bF:=(cD 4 x).q,gE:=0,gQ:=0,fu:=0,jx:=0,ft:=0,cg:=[],li:=((cD 0 (cD 1 p)).q),lt:=((cD 1 (cD 1 p)).q),le:=((cD 2 (cD 1 p)).A)}:RS)
        ((true=true->Ok N 1))∧(
        True)))))))))))))))))))))))
def P6(x:D)(s:RS)(q:dn (.V eR) (encS s))(h:Ok s 2):aep x s:=by
 have f:Ok (il (aJ 46 x []) s).2 2:=h.BG;have j:(il (aJ 46 x []) s).2.cg.length<=140737488355328:=aW (FH _ s) (KE q);refine⟨trivial,?_⟩;intro cP;change Ok cP.2 2 at f;change cP.2.cg.length<=140737488355328 at j
 clear_value cP
 have o: ∀(p:Nat) (e:Taf),p<=140737488355328->((e.length:Int)<=IntKind.wrap .i64 ((cD 10 x).q-(p:Int)))->na (cD 10 x).q 1 1048576=true->p+e.length<=1048576:=by intro p e j A z;simp only[na,aS,bk]at z;rw[wrap64 (by omega) (by omega)]at A;omega
 have y: ∀t:RS,wB cP.2 t->Ok t 1:=fun t e=>(f.same e).le (by omega);have w: ∀(t:RS) (c:Int),(t.li,t.lt,t.le)=jk cP.2.li cP.2.lt cP.2.le c->fB (.agg [.list t.sv,.list t.sl])=true->(t.id=cP.2.id∧t.msgs=cP.2.msgs∧t.dW=cP.2.dW∧t.bZ=cP.2.bZ∧t.bc=cP.2.bc∧t.fv=cP.2.fv∧t.fl=cP.2.fl∧t.term=cP.2.term∧t.reads=cP.2.reads)->Ok (eU t) 1:=fun t c m l k=>cJ.saved (f.Mf (by omega) m l k);have v: ∀(t:RS) (i n:Int),¬(cD 0 (jP i n)).gk=true->(t.li,t.lt,t.le)=((cD 0 (cD 1 (jP i n))).q,(cD 1 (cD 1 (jP i n))).q,(cD 2 (cD 1 (jP i n))).A)->fB (.agg [.list t.sv,.list t.sl])=true->(t.id=cP.2.id∧t.msgs=cP.2.msgs∧t.dW=cP.2.dW∧t.bZ=cP.2.bZ∧t.bc=cP.2.bc∧t.fv=cP.2.fv∧t.fl=cP.2.fl∧t.term=cP.2.term∧t.reads=cP.2.reads)->Ok (eU t) 1:=fun t i n B m l k=>cJ.saved (f.Rq (by omega) B m l k);have g: ∀a b:Bool,(a|| !b)=false->b=true:=by intro a b;cases a<;>cases b<;>simp
 (repeat' (first|exact trivial|apply And.intro|intro _))
 all_goals first
  |exact f.may
  |(with_reducible exact f.le (by omega))
  |((with_reducible refine y _ ?_);exact fH)
  |(refine w _ (cD 4 x).q ?_ ?_ ?_;exact rfl;exact g _ _ ‹(_|| !_)=false›;exact⟨rfl,rfl,rfl,rfl,rfl,rfl,rfl,rfl,rfl⟩)
  |(refine v _ (cD 4 x).q (cD 5 x).q ?_ ?_ ?_ ?_;exact(fun u=>absurd (‹D.gk _=false›.symm.trans u) (by decide));exact rfl;exact g _ _ ‹(_|| !_)=false›;exact⟨rfl,rfl,rfl,rfl,rfl,rfl,rfl,rfl,rfl⟩)
  |(rename_i d _
    simp only[aS,bk]at d;have r:=o 0 (cD 15 x).A (by omega) d.1.2 d.2;simp only[cX,maxLen];omega)
  |(rename_i d _
    simp only[aS,bk]at d;have r:=o cP.2.cg.length (cD 15 x).A j d.1.2 d.2;simp only[ah,maxLen];omega)
def c47:bj Try.prog 47 s47 (pre 47) (cz 47):=by refine FA (given:=[(21,{drop:=[9000000010]})]) (et:=Jd) mix TC ae1 Try.func47 rfl (by kernel_rfl) (v:=X3) (by kernel_rfl) ?_;intro e h c;obtain⟨x,_,rfl,d,a⟩:=ag.1 h;have b:=a;obtain⟨s,rfl⟩:=fW a;refine zH nV iz dK (y:=uV x s) (zE (P6 x s b c))
def Tk:jg Try.prog pre cz Ut:=aO c47 TC
def aeC(x:D)(s:RS):Prop:=
 (True)∧(
 let d:=(na (cD 1 x).q 1 5)
 (True)∧(
 let c:=(na (cD 3 x).q 1 1099511627776)
 (((decide ((((cD 12 x).A:Taf).length:Int)>0)==true)&&((decide ((cD 5 x).q>(cD 3 x).q)==false)&&true))=true->((decide (0<=(i64.wrap ((((cD 12 x).A:Taf).length:Int)-1))))&&(decide ((i64.wrap ((((cD 12 x).A:Taf).length:Int)-1))<(((cD 12 x).A:Taf).length:Int))))=true)∧(
 (True)∧(
 let b:=(eI (cD 12 x).A)
 (True)∧(((((decide ((cD 5 x).q>(cD 3 x).q))||((decide ((((cD 12 x).A:Taf).length:Int)>0))&&(decide (((cD 1 (((cD 12 x).A).getD ((i64.wrap ((((cD 12 x).A:Taf).length:Int)-1)):Int).toNat .top)).q)>(cD 3 x).q))))||(!b))=false->
  (True)∧(((((!(((((cD 2 x).q==s.id)&&((cD 1 x).q !=s.id))&&d)&&c))||(decide ((cD 0 x).q<1)))||(decide ((cD 0 x).q>6)))=false->
   ((decide ((cD 3 x).q>s.term)=true->
    (True)∧(
    let a:=gy (cD 3 x).q 0 s
    ((decide ((cD 3 x).q<a.term)=true->
     ((true=true->Ok a 1))∧(
     True)))∧((decide ((cD 3 x).q<a.term)=false->
     ((((cD 0 x).q==1)=true->
      ((true=true->Ok a 1))∧(
      True)))∧((((cD 0 x).q==1)=false->
      ((((cD 0 x).q==2)=true->
       ((true=true->Ok a 15))∧(
       True)))∧((((cD 0 x).q==2)=false->
       ((((cD 0 x).q==3)=true->
        ((true=true->Ok a (4+(cD 12 (aJ 46 x [])).A.length)∧(cD 12 (aJ 46 x [])).A.length<=2147483648∧eI (cD 12 (aJ 46 x [])).A=true))∧(
        True)))∧((((cD 0 x).q==3)=false->
        ((((cD 0 x).q==4)=true->
         ((true=true->Ok a 4∧0<=(cD 1 (aJ 46 x [])).q∧(cD 1 (aJ 46 x [])).q<=5))∧(
         True)))∧((((cD 0 x).q==4)=false->
         ((((cD 0 x).q==5)=true->
          ((true=true->Ok a 2))∧(
          True)))∧((((cD 0 x).q==5)=false->
          ((((cD 0 x).q==6)=true->
           ((true=true->Ok a 4∧0<=(cD 1 (aJ 46 x [])).q∧(cD 1 (aJ 46 x [])).q<=5))∧(
           True)))∧(True))))))))))))))))∧((decide ((cD 3 x).q>s.term)=false->
    ((decide ((cD 3 x).q<s.term)=true->
     ((true=true->Ok s 1))∧(
     True)))∧((decide ((cD 3 x).q<s.term)=false->
     ((((cD 0 x).q==1)=true->
      ((true=true->Ok s 1))∧(
      True)))∧((((cD 0 x).q==1)=false->
      ((((cD 0 x).q==2)=true->
       ((true=true->Ok s 15))∧(
       True)))∧((((cD 0 x).q==2)=false->
       ((((cD 0 x).q==3)=true->
        ((true=true->Ok s (4+(cD 12 (aJ 46 x [])).A.length)∧(cD 12 (aJ 46 x [])).A.length<=2147483648∧eI (cD 12 (aJ 46 x [])).A=true))∧(
        True)))∧((((cD 0 x).q==3)=false->
        ((((cD 0 x).q==4)=true->
         ((true=true->Ok s 4∧0<=(cD 1 (aJ 46 x [])).q∧(cD 1 (aJ 46 x [])).q<=5))∧(
         True)))∧((((cD 0 x).q==4)=false->
         ((((cD 0 x).q==5)=true->
          ((true=true->Ok s 2))∧(
          True)))∧((((cD 0 x).q==5)=false->
          ((((cD 0 x).q==6)=true->
           ((true=true->Ok s 4∧0<=(cD 1 (aJ 46 x [])).q∧(cD 1 (aJ 46 x [])).q<=5))∧(
           True)))∧(True)))))))))))))))))))))))
def Qk(x:D)(s:RS)(r:dn (.V eR) (encS s))(h:Ok s (20+(cD 12 x).A.length)∧(cD 12 x).A.length<=2147483648):aeC x s:=by
 obtain⟨h,l⟩:=h;refine⟨trivial,trivial,fun k=> ?_,trivial,trivial,fun e=>⟨trivial,fun a=> ?_⟩⟩
 ·simp only[aS,beq_iff_eq,bk]at k;have t:0<(cD 12 x).A.length:=by have:=k.1;omega
  show(decide (0<=IntKind.wrap .i64 (((cD 12 x).A.length:Int)-1))&&decide (IntKind.wrap .i64 (((cD 12 x).A.length:Int)-1)<((cD 12 x).A.length:Int)))=true;rw[wrap64 (by omega) (by omega),aS,bk,bk];omega
 have i:eI (cD 12 x).A=true:=vC (by rw[e];simp)
 have g:na (cD 1 x).q 1 5=true∧na (cD 3 x).q 1 1099511627776=true:=by simp only[Bool.or_eq_false_iff,Bool.not_eq_false',aS]at a;exact⟨a.1.1.1.2,a.1.1.2⟩
 obtain⟨c,b⟩:=g;simp only[na,aS,bk]at c b;have m:Ok (gy (cD 3 x).q 0 s) (20+(cD 12 x).A.length):=h.follow (by omega) b.2;have q:0<=(cD 1 (aJ 46 x [])).q:=by show 0<=(cD 1 x).q;omega
 have p:(cD 1 (aJ 46 x [])).q<=5:=c.2;have d:(cD 12 (aJ 46 x [])).A=(cD 12 x).A:=rfl;have o: ∀(j:Nat),j<=20+(cD 12 x).A.length->Ok (gy (cD 3 x).q 0 s) j:=fun j f=>m.le f;have n: ∀(j:Nat),j<=20+(cD 12 x).A.length->Ok s j:=fun j f=>h.le f
 (repeat' (first|exact trivial|apply And.intro|intro _))
 all_goals first
  |exact q
  |exact p
  |exact l
  |exact i
  |exact n _ (by first|omega|(rw[d];omega))
  |exact o _ (by first|omega|(rw[d];omega))
def c17:bj Try.prog 17 s17 (pre 17) (cz 17):=by refine zO Tk Try.func17 (v:=Yl) ?_;intro e h c;obtain⟨x,_,rfl,d,a⟩:=ag.1 h;have b:=a;obtain⟨s,rfl⟩:=fW a;refine zH PB Ei (.top,dK) (y:=jy x s) (zE (Qk x s b c))
def TJ:jg Try.prog pre cz UF:=aO c17 Tk
def aeE(x:Int)(s:RS):Prop:=
 (((s.role==2)=true->
  ((decide ((i64.wrap (s.wait+1))≥2)=true->
   ((true=true->Ok ({s with wait:=0}:RS) 0))∧(
   let c:=(eZ ({s with wait:=0}:RS))
   ((true=true->Ok ({s with wait:=0}:RS) 0∧fB (aJ 2 c [])=true))∧(
   let g:=(gN (aJ 2 c []) ({s with wait:=0}:RS))
   VC.Ea cz pre Ei (fun _ _ l=>rC g (l.getD 0 .top).q (qS (l.drop 1))) [] (VC.lp 84 Uk) (fD (fD (fun i=>([D.int .i64 x] ++encS s).getD i .top) 80 (c)) 81 (D.list g))))))∧(True)))∧(((s.role==2)=false->
  (((s.end_==0)=true->
   ((decide (x<0)=true->
    (true=true->(10 !=0)=true)∧(
    ((decide ((i64.wrap (s.wait+1))≥(i64.wrap (10+((i64.wrap (0-(i64.wrap (x+1)))).tmod 10))))=true->
     (True)∧(
     let a:=lE ({s with wait:=(i64.wrap (s.wait+1)),end_:=(i64.wrap (10+((i64.wrap (0-(i64.wrap (x+1)))).tmod 10)))}:RS)
     ((true=true->Ok a 0))∧(
     let d:=(eZ a)
     (True)∧(
     let h:=(lK (aJ 2 d []) a.id)
     (((h&&(decide (a.term<1099511627776)))=true->
      ((true=true->Ok a 14∧fB (aJ 2 d [])=true∧a.term<MX))∧(
      True)))∧(True))))))∧(True))))∧((decide (x<0)=false->
    (true=true->(10 !=0)=true)∧(
    ((decide ((i64.wrap (s.wait+1))≥(i64.wrap (10+(x.tmod 10))))=true->
     (True)∧(
     let b:=lE ({s with wait:=(i64.wrap (s.wait+1)),end_:=(i64.wrap (10+(x.tmod 10)))}:RS)
     ((true=true->Ok b 0))∧(
     let e:=(eZ b)
     (True)∧(
     let j:=(lK (aJ 2 e []) b.id)
     (((j&&(decide (b.term<1099511627776)))=true->
      ((true=true->Ok b 14∧fB (aJ 2 e [])=true∧b.term<MX))∧(
      True)))∧(True))))))∧(True))))))∧(((s.end_==0)=false->
   ((decide ((i64.wrap (s.wait+1))≥s.end_)=true->
    (True)∧(
    let D1:=lE ({s with wait:=(i64.wrap (s.wait+1))}:RS)
    ((true=true->Ok D1 0))∧(
    let f:=(eZ D1)
    (True)∧(
    let k:=(lK (aJ 2 f []) D1.id)
    (((k&&(decide (D1.term<1099511627776)))=true->
     ((true=true->Ok D1 14∧fB (aJ 2 f [])=true∧D1.term<MX))∧(
     True)))∧(True))))))∧(True)))))
def abk(b:Taf)(a:Int)(c:RS):Prop:=
 ((decide (a<((b:Taf).length:Int))=true->
  (true=true->((decide (0<=a))&&(decide (a<((b:Taf).length:Int))))=true)∧(
  ((true=true->Ok c 1∧(0:Int)<=((((b).getD (a:Int).toNat .top)).q)∧(((((b).getD (a:Int).toNat .top)).q):Int)<=5))∧(
  True))))∧(True)
def Qm(x:Int)(s:RS)(C:jo .i64 x)(E:dn (.V eR) (encS s))(h:Ok s 20):aeE x s:=by
 have o:Ok ({s with wait:=0}:RS) 20:=h.same fH;refine⟨fun _=>⟨fun _=>⟨fun _=>o.le (by omega),?_⟩,trivial⟩,fun _=> ?_⟩
 ·intro f;have m:fB (aJ 2 f [])=true:=iY o
  clear_value f
  refine⟨fun _=>⟨o.le (by omega),m⟩,?_⟩;intro b;have e:=iL (c:=aJ 2 f []) (s:={s with wait:=0}) m;change b.length<=10∧ ∀y∈b,1<=y.q∧y.q<=5 at e
  clear_value b
  obtain⟨F,A⟩:=e
  have u: ∀i:Int,0<=i->i<b.length->1<=(b.getD i.toNat .top).q∧(b.getD i.toNat .top).q<=5:=by
   intro i G g;have j:i.toNat<b.length:=by omega
   rw[aj,aQ j];exact A _ (aF j)
  refine VC.jn 84 (by kernel_rfl) ?_;refine VC.ia (Φ:=cz) (Pre:=pre) (triv:=triv) (v0:=84) (decL:=fun l=>((l.getD 0 .top).q,qS (l.drop 1))) (encL:=fun a:Int×RS=>([D.int .i64 a.1] ++Gf a.2)) (dec:=PB) (enc:=Ei) (lp:=fun _ _ _ _=>(.top,dK)) (bad:=.inr (.top,dK)) (bd:=(.top,dK)) (by kernel_rfl) (fun a:Int×RS=>zy b a.1 a.2) (fun a:Int×RS=>0<=a.1∧a.1<=b.length∧Ok a.2 (1+(10-a.1.toNat))) (fun a:Int×RS=>EN b a.1 a.2) (0,{s with wait:=0}) kA (by kernel_rfl) ?Q6 (fun a=>rfl) ?Q9 (by kernel_rfl) (fun a v=>by kernel_rfl) (fun a=>by kernel_rfl) (fun a=>by kernel_rfl) (fun a v z=>zE (β:=abk b a.1 a.2) ?Ef) (by kernel_rfl)
  ·exact⟨ba 0,ew _,o.le (by show 1+(10-0)<=_;omega)⟩
  ·rintro⟨i,t⟩ ⟨g,p,n⟩;simp only at g p n;unfold zy;by_cases d:decide (i<(b.length:Int))=true
   ·rw[if_pos d];rw[bk]at d;have w:IntKind.wrap .i64 (i+1)=i+1:=wrap64 (by omega) (by omega);dsimp only;rw[w];obtain⟨B,q⟩:=u i g d;refine⟨⟨by show 0<=i+1;omega,by show i+1<=_;omega,?_⟩,by show b.length-(i+1).toNat<b.length-i.toNat;omega⟩;exact cJ.pQ (n.le (by show 1+(10-(i+1).toNat)+1<=_;omega)) (by omega) q
   ·rw[if_neg d];trivial
  ·obtain⟨i,t⟩:=a;obtain⟨g,p,n⟩:=v;simp only at g p n;refine⟨fun d=> ?_,trivial⟩;rw[bk]at d;obtain⟨B,q⟩:=u i g d;refine⟨fun _=> ?_,fun _=>⟨n.le (by omega),by show 0<=(b.getD i.toNat .top).q;omega,q⟩,trivial⟩;rw[aS,bk,bk];exact⟨g,d⟩
 ·(repeat' (first|exact trivial|apply And.intro|intro _))
  all_goals first
   |rfl
   |(refine cJ.alike h (by omega) ?_;exact fH)
   |(refine iY (k:=20) (cJ.alike h (by omega) ?_);exact fH)
   |(rename_i r _;simp only[aS,bk]at r;exact r.2)
def XC:bj Try.prog 15 s15 (pre 15) (cz 15):=by refine hP (given:=[(6,{boxes:=ya})]) mix TJ Try.func15 rfl (by kernel_rfl) (v:=Uk) (by kernel_rfl) ?_;intro g h f;obtain⟨_,_,rfl,⟨x,rfl,d⟩,c⟩:=ag.1 h;have e:=c;obtain⟨s,rfl⟩:=fW c;refine zL PB Ei (.top,dK) (fun _ _ l=>(let b:=(eZ ({s with wait:=0}:RS));let a:=(gN (aJ 2 b []) ({s with wait:=0}:RS));rC a (l.getD 0 .top).q (qS (l.drop 1)))) (y:=jW x s) (zE (Qm x s d e f))
def TK:jg Try.prog pre cz UG:=aO XC TJ
def Jy{x:D}{s:RS}(h:Bd x s=0):(cD 0 x).q=2->fB (.agg [cD 25 x,cD 26 x])=true:=by
 intro c;unfold Bd at h;split at h
 ·cases h
 ·split at h
  ·cases h
  ·split at h
   ·rename_i b;rw[c]at b;cases b
   ·dsimp only at h;split at h
    ·cases h
    ·split at h
     ·cases h
     ·rename_i a;rw[ff,Bool.not_eq_false]at a;unfold JD F9 at a;simp only[aS]at a;exact a.1.2
noncomputable def Mb:VC:=nt Try.prog UG [(8,{boxes:=ya}),(10,{drop:=[4006011]})] s16 Try.f16
attribute [irreducible] Mb
def aeD(x:D)(s:RS):Prop:=
 ((true=true->Ok s 0))∧(
 let c:=(Bd (aJ 27 x []) s)
 (True)∧(((c !=0)=false->
  ((true=true->Ok s 1))∧(
  let kj:=pw (aJ 27 x []) s
  (True)∧(((kj.1.2 !=0)=false->
   ((true=true->Ok kj.2 0))∧(
   let a:=(eZ kj.2)
   ((true=true->Ok kj.2 0∧fB (aJ 2 a [])=true))∧(
   let b:=(gN (aJ 2 a []) kj.2)
   VC.Ea cz pre CY (fun _ _ l=>oH kj b (l.getD 0 .top).q (qS (l.drop 1))) [] (VC.lp 82 Mb) (fD (fD (fD (fD (fun i=>([x] ++encS s).getD i .top) 61 (D.int .i64 c)) 67 (Je kj)) 78 (a)) 79 (D.list b))))))))))
def abj(kj:(D×Int)×RS)(b:Taf)(a:Int)(c:RS):Prop:=
 ((decide (a<((b:Taf).length:Int))=true->
  (true=true->((decide (0<=a))&&(decide (a<((b:Taf).length:Int))))=true)∧(
  (((((((b).getD (a:Int).toNat .top)).q)==0)=true->
   (((c.wq==((cD 0 kj.1.1).q))=true->
    ((true=true->Ok c 1∧(0:Int)<=0∧(0:Int)<=5))∧(
    True)))∧(True)))∧(((((((b).getD (a:Int).toNat .top)).q)==0)=false->
   (((((((b).getD (a:Int).toNat .top)).q)==1)=true->
    (((c.uM==((cD 0 kj.1.1).q))=true->
     ((true=true->Ok c 1∧(0:Int)<=1∧(1:Int)<=5))∧(
     True)))∧(True)))∧(((((((b).getD (a:Int).toNat .top)).q)==1)=false->
    (((((((b).getD (a:Int).toNat .top)).q)==2)=true->
     (((c.uL==((cD 0 kj.1.1).q))=true->
      ((true=true->Ok c 1∧(0:Int)<=2∧(2:Int)<=5))∧(
      True)))∧(True)))∧(((((((b).getD (a:Int).toNat .top)).q)==2)=false->
     (((((((b).getD (a:Int).toNat .top)).q)==3)=true->
      (((c.uK==((cD 0 kj.1.1).q))=true->
       ((true=true->Ok c 1∧(0:Int)<=3∧(3:Int)<=5))∧(
       True)))∧(True)))∧(((((((b).getD (a:Int).toNat .top)).q)==3)=false->
      (((((((b).getD (a:Int).toNat .top)).q)==4)=true->
       (((c.uJ==((cD 0 kj.1.1).q))=true->
        ((true=true->Ok c 1∧(0:Int)<=4∧(4:Int)<=5))∧(
        True)))∧(True)))∧(((((((b).getD (a:Int).toNat .top)).q)==4)=false->
       (((((((b).getD (a:Int).toNat .top)).q)==5)=true->
        (((c.uI==((cD 0 kj.1.1).q))=true->
         ((true=true->Ok c 1∧(0:Int)<=5∧(5:Int)<=5))∧(
         True)))∧(True)))∧(((((((b).getD (a:Int).toNat .top)).q)==5)=false->
        False)))))))))))))))∧((decide (a<((b:Taf).length:Int))=false->
  ((true=true->Ok c 1))∧(
  True)))
def Ql(x:D)(s:RS)(J:dn (.V eR) (encS s))(h:Ok s 20):aeD x s:=by
 refine⟨fun _=>h.le (by omega),?_⟩;intro o;have p:o=Bd (aJ 27 x []) s:=rfl
 clear_value o
 refine⟨trivial,fun F=>⟨fun _=>h.le (by omega),?_⟩⟩;intro kj;have u:Ok kj.2 12:=cJ.put (k:=12) (h.le (by omega)) (Jy (s:=s) (by rw[<-p];simpa using F))
 clear_value kj
 refine⟨trivial,fun K=>⟨fun _=>u.le (by omega),?_⟩⟩;intro m;have r:fB (aJ 2 m [])=true:=iY u
 clear_value m
 refine⟨fun _=>⟨u.le (by omega),r⟩,?_⟩;intro b;have j:=iL (c:=aJ 2 m []) (s:=kj.2) r;change b.length<=10∧ ∀y∈b,1<=y.q∧y.q<=5 at j
 clear_value b
 obtain⟨L,I⟩:=j
 have A: ∀i:Int,0<=i->i<b.length->1<=(b.getD i.toNat .top).q∧(b.getD i.toNat .top).q<=5:=by
  intro i M n;have q:i.toNat<b.length:=by omega
  rw[aj,aQ q];exact I _ (aF q)
 refine VC.jn 82 (by kernel_rfl) ?_;refine VC.ia (Φ:=cz) (Pre:=pre) (triv:=triv) (v0:=82) (decL:=fun l=>((l.getD 0 .top).q,qS (l.drop 1))) (encL:=fun a:Int×RS=>([D.int .i64 a.1] ++Gf a.2)) (dec:=N3) (enc:=CY) (lp:=fun _ _ _ _=>((.top,0,.top),dK)) (bad:=.inr ((.top,0,.top),dK)) (bd:=((.top,0,.top),dK)) (by kernel_rfl) (fun a:Int×RS=>oG kj b a.1 a.2) (fun a:Int×RS=>0<=a.1∧a.1<=b.length∧Ok a.2 (1+(10-a.1.toNat))) (fun a:Int×RS=>xz kj b a.1 a.2) (0,kj.2) kA (by kernel_rfl) ?Q6 (fun a=>rfl) ?Q9 (by kernel_rfl) (fun a B=>by kernel_rfl) (fun a=>by kernel_rfl) (fun a=>by kernel_rfl) (fun a B H=>zE (β:=abj kj b a.1 a.2) ?Ef) (by kernel_rfl)
 ·exact⟨ba 0,ew _,u.le (by show 1+(10-0)<=_;omega)⟩
 ·rintro⟨i,t⟩ ⟨n,z,f⟩;simp only at n z f;unfold oG;by_cases e:decide (i<(b.length:Int))=true
  ·rw[if_pos e];rw[bk]at e;have G:IntKind.wrap .i64 (i+1)=i+1:=wrap64 (by omega) (by omega);dsimp only;rw[G];obtain⟨E,C⟩:=A i n e;have w:(b.getD i.toNat .top).q=1∨(b.getD i.toNat .top).q=2∨(b.getD i.toNat .top).q=3∨(b.getD i.toNat .top).q=4∨(b.getD i.toNat .top).q=5:=by omega
   rcases w with d|d|d|d|d
   ·rw[if_neg (by rw[d];decide),if_pos (by rw[d];rfl)];by_cases g:(t.uM==((cD 0 kj.1.1).q))=true
    ·rw[if_pos g];refine⟨⟨by show 0<=i+1;omega,by show i+1<=_;omega,?_⟩,by show b.length-(i+1).toNat<b.length-i.toNat;omega⟩;show Ok (eL 1 t) (1+(10-(i+1).toNat));exact cJ.pQ (f.le (by show 1+(10-(i+1).toNat)+1<=_;omega)) (by decide) (by decide)
    ·rw[if_neg g];exact⟨⟨by show 0<=i+1;omega,by show i+1<=_;omega,f.le (by show 1+(10-(i+1).toNat)<=_;omega)⟩,by show b.length-(i+1).toNat<b.length-i.toNat;omega⟩
   ·rw[if_neg (by rw[d];decide),if_neg (by rw[d];decide),if_pos (by rw[d];rfl)];by_cases g:(t.uL==((cD 0 kj.1.1).q))=true
    ·rw[if_pos g];refine⟨⟨by show 0<=i+1;omega,by show i+1<=_;omega,?_⟩,by show b.length-(i+1).toNat<b.length-i.toNat;omega⟩;show Ok (eL 2 t) (1+(10-(i+1).toNat));exact cJ.pQ (f.le (by show 1+(10-(i+1).toNat)+1<=_;omega)) (by decide) (by decide)
    ·rw[if_neg g];exact⟨⟨by show 0<=i+1;omega,by show i+1<=_;omega,f.le (by show 1+(10-(i+1).toNat)<=_;omega)⟩,by show b.length-(i+1).toNat<b.length-i.toNat;omega⟩
   ·rw[if_neg (by rw[d];decide),if_neg (by rw[d];decide),if_neg (by rw[d];decide),if_pos (by rw[d];rfl)];by_cases g:(t.uK==((cD 0 kj.1.1).q))=true
    ·rw[if_pos g];refine⟨⟨by show 0<=i+1;omega,by show i+1<=_;omega,?_⟩,by show b.length-(i+1).toNat<b.length-i.toNat;omega⟩;show Ok (eL 3 t) (1+(10-(i+1).toNat));exact cJ.pQ (f.le (by show 1+(10-(i+1).toNat)+1<=_;omega)) (by decide) (by decide)
    ·rw[if_neg g];exact⟨⟨by show 0<=i+1;omega,by show i+1<=_;omega,f.le (by show 1+(10-(i+1).toNat)<=_;omega)⟩,by show b.length-(i+1).toNat<b.length-i.toNat;omega⟩
   ·rw[if_neg (by rw[d];decide),if_neg (by rw[d];decide),if_neg (by rw[d];decide),if_neg (by rw[d];decide),if_pos (by rw[d];rfl)];by_cases g:(t.uJ==((cD 0 kj.1.1).q))=true
    ·rw[if_pos g];refine⟨⟨by show 0<=i+1;omega,by show i+1<=_;omega,?_⟩,by show b.length-(i+1).toNat<b.length-i.toNat;omega⟩;show Ok (eL 4 t) (1+(10-(i+1).toNat));exact cJ.pQ (f.le (by show 1+(10-(i+1).toNat)+1<=_;omega)) (by decide) (by decide)
    ·rw[if_neg g];exact⟨⟨by show 0<=i+1;omega,by show i+1<=_;omega,f.le (by show 1+(10-(i+1).toNat)<=_;omega)⟩,by show b.length-(i+1).toNat<b.length-i.toNat;omega⟩
   ·rw[if_neg (by rw[d];decide),if_neg (by rw[d];decide),if_neg (by rw[d];decide),if_neg (by rw[d];decide),if_neg (by rw[d];decide),if_pos (by rw[d];rfl)];by_cases g:(t.uI==((cD 0 kj.1.1).q))=true
    ·rw[if_pos g];refine⟨⟨by show 0<=i+1;omega,by show i+1<=_;omega,?_⟩,by show b.length-(i+1).toNat<b.length-i.toNat;omega⟩;show Ok (eL 5 t) (1+(10-(i+1).toNat));exact cJ.pQ (f.le (by show 1+(10-(i+1).toNat)+1<=_;omega)) (by decide) (by decide)
    ·rw[if_neg g];exact⟨⟨by show 0<=i+1;omega,by show i+1<=_;omega,f.le (by show 1+(10-(i+1).toNat)<=_;omega)⟩,by show b.length-(i+1).toNat<b.length-i.toNat;omega⟩
  ·rw[if_neg e];trivial
 ·obtain⟨i,t⟩:=a;obtain⟨n,z,f⟩:=B;simp only at n z f;refine⟨fun e=> ?_,fun _=>⟨fun _=>f.le (by omega),trivial⟩⟩;rw[bk]at e;obtain⟨E,C⟩:=A i n e;refine⟨fun _=>by rw[aS,bk,bk];exact⟨n,e⟩,?_⟩;generalize (b.getD i.toNat .top).q=v at E C⊢
  (repeat' (first|exact trivial|apply And.intro|intro _))
  all_goals first
   |exact f.le (by omega)
   |decide
   |(simp only[beq_eq_false_iff_ne,ne_eq]at*;omega)
def c16:bj Try.prog 16 s16 (fun a=>Ok (ic (a.drop 1)) 20) (fun a=>CY (dT (a.getD 0 .top) (ic (a.drop 1)))):=by refine hP (given:=[(8,{boxes:=ya}),(10,{drop:=[4006011]})]) mix TK Try.func16 rfl (by kernel_rfl) (v:=Mb) (by kernel_rfl) ?_;intro a h g;obtain⟨x,_,rfl,i,d⟩:=ag.1 h;have f:=d;obtain⟨s,rfl⟩:=fW d;refine zL N3 CY ((.top,0,.top),dK) (fun _ _ l=>(let e:=(Bd (aJ 27 x []) s);let kj:=pw (aJ 27 x []) s;let c:=(eZ kj.2);let b:=(gN (aJ 2 c []) kj.2);oH kj b (l.getD 0 .top).q (qS (l.drop 1)))) (y:=dT x s) (zE (Ql x s f g))
variable{C M K:Nat}{N:Int}{z s t:RS}{x:D}
def Good(C M K:Nat)(N:Int)(z:RS)(y:D×RS):Prop:= ∃t,Inv z N t∧cJ C M t K∧y=((cq t).1,(cq t).2)
def Good.done(h:Inv z N t)(k:cJ C M t K):Good C M K N z (aJ 8 (cq t).1 [],(cq t).2):=⟨t,h,k,rfl⟩
def Good.ite{c:Prop}[Decidable c]{a b:D×RS}(e:c->Good C M K N z a)(d: ¬c->Good C M K N z b):Good C M K N z (if c then a else b):=by
 split
 ·exact e (by assumption)
 ·exact d (by assumption)
def Good.mono{y:D×RS}{d:Int}{e:Nat}(h:Good C M K N z y)(f:N<=d)(g:e<=K):Good C M e d z y:=let ⟨t,a,b,c⟩:=h;⟨t,a.mono f,b.le g,c⟩
def Bs.inv(h:Bs N s)(i:Idle s):Inv s N s:=
 ⟨h,.inl ⟨i.snap,rfl,rfl,rfl,rfl,rfl,(by rw[i.Kc];rfl)⟩,fun _=>⟨i.Kc,i.snap,rfl,rfl⟩,(by rw[i.msgs];intro m a;cases a),(by rw[i.F2];intro m a;cases a)⟩
def Inv.after(h:Inv z N t):Bs N (cq t).2:=⟨h.hd,h.zz,h.F2,h.gz,h.O8,h.Pb,h.qP,h.top,h.pos⟩
def QF{l:Taf}{n:Nat}(h:l.length=n):aJ n (.agg l) [] = .agg l:=by
 unfold aJ;congr 1;refine fc fun j=> ?_;rw[ab];by_cases a:j<n
 ·rw[dp a];show some (l.getD j .top)=l[j]?;rw[aj,aQ (by omega)];rfl
 ·rw[eJ (by rw[fM];omega),eJ (by omega)];rfl
def K7{x:Int}(h:Bs N s)(i:Idle s)(k:cJ C M s (K+13)):Good C M K (N+1) s (jW x s):=by
 have f:=h.inv i;have l:N<=N+1:=by omega
 unfold jW;dsimp only;have o: ∀t:RS,Inv s N t->wB s t->Good C M K (N+1) s (aJ 8 (cq t).1 [],(cq t).2):=fun t b e=>.done (b.mono l) ((k.same e).le (by omega));have d: ∀t:RS,Inv s N t->wB s t->t.fC= .gI->t.term<1099511627776->Good C M K (N+1) s (aJ 8 (cq (nG (aJ 2 (eZ t) []) t)).1 [],(cq (nG (aJ 2 (eZ t) []) t)).2):=fun t b e p j=>.done (b.Me (k.same e) (iY (k.same e)) j p) ((k.same e).Me (iY (k.same e)) j)
 have a:Good C M K (N+1) s (rC (gN (aJ 2 (eZ ({s with wait:=0}:RS)) []) ({s with wait:=0}:RS)) 0 ({s with wait:=0}:RS)):=by have m:cJ C M ({s with wait:=0}:RS) (K+13):=k.same fH;exact Cb (K:=K) (Q:=fun t:D×RS=>Good C M K (N+1) s t) (iL (c:=aJ 2 (eZ _) []) (iY m)) (fun _ _=>rfl) (fun _ _=>rfl) ⟨f.same,m.le (by omega)⟩ (fun t b n=>.done (b.mono l) n)
 generalize rC (gN (aJ 2 (eZ ({s with wait:=0}:RS)) []) ({s with wait:=0}:RS)) 0 ({s with wait:=0}:RS)=L at a⊢
 repeat' (first|exact a|with_reducible refine Good.ite (fun g=> ?_) (fun _=> ?_))
 all_goals first
  |((with_reducible refine o _ ?_ ?_);exact f.same;exact fH)
  |(simp only[aS,bk]at g;(with_reducible refine d _ ?_ ?_ ?_ g.2);exact f.same;exact fH;exact i.snap)
def K8(h:Bs N s)(i:Idle s)(k:cJ C M s (K+28))(o:mr N x)(Q:Has hH x):Good C M K (N+1) s (jy x s):=by
 have q:=h.inv i;have c:N<=N+1:=by omega
 have W:=o.n8;unfold jy;dsimp only;refine Good.ite (fun _=>.done (q.mono c) (k.le (by omega))) (fun d=> ?_);have A:eI (cD 12 x).A=true:=vC d
 have r:(cD 5 x).q<=(cD 3 x).q∧(decide (((cD 12 x).A.length:Int)>0)&&decide ((cD 1 ((cD 12 x).A.getD (i64.wrap (((cD 12 x).A.length:Int)-1)).toNat .top)).q>(cD 3 x).q))=false:=by simp only[Bool.not_eq_true,Bool.or_eq_false_iff]at d;exact⟨by have:=d.1.1;simpa using this,d.1.2⟩
 refine Good.ite (fun _=>.done (q.mono c) (k.le (by omega))) (fun m=> ?_)
 have O:na (cD 1 x).q 1 5=true∧na (cD 3 x).q 1 1099511627776=true:=by simp only[Bool.not_eq_true,Bool.or_eq_false_iff,Bool.not_eq_false',aS]at m;exact⟨m.1.1.1.2,m.1.1.2⟩
 obtain⟨w,v⟩:=O;simp only[na,aS,bk]at w v;have D:0<=(cD 1 (aJ 46 x [])).q:=by show 0<=(cD 1 x).q;omega
 have F:(cD 1 (aJ 46 x [])).q<=5:=w.2
 have G:Has hH (aJ 46 x []):=by
  obtain⟨l,rfl,T⟩:=dQ.1 Q;have L:l.length=46:=by rw[fU T,Ty.dq];rfl
  rw[QF L];exact Q
 have I:mr N (aJ 46 x []):=⟨o.n8,o.qW,o.snp,o.pos⟩
 have g: ∀t:RS,Inv s N t->cJ C M t (K+28)->t.fC= .gI->t.dW=[] -> ¬(cD 3 x).q<t.term-> ¬(cD 3 x).q>t.term->
   ∀f:RS->RS,(f=uU (aJ 46 x [])∨f=pY (aJ 46 x [])∨f=mQ (aJ 46 x [])∨f=jR (aJ 46 x [])∨(f=uV (aJ 46 x [])∧((cD 0 x).q==5)=true)∨f=lq (aJ 46 x [])∨f=id)->Good C M K (N+1) s (aJ 8 (cq (f t)).1 [],(cq (f t)).2):=by
  intro t j b H R Y X f E;have V:(cD 3 x).q=t.term:=by omega
  have B:(cD 5 x).q<=t.term:=by omega
  rcases E with rfl|rfl|rfl|rfl|⟨rfl,P⟩|rfl|rfl
  ·exact .done ((j.vote D (by simp only[MX];omega)).mono c) (cJ.vote (b.le (by omega)))
  ·exact .done (j.Ma (b.le (by omega:K+13<=K+28)) H) (cJ.Ma (b.le (by omega)))
  ·refine .done ((j.append (x:=aJ 46 x []) (K:=K) (b.le (by show K+3+(cD 12 x).A.length<=_;omega)) A I H R (fun p S=> ?_) B).mono c) (cJ.append (x:=aJ 46 x []) (b.le (by show K+3+(cD 12 x).A.length<=_;omega)) A);have:=r.2;rw[V]at this;exact K1 this (by omega) S
  ·exact .done ((j.appended (b.le (by omega:K+2<=K+28)) D F).mono c) (cJ.appended (b.le (by omega)) D F)
  ·exact .done ((j.snap (x:=aJ 46 x []) b H R B (o.snp (eq_of_beq P)) G).mono c) (cJ.snap (b.le (by omega)))
  ·exact .done ((j.C7 (b.le (by omega:K+2<=K+28)) D F).mono c) (cJ.C7 (b.le (by omega)) D F)
  ·exact .done (j.mono c) (b.le (by omega))
 have E:cJ C M (gy (cD 3 x).q 0 s) (K+28):=k.follow (by omega) v.2;have u:Inv s N (gy (cD 3 x).q 0 s):=q.follow
 have y:(gy (cD 3 x).q 0 s).fC= .gI∧(gy (cD 3 x).q 0 s).dW=[] :=by
  unfold gy;split
  ·exact⟨i.snap,i.Kc⟩
  ·exact⟨i.snap,i.Kc⟩
 refine Good.ite (fun n=> ?_) (fun n=> ?_)
 ·have U:(gy (cD 3 x).q 0 s).term=(cD 3 x).q:=by unfold gy;rw[if_pos n];rfl
  have a:=g _ u E y.1 y.2 (by omega) (by omega);refine Good.ite (fun _=>.done (u.refuse.mono c) (cJ.refuse (E.le (by omega)))) fun _=> ?_;refine Good.ite (fun _=>a _ (.inl rfl)) fun _=>Good.ite (fun _=>a _ (.inr (.inl rfl))) fun _=>Good.ite (fun _=>a _ (.inr (.inr (.inl rfl)))) fun _=>Good.ite (fun _=>a _ (.inr (.inr (.inr (.inl rfl))))) fun _=>Good.ite (fun e=>a _ (.inr (.inr (.inr (.inr (.inl ⟨rfl,e⟩)))))) fun _=>Good.ite (fun _=>a _ (.inr (.inr (.inr (.inr (.inr (.inl rfl))))))) fun _=>a _ (.inr (.inr (.inr (.inr (.inr (.inr rfl))))))
 ·refine Good.ite (fun _=>.done (q.refuse.mono c) (cJ.refuse (k.le (by omega)))) fun J=> ?_;have a:=g _ q k i.snap i.Kc (by simpa using J) (by simpa using n);refine Good.ite (fun _=>a _ (.inl rfl)) fun _=>Good.ite (fun _=>a _ (.inr (.inl rfl))) fun _=>Good.ite (fun _=>a _ (.inr (.inr (.inl rfl)))) fun _=>Good.ite (fun _=>a _ (.inr (.inr (.inr (.inl rfl))))) fun _=>Good.ite (fun e=>a _ (.inr (.inr (.inr (.inr (.inl ⟨rfl,e⟩)))))) fun _=>Good.ite (fun _=>a _ (.inr (.inr (.inr (.inr (.inr (.inl rfl))))))) fun _=>a _ (.inr (.inr (.inr (.inr (.inr (.inr rfl))))))
def K9(h:Bs N s)(i:Idle s)(k:cJ C M s (K+20)):Good C M K (N+1) s ((dT x s).1.2.2,(dT x s).2):=by
 have B:=h.inv i;have L:N<=N+1:=by omega
 unfold dT;dsimp only;by_cases v:(Bd (aJ 27 x []) s !=0)=true
 ·rw[if_pos v];exact .done (B.mono L) (k.le (by omega))
 rw[if_neg v];have u:Bd (aJ 27 x []) s=0:=by simpa using v
 have q:cJ C M (pw (aJ 27 x []) s).2 (K+19):=k.put (Jy u);have w:Inv s (N+1) (pw (aJ 27 x []) s).2:=B.put k i.snap;by_cases g:((pw (aJ 27 x []) s).1.2 !=0)=true
 ·rw[if_pos g];exact .done w (q.le (by omega))
 rw[if_neg g];have d:=iL (c:=aJ 2 (eZ (pw (aJ 27 x []) s).2) []) (s:=(pw (aJ 27 x []) s).2) (iY q);generalize pw (aJ 27 x []) s=kj at q w d;generalize gN (aJ 2 (eZ kj.2) []) kj.2=l at d;obtain⟨Q,G⟩:=d;unfold oH;refine ib (fun a:Int×RS=>0<=a.1∧a.1<=l.length∧Inv s (N+1) a.2∧cJ C M a.2 (K+1+(10-a.1.toNat))) (fun y:(D×Int×D)×RS=>Good C M K (N+1) s (y.1.2.2,y.2)) (fun a=>l.length-a.1.toNat) ?_ _ _ ⟨ba 0,ew _,w,q.le (by show K+1+(10-0)<=_;omega)⟩ (cY _);intro a J;revert J;generalize a.2=t;generalize a.1=j;rintro⟨S,R,r,f⟩;unfold oG;dsimp only;by_cases e:decide (j<(l.length:Int))=true
 ·rw[if_pos e];rw[bk]at e;have m:j.toNat<l.length:=by omega
  have F:=G _ (aF m);have I:l.getD j.toNat .top=l[j.toNat] :=by rw[aj,aQ m];rfl
  rw[I,wrap64 (by omega) (by omega)];generalize (l[j.toNat]).q=n at F;have E:l.length-(j+1).toNat<l.length-j.toNat:=by omega
  have O:cJ C M t (K+1+(10-(j+1).toNat)):=f.le (by omega);have p: ∀n,1<=n->n<=5->(0<=j+1∧j+1<=(l.length:Int)∧Inv s (N+1) (eL n t)∧cJ C M (eL n t) (K+1+(10-(j+1).toNat)))∧l.length-(j+1).toNat<l.length-j.toNat:=fun n P A=>⟨⟨by omega,by omega,r.pQ f (by omega) A,cJ.pQ (f.le (by omega)) (by omega) A⟩,E⟩;have o:(0<=j+1∧j+1<=(l.length:Int)∧Inv s (N+1) t∧cJ C M t (K+1+(10-(j+1).toNat)))∧l.length-(j+1).toNat<l.length-j.toNat:=⟨⟨by omega,by omega,r,O⟩,E⟩;have H:n=1∨n=2∨n=3∨n=4∨n=5:=by omega
  rcases H with rfl|rfl|rfl|rfl|rfl<;>(repeat (first|rw[if_pos (by decide)] |rw[if_neg (by decide)]))
  all_goals first
   |(by_cases b:(t.uM==(cD 0 kj.1.1).q)=true
     ·rw[if_pos b];exact p 1 (by decide) (by decide)
     ·rw[if_neg b];exact o)
   |(by_cases b:(t.uL==(cD 0 kj.1.1).q)=true
     ·rw[if_pos b];exact p 2 (by decide) (by decide)
     ·rw[if_neg b];exact o)
   |(by_cases b:(t.uK==(cD 0 kj.1.1).q)=true
     ·rw[if_pos b];exact p 3 (by decide) (by decide)
     ·rw[if_neg b];exact o)
   |(by_cases b:(t.uJ==(cD 0 kj.1.1).q)=true
     ·rw[if_pos b];exact p 4 (by decide) (by decide)
     ·rw[if_neg b];exact o)
   |(by_cases b:(t.uI==(cD 0 kj.1.1).q)=true
     ·rw[if_pos b];exact p 5 (by decide) (by decide)
     ·rw[if_neg b];exact o)
 ·rw[if_neg e];exact .done (r.agree (f.le (by omega:K+1<=_))) (cJ.agree (f.le (by omega)))
end Go.Proofs.Ytjhmkaninmgilaa
namespace Go.dI
open Go Go.RowKit
section
variable{P:Tap}{a:Act}{w:Tam}{dst:Tak}{ty:Tba}{pos:String}{af:Tbd Edge}{gd:Tao (Nat×Bool)}
def Jp(a:Act)(d t:Nat)(v:Tan):(a.put (some d) v).tmps[t]? =if d=t then(if d<a.tmps.size then some v else none) else a.tmps[t]? :=by simp only[Act.put,Array.getElem?_setIfInBounds]
def Oo{a:Act}{d n:Nat}{v:Tan}(h:a.tmps.size=n)(b:d<n):(a.put (some d) v).tmps[d]? =some v:=by rw[Jp,if_pos rfl,if_pos (by omega)]
def KA{a:Act}{d t:Nat}{v:Tan}(h:d≠t):(a.put (some d) v).tmps[t]? =a.tmps[t]? :=by rw[Jp,if_neg h]
def OT{a:Act}{t:Nat}{v:Tan}(h:a.tmps[t]? =some v):a.eval (.tmp t)=v:=by simp[Act.eval,h]
def AV{t:Tba}{f off b o:Nat}{x:Tbb}(h:(lh P t f).map (fun y=>(y.1.offset,decide (0<y.2)))=some (off,true))(c:a.eval x= .pointer (some ⟨b,o,none⟩)):
  (execOp a.eval ⟨dst,.fieldAddr t x f,ty,pos,af,gd⟩).run P w= .ok (.value (.pointer (some ⟨b,o+off,none⟩))) w:=by
 cases hf:lh P t f with
 |none=>rw[hf]at h;cases h
 |some y=>
  obtain⟨fl,n⟩:=y;rw[hf]at h;simp only[aP,aa,ae,bk]at h;obtain⟨rfl,d⟩:=h;obtain⟨n,rfl⟩: ∃m,n=m+1:=⟨n-1,by omega⟩;unfold execOp;simp only[c];rw[bg,kO hf b o];rfl
def IC{t:Tba}{x:Tbb}{b:Addr}{v:Tan}(f:iR P t=false)(d:(P.underlying t).isSome=true)(c:a.eval x= .pointer (some b))(e:w.cell? b=some v):
  (execOp a.eval ⟨dst,.load t x,ty,pos,af,gd⟩).run P w= .ok (.value v) w:=by unfold execOp;simp only[c];rw[bg,mU f d e];rfl
def IB{t:Tba}{x:Tbb}{b off n:Nat}{vs:Tac}(d:iv P t=some n)(g:iR P t=true)(c:a.eval x= .pointer (some ⟨b,off,none⟩))(e:vs.length=n)(f: ∀(j:Nat) v,vs[j]? =some v->w.cell? ⟨b,off+j,none⟩=some v):
  (execOp a.eval ⟨dst,.load t x,ty,pos,af,gd⟩).run P w= .ok (.value (.agg vs.toArray)) w:=by unfold execOp;simp only[c];rw[bg,jN d g e f];rfl
def Lf{x:Tbb}:(execOp a.eval ⟨dst,.move x,ty,pos,af,gd⟩).run P w= .ok (.value (a.eval x)) w:=by unfold execOp;rfl
def FN{x:Tbb}:(execOp a.eval ⟨dst,.assign x,ty,pos,af,gd⟩).run P w= .ok (.value (a.eval x)) w:=by unfold execOp;rfl
def IA{t:Tba}{x y:Tbb}{b off:Nat}{cur:Tbd Tan}{T:Tba}{vs:Tac}(j:iv P t=some vs.length)(h:a.eval x= .pointer (some ⟨b,off,none⟩))(g:(a.eval y).cells=vs.toArray)(e:w.heap[b]? =some (.cells cur T (0,0)))(f:off+vs.length<=cur.size)(d: ∀v∈vs,v.oneCell'=true):
  (execOp a.eval ⟨dst,.store t x y,ty,pos,af,gd⟩).run P w= .ok .skip (w.setRow b (cur.toList.take off++vs++cur.toList.drop (off+vs.length)).toArray):=by have c:=run_storeCells_at P b off T vs 0 cur w e (by omega) d;simp only[dM]at c;have k:=gZ (P:=P) (w:=w) j;unfold execOp;simp only[h,Instr.storeAt,Instr.sureAddr];simp[storeVar,k,g];simp at c;rw[c];rfl
def OS{t t2:Tba}{x y:Tbb}{k:IntKind}{m n:Int}(c:a.eval x= .int k m)(b:a.eval y= .int k n):(execOp a.eval ⟨dst,.binOp .add t x y t2,ty,pos,af,gd⟩).run P w= .ok (.value (.int k (k.wrap (m+n)))) w:=by unfold execOp;simp[c,b,eqGuard,binOp,Op.intArith]
def OR{t el:Tba}{x:Tbb}{A:Tao Addr}{n c:Nat}(d:P.underlying t=some (.slice el))(b:a.eval x= .slice A n c):(execOp a.eval ⟨dst,.call {callee:=.builtin .len,args:= #[x],argTypes:= #[t]},ty,pos,af,gd⟩).run P w= .ok (.value (.int .i64 n)) w:=by unfold execOp;simp only[resolve,invoke,builtin];simp[Builtin.len_,b,run_underlying d,goInt]
def ID{t:Tba}{n:Nat}(h:((P.info? t).bind (·.zero)).map (fun z=>z.cells.size)=some n):
  ∃b:Tbd Tan,b.size=n∧(execOp a.eval ⟨dst,.alloc t,ty,pos,af,gd⟩).run P w= .ok (.value (.pointer (some ⟨w.heap.size,0,none⟩))) (w.alloc (.cells b t)):=by
 cases hi:P.info? t with
 |none=>rw[hi]at h;cases h
 |some it=>
  cases hz:it.zero with
  |none=>rw[hi]at h;simp[hz]at h
  |some z=>
   rw[hi]at h;simp[hz]at h;refine⟨z.cells,h,?_⟩;unfold execOp;simp only[Instr.alloc];simp[zeroValue,typeInfo,hi,hz,newVar,newRow]
def OQ{t:Tba}{x:Tbb}{b:Bool}(c:a.eval x= .bool b):(execOp a.eval ⟨dst,.unOp .not t x,ty,pos,af,gd⟩).run P w= .ok (.value (.bool (!b))) w:=by unfold execOp;simp[c,Op.unary]
def Lh{k:Nat}{args:Tbd Tbb}{ts:Tbd Tba}{vs:Tac}(c: ∀(args:Tbd Tan) (w:Tam),(callFunc k args).run P w= .ok (.enter k args) w)(b:args.map a.eval=vs.toArray):
  (execOp a.eval ⟨dst,.call {callee:=.value (.func k),args,argTypes:=ts},ty,pos,af,gd⟩).run P w= .ok (.enter k vs.toArray) w:=by unfold execOp;have:=c vs.toArray w;simpa [resolve,Act.eval,Deferred.ofValue,invoke,b]using this
variable{ops:Tad}{Q:HP}{rest:Tah}{i:Nat}{o:Tbc}
variable{S:Tae}{fuel:Nat}{lJ:Tbd Bool}
end
def yX(id:Nat):Code->Tad
 |.region i ops _=>if i=id then ops else #[]
 |.seq a b| .cond _ a b=>if(yX id a).size=0 then yX id b else yX id a
 |.block _ c| .loop c| .scope c=>yX id c
 |_=> #[]
def An{l:Tac}{off:Nat}{v:Tan}(h:off<l.length):l.take off++[v] ++l.drop (off+1)=l.set off v:=by rw[List.set_eq_take_append_cons_drop,if_pos h];simp
section
variable{P:Tap}{ops:Tad}{Q:HP}{S:Tae}
def nD(P:Tap)(ops:Tad)(Q:HP)(S:Tae)(L:Nat):Nat->Tbd Bool->Act->Tae
 |0,lJ,a,w=>Region.ready .any ops lJ=[] ∧Q .normal a w
 |fuel+1,lJ,a,w=>
  (Region.ready .any ops lJ=[] ->Q .normal a w)∧
  ∀i∈Region.ready .any ops lJ,wpOp P ops Q i (fun c b=>(i≠L->S b)∧nD P ops Q S L fuel (lJ.setIfInBounds i true) c b) a w
def nL{L:Nat}: ∀(c:Nat) (b:Tbd Bool) (a:Act) (w:Tam),nD P ops Q S L c b a w->wpAny P .any ops Q c b a w
 |0,_,_,_,h=>h
 |c+1,_,_,_,h=>⟨h.1,fun i e=>wpOp_mono (fun g d f=>nL c _ g d f.2) (h.2 i e)⟩
def qt{L i:Nat}{t:Tbc}{v:Tan}(hi:ops[i]? =some t)(X:i≠L)(Z: ∀oL,ops[L]? =some oL-> ∃e∈oL.after,Region.binds .any e=true∧e.on=i)(r: ∀(j:Nat) (o:Tbc) C b,ops[j]? =some o->o.op≠ .select C b)(Y: ∀c a w,Q (.panic c) (a.put t.dst v) w->Q (.panic c) a w):
  ∀(g:Nat) (d:Tbd Bool) (a:Act) (w:Tam),
   (∀j q,ops[j]? =some q->j≠i->d.getD j true=false->(∀e∈q.after,Region.binds .any e=true->e.on≠i)->t.apart ops q=true)->
   i∈Region.ready .any ops d->YieldsIf P ops S t v a->S w->
   nD P ops Q S L g (d.setIfInBounds i true) (a.put t.dst v) w->nD P ops Q S L (g+1) d a w:=by
 intro g
 induction g with
 |zero=>
  intro d a w _ u D B H;refine⟨fun h=>(by rw[h]at u;cases u),fun j E=> ?_⟩;by_cases f:j=i
  ·subst f;exact D.wpOp hi B ⟨fun _=>B,H⟩
  ·have:=ready_mono E f;rw[H.1]at this;cases this
 |succ g ih=>
  intro d a w m u D B H;refine⟨fun h=>(by rw[h]at u;cases u),fun j E=> ?_⟩;by_cases f:j=i
  ·subst f;exact D.wpOp hi B ⟨fun _=>B,H⟩
  ·have x:=H.2 j (ready_mono E f);obtain⟨s,q,n,A⟩:=mem_ready.1 E
   have l: ∀e∈q.after,Region.binds .any e=true->e.on≠i:=fun e O R N=>by
    have x:=A e O R;have U:=(mem_ready.1 u).1;rw[N]at x;rcases Nat.lt_or_ge i d.size with T|T
    ·simp[T]at U x;rw[U]at x;cases x
    ·simp[Array.getElem?_eq_none T]at x
   have M:j≠L:=by rintro rfl;obtain⟨e,O,R,G⟩:=Z q n;exact l e O R G
   have h2:=wpOp_putIf n (m j q n f s l) (fun C b=>r i t C b hi) (fun C b=>r j q C b n) Y D x
   have p: ∀k ok,ops[k]? =some ok->k≠i->(d.setIfInBounds j true).getD k true=false->
     (∀e∈ok.after,Region.binds .any e=true->e.on≠i)->t.apart ops ok=true:=fun k ok W K y I=>by
    refine m k ok W K ?_ I;by_cases z:j=k
    ·subst z;exact s
    ·rw[getD_set_ne true z]at y;exact y
   refine wpOp_mono (fun a' V F=>⟨fun J=>F.2.1 J,ih (d.setIfInBounds j true) a' V p (ready_mono u (Ne.symm f)) F.1 (F.2.1 M) ?_⟩) h2;rw[Array.setIfInBounds_comm _ _ f];exact F.2.2
def ml(P:Tap)(ops:Tad)(Q:HP)(S:Tae)(n0:Nat):Nat->Nat->Act->Tae
 |0,_,a,w=>Q .normal a w
 |f+1,i,a,w=>match ops[i]? with
  |none=>False
  |some o=>if i<n0 then S w∧ ∃v,YieldsIf P ops S o v a∧ml P ops Q S n0 f (i+1) (a.put o.dst v) w
   else wpOp P ops Q i (fun c b=>(f≠0->S b)∧ml P ops Q S n0 f (i+1) c b) a w
def hJ(n i:Nat):Tbd Bool:=((List.range n).map fun j=>decide (j<i)).toArray
def tOk(ops:Tad)(n0:Nat):Bool:=
 decide (n0<=ops.size)&&Region.noSelect ops&&(List.range ops.size).all fun i=>
  if i<n0 then Region.free .any ops (hJ ops.size i) i&&(Region.ready .any ops (hJ ops.size i)).contains i&&
   (decide (n0=ops.size)||match ops[ops.size-1]? with|some oL=>oL.after.toList.any fun e=>Region.binds .any e&&e.on==i|none=>false)
  else Region.ready .any ops (hJ ops.size i)==[i]
def qo{n i:Nat}(hi:i<n):(hJ n i).setIfInBounds i true=hJ n (i+1):=by
 apply Array.ext
 ·simp[hJ]
 ·intro j b c;simp only[hJ,Array.size_setIfInBounds,bH,ak,fM]at b;rw[Array.getElem_setIfInBounds (by simpa [hJ]using b)];by_cases a:i=j
  ·subst a;simp[hJ]
  ·rw[if_neg a];simp only[hJ,List.getElem_toArray,List.getElem_map,List.getElem_range];congr 1;exact propext ⟨fun h=>by omega,fun h=>by omega⟩
def xH(n:Nat):Array.replicate n false=hJ n 0:=by
 apply Array.ext
 ·simp[hJ]
 ·intro j b a;simp[hJ]
def zu{n0:Nat}(k:tOk ops n0=true)(E: ∀c a d v w,Q (.panic c) (a.put d v) w->Q (.panic c) a w):
  ∀(f i:Nat) (a:Act) (w:Tam),i+f=ops.size->ml P ops Q S n0 f i a w->nD P ops Q S (if n0=ops.size then ops.size else ops.size-1) f (hJ ops.size i) a w
 |0,i,a,w,hif,h=>by
  refine⟨?_,h⟩;have:i=ops.size:=by omega
  subst this;rw[fg];intro j s;obtain⟨u,N,z,_⟩:=mem_ready.1 s;have D:j<ops.size:=(aL.1 z).1;simp[hJ,D]at u
 |f+1,i,a,w,hif,h=>by
  have m:=k;unfold tOk at k;simp only[aS,bk,bY,db]at k;obtain⟨⟨I,B⟩,q⟩:=k;have t:i<ops.size:=by omega
  have p:=q i t;unfold ml at h;have A:ops[i]? =some ops[i] :=dw t;rw[A]at h;simp only at h;by_cases o:i<n0
  ·rw[if_pos o]at h p;obtain⟨L,v,H,r⟩:=h;simp only[aS]at p;obtain⟨⟨n,g⟩,b⟩:=p;refine qt A (by split<;>omega) ?_ (Region.noSelect_spec B) (fun c a w=>E c a _ _ w) f (hJ ops.size i) a w (Region.free_spec A n) (by simpa using g) H L ?_
   ·intro oL l;by_cases x:n0=ops.size
    ·rw[if_pos x]at l;simp at l
    ·rw[if_neg x]at l;rw[l]at b;simp only[dt,bk,fY,aS,beq_iff_eq]at b;obtain⟨e,J,K,y⟩:=b.resolve_left x;exact⟨e,by simpa using J,K,y⟩
   ·rw[qo t];exact zu m E f (i+1) _ w (by omega) r
  ·rw[if_neg o]at h p;have r:Region.ready .any ops (hJ ops.size i)=[i] :=by simpa using p
   refine⟨fun u=>(by rw[r]at u;cases u),fun j s=> ?_⟩;rw[r,aB]at s;subst s;refine wpOp_mono (fun M G F=>⟨fun C=>F.1 (by split at C<;>omega),?_⟩) h;rw[qo t];exact zu m E f (j+1) M G (by omega) F.2
def zt{n0:Nat}: ∀(f i:Nat) (a:Act) (w:Tam),i+f=ops.size->ml P ops Q S n0 f i a w->wpOps P ops Q (List.range' i f) a w
 |0,i,a,w,_,h=>h
 |f+1,i,a,w,hif,h=>by
  have l:i<ops.size:=by omega
  have g:ops[i]? =some ops[i] :=dw l;unfold ml at h;rw[g]at h;simp only at h;rw[List.range'_succ]
  have d:wpOp P ops Q i (fun e c=>wpOps P ops Q (List.range' (i+1) f) e c) a w:=by
   by_cases b:i<n0
   ·rw[if_pos b]at h;obtain⟨m,v,j,k⟩:=h;exact j.wpOp g m (zt f (i+1) _ w (by omega) k)
   ·rw[if_neg b]at h;exact wpOp_mono (fun e c n=>zt f (i+1) e c (by omega) n.2) h
  rw[wpOps_cons];exact d
end
structure uH(w w':Tam):Prop where
 heap:w'.heap=w.heap
 os:w'.os=w.os
 tape:w'.tape=w.tape
 output:w'.output=w.output
def uH.refl(w:Tam):uH w w:=⟨rfl,rfl,rfl,rfl⟩
def uH.drew(w:Tam):uH w {w with drawn:=w.drawn+1}:=⟨rfl,rfl,rfl,rfl⟩
def uH.cell{w w':Tam}(h:uH w w')(ad:Addr):w'.cell? ad=w.cell? ad:=by simp only[World.cell?,h.heap]
def SX(X:Tai)(w w':Tam):Prop:=w.heap.size<=w'.heap.size∧ ∀b,b<w.heap.size-> ¬X b->w'.heap[b]? =w.heap[b]?
def SX.refl(X:Tai)(w:Tam):SX X w w:=⟨bf _,fun _ _ _=>rfl⟩
def QP(Q:HP):Prop:= ∀c a d v w,Q (.panic c) (a.put d v) w->Q (.panic c) a w
def ax(_:Nat):Prop:=False
def Kn(n:Nat)(a:Act)(m:Tab):Prop:=a.tmps.size=n∧a.defers=[] ∧ ∀t v,lk m t=some v->a.tmps[t]? =some v
def Kf(m:Tab):Tab->Prop
 | [] =>True
 |p::r=>lk m p.1=some p.2∧Kf m r
def Kf.get{m:Tab}: ∀{l:Tab},Kf m l-> ∀p∈l,lk m p.1=some p.2
 | [],_,p,b=>by cases b
 |q::r,h,p,b=>by
  rcases aD.1 b with rfl|b
  ·exact h.1
  ·exact Kf.get h.2 p b
def Kn.put{n:Nat}{a:Act}{m:Tab}(h:Kn n a m)(d:Nat)(v:Tan)(f:d<n):Kn n (a.put (some d) v) ((d,v)::m):=by
 refine⟨by simp[Act.put,h.1],h.2.1,fun t u b=> ?_⟩;simp only[lk]at b;split at b
 ·rename_i c;injection b with b;subst b;have:d=t:=(by simpa using c:t=d).symm;subst this;exact Oo h.1 f
 ·rename_i c;rw[KA (fun e=>c (by simp[e]))];exact h.2.2 t u b
def Kn.sub{n:Nat}{a:Act}{m l:Tab}(h:Kn n a m)(c:Kf m l):Kn n a l:=
 ⟨h.1,h.2.1,fun t v b=>h.2.2 t v (c.get (t,v) (iK b))⟩
def Kn.sb{n:Nat}{a:Act}{m l:Tab}(h:Kn n a m)(b:Kf m l:=by repeat constructor):Kn n a l:=h.sub b
def lH(m:Tab):Tbb->Tao Tan
 |.tmp t=>lk m t
 |.const v=>some v
 |.global g=>some (.pointer (some ⟨g,0,none⟩))
 |.func f=>some (.func (.func f) #[] #[])
def Kn.op{n:Nat}{a:Act}{m:Tab}(h:Kn n a m){x:Tbb}{v:Tan}(b:lH m x=some v):a.eval x=v:=by
 cases x with
 |tmp t=>exact OT (h.2.2 t v b)
 |const u=>injection b with b
 |global g=>injection b with b
 |func f=>injection b with b
abbrev OK:=Tak×Op×Tao (Nat×Bool)
def O9(o:Tbc):OK:=(o.dst,o.op,o.guard)
def bC(ops:Tad):List OK:=ops.toList.map O9
def pL(L:List OK)(m:Tab):Tao (Nat×Bool)->Tao Bool
 |none=>some true
 |some (j,b)=>match (L[j]?).bind (·.1) with
  |some t=>match lk m t with
   |some (.bool c)=>some (c==b)
   |_=>none
  |none=>none
def Kn.gd{n:Nat}{a:Act}{m:Tab}{ops:Tad}{o:Tbc}{b:Bool}(h:Kn n a m)(e:pL (bC ops) m o.guard=some b):Region.wanted o (yielded ops a.tmps)=b:=by
 unfold Region.wanted;cases hgd:o.guard with
 |none=>rw[hgd]at e;injection e
 |some jb=>
  obtain⟨j,k⟩:=jb;rw[hgd]at e;simp only[pL]at e
  have f:((bC ops)[j]?).bind (·.1)=(ops[j]?).bind (·.dst):=by
   unfold bC;rw[ab];cases ho:ops[j]? with
   |none=>simp[ho]
   |some o=>simp[ho,O9]
  rw[f]at e;cases ho:(ops[j]?).bind (·.dst) with
  |none=>rw[ho]at e;cases e
  |some t=>
   rw[ho]at e;simp only at e;split at e
   ·rename_i c g;injection e with e;have:=h.2.2 t _ g;simp only[yielded,ho,ch,this];rw[<-e];cases c<;>cases k<;>rfl
   ·cases e
section
variable{P:Tap}{ops:Tad}{Q:HP}{S:Tae}{n n0 i d:Nat}{a:Act}{w:Tam}{m:Tab}{gd:Tao (Nat×Bool)}{L r:List OK}
def TL(P:Tap)(ops:Tad)(Q:HP)(S:Tae)(n0:Nat)(L r:List OK)(i:Nat)(a:Act)(w:Tam):Prop:=bC ops=L->L.drop i=r->ml P ops Q S n0 r.length i a w
def jj{id:Nat}{b:Bool}(n0:Nat)(X:Tai)(j:P.follows .mixedOrders=true)(l:QP Q)(f:bC ops=L)(k:b=true->tOk ops n0=true)(h: ∀e,uH w e->TL P ops Q (SX X e) n0 L L 0 a e):(Code.region id ops b).wp P Q a w:=by
 have c:L.length=ops.size:=by rw[<-f];simp[bC]
 cases b with
 |true=>
  refine wp_region_any j ?_;have g:=zu (k rfl) l ops.size 0 a _ (by omega) (c▸h _ (uH.drew w) f rfl);rw[<-xH]at g;exact nL _ _ _ _ g
 |false=>
  refine wp_region ?_;rw[List.range_eq_range'];exact zt ops.size 0 a w (by omega) (c▸h w (uH.refl w) f rfl)
def r8{x:OK}(g:bC ops=L)(c:L.drop i=x::r):(∃o,ops[i]? =some o∧O9 o=x)∧L.drop (i+1)=r:=by
 have b:L[i]? =some x:=by have:=congrArg (fun l=>l[0]?) c;simpa using this
 refine⟨?_,?_⟩
 ·rw[<-g]at b;unfold bC at b;rw[ab,cU]at b;obtain⟨o,f,e⟩:=b;exact⟨o,by simpa using f,e⟩
 ·have:=congrArg (List.drop 1) c;simpa using this
def ar(h:Q .normal a w):TL P ops Q S n0 L [] i a w:=fun _ _=>h
def pv{op:Op}{v:Tan}(k:Kn n a m)(p:S w)(H:pL L m gd=some true)(E:d<n)(D: ∀c b f j,S j->(execOp a.eval ⟨some d,op,c,b,f,gd⟩).run P j= .ok (.value v) j)(h: ∀F,Kn n F ((d,v)::m)->TL P ops Q S n0 L r (i+1) F w):TL P ops Q S n0 L ((some d,op,gd)::r) i a w:=by
 intro g G;obtain⟨⟨o,B,s⟩,e⟩:=r8 g G;obtain⟨I,l,c,b,f,q⟩:=o;simp only[O9,ae]at s;obtain⟨rfl,rfl,rfl⟩:=s;have A:=k.gd (ops:=ops) (o:=⟨some d,l,c,b,f,q⟩) (by rw[g];exact H);show ml P ops Q S n0 (r.length+1) i a w;unfold ml;rw[B];simp only;by_cases C:i<n0
 ·rw[if_pos C];exact⟨p,v,.inl ⟨A,D c b f⟩,h _ (k.put d v E) g e⟩
 ·rw[if_neg C];exact(YieldsIf.wpOp (S:=S) B (.inl ⟨A,D c b f⟩) p ⟨fun _=>p,h _ (k.put d v E) g e⟩)
def adJ{op:Op}(k:Kn n a m)(g:S w)(E:pL L m gd=some false)(A:d<n)(h: ∀B,Kn n B ((d,undef)::m)->TL P ops Q S n0 L r (i+1) B w):TL P ops Q S n0 L ((some d,op,gd)::r) i a w:=by
 intro c D;obtain⟨⟨o,q,l⟩,b⟩:=r8 c D;obtain⟨F,f,C,e,G,j⟩:=o;simp only[O9,ae]at l;obtain⟨rfl,rfl,rfl⟩:=l;have p:=k.gd (ops:=ops) (o:=⟨some d,f,C,e,G,j⟩) (by rw[c];exact E);show ml P ops Q S n0 (r.length+1) i a w;unfold ml;rw[q];simp only;by_cases s:i<n0
 ·rw[if_pos s];exact⟨g,undef,.inr ⟨p,rfl⟩,h _ (k.put d undef A) c b⟩
 ·rw[if_neg s];exact(YieldsIf.wpOp (S:=S) q (.inr ⟨p,rfl⟩) g ⟨fun _=>g,h _ (k.put d undef A) c b⟩)
def nr{op:Op}(k:Kn n a m)(hi:n0<=i)(D:pL L m gd=some true)(G:d<n)(F: ∀f b g,∃v c,(execOp a.eval ⟨some d,op,f,b,g,gd⟩).run P w= .ok (.value v) c∧(r≠ [] ->S c)∧ ∀A,Kn n A ((d,v)::m)->TL P ops Q S n0 L r (i+1) A c):TL P ops Q S n0 L ((some d,op,gd)::r) i a w:=by intro l C;obtain⟨⟨o,s,q⟩,j⟩:=r8 l C;obtain⟨K,h,f,b,g,p⟩:=o;simp only[O9,ae]at q;obtain⟨rfl,rfl,rfl⟩:=q;have B:=k.gd (ops:=ops) (o:=⟨some d,h,f,b,g,p⟩) (by rw[l];exact D);obtain⟨v,c,J,I,H⟩:=F f b g;show ml P ops Q S n0 (r.length+1) i a w;unfold ml;rw[s];simp only;rw[if_neg (by omega)];unfold wpOp;rw[s];simp only;rw[if_pos B];refine .inl ?_;rw[Oper.wp,J];exact⟨fun E=>I (fun e=>E (by rw[e];rfl)),H _ (k.put d v G) l j⟩
def adK{op:Op}{w':Tam}(k:Kn n a m)(hi:n0<=i)(D:pL L m gd=some true)(F: ∀c b f,(execOp a.eval ⟨none,op,c,b,f,gd⟩).run P w= .ok .skip w')(G:r≠ [] ->S w')(h: ∀A,Kn n A m->TL P ops Q S n0 L r (i+1) A w'):TL P ops Q S n0 L ((none,op,gd)::r) i a w:=by intro l C;obtain⟨⟨o,s,q⟩,j⟩:=r8 l C;obtain⟨H,g,c,b,f,p⟩:=o;simp only[O9,ae]at q;obtain⟨rfl,rfl,rfl⟩:=q;have B:=k.gd (ops:=ops) (o:=⟨none,g,c,b,f,p⟩) (by rw[l];exact D);show ml P ops Q S n0 (r.length+1) i a w;unfold ml;rw[s];simp only;rw[if_neg (by omega)];unfold wpOp;rw[s];simp only;rw[if_pos B];refine .inl ?_;rw[Oper.wp,F c b f];exact⟨fun E=>G (fun e=>E (by rw[e];rfl)),h _ k l j⟩
def gH{c:Nat}{args:Tbd Tbb}{ts:Tbd Tba}{vs:Tac}{R:Ending->Tae}(k:Kn n a m)(hi:n0<=i)(K:pL L m gd=some true)(O:d<n)(s: ∀(args:Tbd Tan) (w:Tam),(callFunc c args).run P w= .ok (.enter c args) w)(H:args.toList.map (lH m)=vs.map some)(T:Calls P c vs.toArray w R)(h: ∀e b,R e b-> ∃v,e= .returned v∧(r≠ [] ->S b)∧ ∀D,Kn n D ((d,v)::m)->TL P ops Q S n0 L r (i+1) D b):TL P ops Q S n0 L ((some d,.call {callee:=.value (.func c),args:=args,argTypes:=ts},gd)::r) i a w:=by
 intro q J;obtain⟨⟨o,C,B⟩,p⟩:=r8 q J;obtain⟨V,F,E,g,W,A⟩:=o;simp only[O9,ae]at B;obtain⟨rfl,rfl,rfl⟩:=B;have G:=k.gd (ops:=ops) (o:=⟨some d,.call {callee:=.value (.func c),args:=args,argTypes:=ts},E,g,W,A⟩) (by rw[q];exact K)
 have f:args.map a.eval=vs.toArray:=by
  apply cW;rw[Array.toList_map]
  have j: ∀(l:List Tbb) (us:Tac),l.map (lH m)=us.map some->l.map a.eval=us:=by
   intro l
   induction l with
   |nil=>intro us h;cases us with|nil=>rfl|cons=>cases h
   |cons x l ih=>
    intro us h;cases us with
    |nil=>cases h
    |cons u us=>
     simp only[cE,ev]at h;rw[cE,k.op h.1,ih us h.2]
  simpa using j args.toList vs H
 show ml P ops Q S n0 (r.length+1) i a w;unfold ml;rw[C];simp only;rw[if_neg (by omega)];unfold wpOp;rw[C];simp only;rw[if_pos G];refine .inl ?_;rw[Oper.wp,Lh s f];refine T.mono fun e b N=> ?_;obtain⟨v,rfl,I,U⟩:=h e b N;exact⟨fun M=>I (fun e=>M (by rw[e];rfl)),U _ (k.put d v O) q p⟩
variable{x y z:Tbb}{t t2:Tba}{v u:Tan}
def PN(k:Kn n a m)(g:S w)(e:pL L m gd=some true)(f:d<n)(c:lH m x=some v)(h: ∀b,Kn n b ((d,v)::m)->TL P ops Q S n0 L r (i+1) b w):TL P ops Q S n0 L ((some d,.move x,gd)::r) i a w:=
 pv k g e f (fun _ _ _ j _=>by rw[Lf,k.op c]) h
def wN(k:Kn n a m)(g:S w)(e:pL L m gd=some true)(f:d<n)(c:lH m x=some v)(h: ∀b,Kn n b ((d,v)::m)->TL P ops Q S n0 L r (i+1) b w):TL P ops Q S n0 L ((some d,.assign x,gd)::r) i a w:=
 pv k g e f (fun _ _ _ j _=>by rw[FN,k.op c]) h
def Vh{b:Addr}(k:Kn n a m)(j:S w)(f:pL L m gd=some true)(g:d<n)(e:lH m x=some (.pointer (some b)))(h: ∀c,Kn n c ((d,.pointer (some b))::m)->TL P ops Q S n0 L r (i+1) c w):TL P ops Q S n0 L ((some d,.nilCheck x,gd)::r) i a w:=
 pv k j f g (fun _ _ _ l _=>by have:=k.op e;unfold execOp;simp only[this];rfl) h
def ZC{b o off fl:Nat}(k:Kn n a m)(l:S w)(f:pL L m gd=some true)(j:d<n)(e:lH m x=some (.pointer (some ⟨b,o,none⟩)))(g:(lh P t fl).map (fun y=>(y.1.offset,decide (0<y.2)))=some (off,true))(h: ∀c,Kn n c ((d,.pointer (some ⟨b,o+off,none⟩))::m)->TL P ops Q S n0 L r (i+1) c w):TL P ops Q S n0 L ((some d,.fieldAddr t x fl,gd)::r) i a w:=
 pv k l f j (fun _ _ _ p _=>AV g (k.op e)) h
def kr{c:Addr}(k:Kn n a m)(s:S w)(l:pL L m gd=some true)(o:d<n)(f:lH m x=some (.pointer (some c)))(q:iR P t=false)(g:(P.underlying t).isSome=true)(p: ∀b,S b->b.cell? c=some v)(h: ∀e,Kn n e ((d,v)::m)->TL P ops Q S n0 L r (i+1) e w):TL P ops Q S n0 L ((some d,.load t x,gd)::r) i a w:=
 pv k s l o (fun _ _ _ b j=>IC q g (k.op f) (p b j)) h
def Vi{b off nn:Nat}{vs:Tac}(k:Kn n a m)(B:S w)(p:pL L m gd=some true)(q:d<n)(f:lH m x=some (.pointer (some ⟨b,off,none⟩)))(l:iv P t=some nn)(A:iR P t=true)(o:vs.length=nn)(s: ∀c,S c-> ∀(j:Nat) v,vs[j]? =some v->c.cell? ⟨b,off+j,none⟩=some v)(h: ∀e,Kn n e ((d,.agg vs.toArray)::m)->TL P ops Q S n0 L r (i+1) e w):TL P ops Q S n0 L ((some d,.load t x,gd)::r) i a w:=
 pv k B p q (fun _ _ _ c g=>IB l A (k.op f) o (s c g)) h
def px{el:Tba}{b off nn j sz:Nat}{kk:IntKind}{c:Int}(k:Kn n a m)(C:S w)(A:pL L m gd=some true)(B:d<n)(q:lH m x=some (.slice (some ⟨b,off,none⟩) nn j))(p:lH m y=some (.int kk c))(s:P.underlying t=some (.slice el))(g:iv P el=some sz)(F:0<=c)(E:c<nn)(h: ∀l,Kn n l ((d,.pointer (some ⟨b,off+c.toNat*sz,none⟩))::m)->TL P ops Q S n0 L r (i+1) l w):TL P ops Q S n0 L ((some d,.indexAddr t x y,gd)::r) i a w:=by refine pv k C A B (fun _ _ _ o _=> ?_) h;have f:=k.op q;have e:=k.op p;have D:=gZ (P:=P) (w:=o) g;unfold execOp;simp only[f,e,Instr.indexAt,asIntOf];simp[run_underlying s,F,E,D,fJ]
def slB(P:Tap)(t:Tba):Bool:=match P.underlying t with
 |some (.slice _)=>true
 |_=>false
def Gq{A:Tao Addr}{nn c:Nat}(k:Kn n a m)(o:S w)(g:pL L m gd=some true)(l:d<n)(f:lH m x=some (.slice A nn c))(b:slB P t=true)(h: ∀e,Kn n e ((d,.int .i64 nn)::m)->TL P ops Q S n0 L r (i+1) e w):TL P ops Q S n0 L ((some d,.call {callee:=.builtin .len,args:= #[x],argTypes:= #[t]},gd)::r) i a w:=by
 unfold slB at b;split at b
 ·rename_i q j;exact pv k o g l (fun _ _ _ p _=>OR j (k.op f)) h
 ·cases b
def PM{c:Bool}(k:Kn n a m)(p:S w)(l:pL L m gd=some true)(o:d<n)(j:lH m x=some (.bool c))(g:lH m (if c then y else z)=some v)(h: ∀f,Kn n f ((d,v)::m)->TL P ops Q S n0 L r (i+1) f w):TL P ops Q S n0 L ((some d,.pick x y z,gd)::r) i a w:=by
 refine pv k p l o (fun _ _ _ q _=> ?_) h;have e:=k.op j;have b:=k.op g;unfold execOp;cases c
 ·simp only[ai,if_false]at b;simp[e,b,asBool]
 ·simp only[if_true]at b;simp[e,b,asBool]
def pV{c:Bool}(k:Kn n a m)(j:S w)(f:pL L m gd=some true)(g:d<n)(e:lH m x=some (.bool c))(h: ∀b,Kn n b ((d,.bool (!c))::m)->TL P ops Q S n0 L r (i+1) b w):TL P ops Q S n0 L ((some d,.unOp .not t x,gd)::r) i a w:=
 pv k j f g (fun _ _ _ l _=>OQ (k.op e)) h
def Gg:BinOp->Int->Int->Tao Bool
 |.lss,m,n=>some (decide (m<n))
 |.leq,m,n=>some (decide (m<=n))
 |.gtr,m,n=>some (decide (m>n))
 |.geq,m,n=>some (decide (m≥n))
 |.eql,m,n=>some (m==n)
 |.neq,m,n=>some (m !=n)
 |_,_,_=>none
def Vk{b:BinOp}{kk:IntKind}{p q:Int}{c:Bool}(k:Kn n a m)(s:S w)(l:pL L m gd=some true)(o:d<n)(j:lH m x=some (.int kk p))(g:lH m y=some (.int kk q))(e:Gg b p q=some c)(h: ∀f,Kn n f ((d,.bool c)::m)->TL P ops Q S n0 L r (i+1) f w):TL P ops Q S n0 L ((some d,.binOp b t x y t2,gd)::r) i a w:=by refine pv k s l o (fun _ _ _ C _=> ?_) h;have B:=k.op j;have A:=k.op g;unfold execOp;cases b<;>simp only[Gg,aa,reduceCtorEq]at e<;>subst e<;>simp[B,A,eqGuard,binOp,Op.intCmp]
def ik{kk:IntKind}{p q s:Int}(k:Kn n a m)(l:S w)(f:pL L m gd=some true)(g:d<n)(e:lH m x=some (.int kk p))(c:lH m y=some (.int kk q))(j:kk.wrap (p+q)=s)(h: ∀b,Kn n b ((d,.int kk s)::m)->TL P ops Q S n0 L r (i+1) b w):TL P ops Q S n0 L ((some d,.binOp .add t x y t2,gd)::r) i a w:=by subst j;exact pv k l f g (fun _ _ _ o _=>OS (k.op e) (k.op c)) h
end
abbrev Ow:=Nat->Tak
structure Wf(w:Tam)(S:bz)(ow:Ow):Prop where
 s: ∀b o,S b o->b<w.heap.size
 o: ∀b l,ow b=some l->b<w.heap.size
 d: ∀b o l,S b o->ow b=some l->1000<=l
structure bD(L X:Tai)(w:Tam)(S:bz)(ow:Ow)(w':Tam)(S':bz)(bR:Ow):Prop where
 size:w.heap.size<=w'.heap.size
 os:w'.os=w.os
 tape:w'.tape=w.tape
 output:w'.output=w.output
 F3: ∀b l,b<w.heap.size->ow b=some l-> ¬L l->w'.heap[b]? =w.heap[b]?
 free: ∀b,b<w.heap.size->ow b=none-> ¬X b->w'.heap[b]? =w.heap[b]?
 jw: ∀b o,S b o->S' b o
 cell: ∀b o,S b o->w'.cell? ⟨b,o,none⟩=w.cell? ⟨b,o,none⟩
 keep: ∀b l,ow b=some l-> ¬L l->bR b=some l
 new: ∀b o,S' b o->S b o∨w.heap.size<=b∨ ∃l,ow b=some l∧L l
 tL: ∀b,b<w.heap.size->ow b=none->bR b=none
 iu: ∀b l,bR b=some l->ow b=some l∨L l
def iE(l:Nat)(x:Nat):Prop:=x=l
def ct{l x:Nat}(h: ¬x=l:=by omega): ¬iE l x:=h
section
variable{L L' X X':Tai}{w w' FV:Tam}{S S' LN:bz}{ow bR yI:Ow}
def bD.refl(L X:Tai)(w:Tam)(S:bz)(ow:Ow):bD L X w S ow w S ow:=
 ⟨bf _,rfl,rfl,rfl,fun _ _ _ _ _=>rfl,fun _ _ _ _=>rfl,fun _ _ h=>h,fun _ _ _=>rfl,fun _ _ h _=>h,fun _ _ h=>.inl h,fun _ _ h=>h,fun _ _ h=>.inl h⟩
def bD.O{w a:Tam}(h:uH w a)(L X:Tai)(S:bz)(ow:Ow):bD L X w S ow a S ow:=
 ⟨by rw[h.heap];exact bf _,h.os,h.tape,h.output,fun _ _ _ _ _=>by rw[h.heap],fun _ _ _ _=>by rw[h.heap],fun _ _ h=>h,fun _ _ _=>h.cell _,fun _ _ h _=>h,fun _ _ h=>.inl h,fun _ _ h=>h,fun _ _ h=>.inl h⟩
def bD.trans(t:Wf w S ow)(p:Wf w' S' bR)(h:bD L X w S ow w' S' bR)(k:bD L' X' w' S' bR FV LN yI)(r: ∀b,X' b->X b∨w.heap.size<=b)(q: ∀b l,b<w.heap.size->bR b=some l->L l∨L' l-> ∃j,ow b=some j∧(L j∨L' j)):
  bD (fun l=>L l∨L' l) X w S ow FV LN yI:=by
 refine⟨aW h.size k.size,k.os.trans h.os,k.tape.trans h.tape,k.output.trans h.output,?_,?_,fun b o i=>k.jw b o (h.jw b o i),fun b o i=>(k.cell b o (h.jw b o i)).trans (h.cell b o i),?_,?_,?_,fun b l f=>(k.iu b l f).elim (fun a=>(h.iu b l a).imp id .inl) (fun a=>.inr (.inr a))⟩
 ·intro b l d e f;exact(k.F3 b l (av d h.size) (h.keep b l e (fun c=>f (.inl c))) (fun c=>f (.inr c))).trans (h.F3 b l d e (fun c=>f (.inl c)))
 ·intro b d e n;refine(k.free b (av d h.size) (h.tL b d e) (fun c=> ?_)).trans (h.free b d e n);rcases r b c with a|a
  ·exact n a
  ·omega
 ·intro b l e f;exact k.keep b l (h.keep b l e (fun c=>f (.inl c))) (fun c=>f (.inr c))
 ·intro b o i;rcases k.new b o i with a|a|⟨l,a,g⟩
  ·rcases h.new b o a with g|g|⟨l,g,m⟩
   ·exact .inl g
   ·exact .inr (.inl g)
   ·exact .inr (.inr ⟨l,g,.inl m⟩)
  ·exact .inr (.inl (aW h.size a))
  ·by_cases d:b<w.heap.size
   ·obtain⟨j,m,s⟩:=q b l d a (.inr g);exact .inr (.inr ⟨j,m,s⟩)
   ·exact .inr (.inl (by omega))
 ·intro b d e;exact k.tL b (av d h.size) (h.tL b d e)
def bD.mono(h:bD L X w S ow w' S' bR)(e: ∀l,L l->L' l)(j: ∀b,X b->X' b):bD L' X' w S ow w' S' bR:=
 ⟨h.size,h.os,h.tape,h.output,fun b l f a c=>h.F3 b l f a (fun d=>c (e l d)),fun b f a g=>h.free b f a (fun d=>g (j b d)),h.jw,h.cell,fun b l a c=>h.keep b l a (fun d=>c (e l d)),fun b o i=>(h.new b o i).imp id (fun n=>n.imp id fun⟨l,m,k⟩=>⟨l,m,e l k⟩),h.tL,fun b l c=>(h.iu b l c).imp id (e l)⟩
def ca.J{v:Tan}{d:D}(h:ca w S v d)(a:bD L X w S ow w' S' bR):ca w' S' v d:=h.keep a.jw a.cell
structure dA(w:Tam)(S:bz)(ow:Ow)(l:Nat)(T:Tba)(t:Ty)(v:Tan)(xs:Taf):Prop where
 has:Has (.list t) (.list xs)
 sz:0<t.cells.length
 iu: ∀b,v.ownBlock=some b->ow b=some l
 ll:l<1000
 own: ∃vs,w.ownsRow 0 T t.cells.length v xs.length vs∧ ∀(i:Nat) d (j:Nat) u c,xs[i]? =some d->d.cells[j]? =some c->vs[i*t.cells.length+j]? =some u->ca w S u c
def qz{T:Tba}{sz n:Nat}{v:Tan}{vs:Tac}(h:w.ownsRow 0 T sz v n vs)(f: ∀b,v.ownBlock=some b->w'.heap[b]? =w.heap[b]?):w'.ownsRow 0 T sz v n vs:=by
 refine⟨h.1,?_⟩;rcases h.2 with d|⟨g,c,a,rfl,m,e,l,k,j,i⟩
 ·exact .inl d
 ·exact .inr ⟨g,c,a,rfl,m,(f g rfl).trans e,l,k,j,i⟩
def dA.J{l:Nat}{T:Tba}{t:Ty}{v:Tan}{xs:Taf}(h:dA w S ow l T t v xs)(k:Wf w S ow)(e:bD L X w S ow w' S' bR)(f: ¬L l):dA w' S' bR l T t v xs:=by obtain⟨g,n,m⟩:=h.own;exact⟨h.has,h.sz,fun b a=>e.keep b l (h.iu b a) f,h.ll,g,qz n (fun b a=>e.F3 b l (k.o b l (h.iu b a)) (h.iu b a) f),fun i d j u c r q p=>(m i d j u c r q p).J e⟩
def dA.nil{l:Nat}{T:Tba}{t:Ty}(a:0<t.cells.length)(e:l<1000):dA w S ow l T t (.slice none 0 0) [] :=
 ⟨⟨[],rfl,gw t,fun _ h=>(by cases h)⟩,a,fun b f=>(by cases f),e,[],fb _ _ _ _,fun i d j u c h=>(by simp at h)⟩
def dA.slice{l:Nat}{T:Tba}{t:Ty}{v:Tan}{xs:Taf}(h:dA w S ow l T t v xs): ∃A cap,v= .slice A xs.length cap:=by
 obtain⟨b,a,_⟩:=h.own;rcases a.2 with⟨rfl,hn⟩|⟨g,cap,cur,rfl,_⟩
 ·exact⟨none,0,by rw[hn]⟩
 ·exact⟨_,cap,rfl⟩
def dA.len{l:Nat}{T:Tba}{t:Ty}{v:Tan}{xs:Taf}(h:dA w S ow l T t v xs):mK t xs.length:=by obtain⟨c,a,b,_⟩:=bL.1 h.has;injection a with a;subst a;exact b
def dA.all{l:Nat}{T:Tba}{t:Ty}{v:Tan}{xs:Taf}(h:dA w S ow l T t v xs): ∀x∈xs,Has t x:=by obtain⟨c,a,_,b⟩:=bL.1 h.has;injection a with a;subst a;exact b
def dA.elem{l:Nat}{T:Tba}{t:Ty}{v:Tan}{xs:Taf}(h:dA w S ow l T t v xs){i:Nat}{d:D}(hi:xs[i]? =some d):
  ∃(b e:Nat) (us:Tac),v= .slice (some ⟨b,0,none⟩) xs.length e∧b<w.heap.size∧ow b=some l∧us.length=t.cells.length∧(∀(j:Nat) u,us[j]? =some u->w.cell? ⟨b,i*t.cells.length+j,none⟩=some u)∧
   ∀(j:Nat) u c,us[j]? =some u->d.cells[j]? =some c->ca w S u c:=by
 obtain⟨n,m,q⟩:=h.own;have k:i<xs.length:=(aG.1 hi).1;rcases m.2 with⟨rfl,hn⟩|⟨g,e,cur,rfl,_,hg,ra,T9,FY,Pd⟩
 ·omega
 ·have f:(i+1)*t.cells.length<=xs.length*t.cells.length:=au _ k;rw[cb,Nat.one_mul]at f;have o:n.length=xs.length*t.cells.length:=m.1;refine⟨g,e,(n.drop (i*t.cells.length)).take t.cells.length,rfl,(aL.1 hg).1,h.iu g rfl,by rw[aK,aX];omega,?_,?_⟩
  ·intro j u a;rw[ay]at a;split at a
   ·rw[aE]at a;have:=m.cells (g:=g) rfl _ _ a;rw[fJ,ao]at this;exact this
   ·cases a
  ·intro j u c a p;rw[ay]at a;split at a
   ·rw[aE]at a;exact q i d j u c hi p a
   ·cases a
def dA.freeze{l:Nat}{T:Tba}{t:Ty}{v:Tan}{xs:Taf}(h:dA w S ow l T t v xs)(p:Wf w S ow):
  ∃S' bR,bD (iE l) ax w S ow w S' bR∧Wf w S' bR∧ca w S' v (.list xs)∧(∀b,bR b≠some l):=by
 obtain⟨r,z,E⟩:=h.own;refine⟨fun b o=>S b o∨(v.ownBlock=some b∧o<r.length),fun b=>if ow b=some l then none else ow b,?_,?_,?_,?_⟩
 ·refine⟨bf _,rfl,rfl,rfl,fun _ _ _ _ _=>rfl,fun _ _ _ _=>rfl,fun _ _ h=>.inl h,fun _ _ _=>rfl,?_,?_,?_,fun b k n=>(by
   split at n
   ·cases n
   ·exact .inl n)⟩
  ·intro b k f n;rw[if_neg (by rw[f];intro e;injection e with e;exact n e)];exact f
  ·intro b o a;rcases a with a|⟨a,_⟩
   ·exact .inl a
   ·exact .inr (.inr ⟨l,h.iu b a,rfl⟩)
  ·intro b _ f;simp[f]
 ·refine⟨?_,?_,?_⟩
  ·intro b o a;rcases a with a|⟨a,_⟩
   ·exact p.s b o a
   ·exact p.o b l (h.iu b a)
  ·intro b k f;split at f
   ·cases f
   ·exact p.o b k f
  ·intro b o k a f;split at f
   ·cases f
   ·rcases a with a|⟨a,_⟩
    ·exact p.d b o k a f
    ·exact absurd (h.iu b a) (by assumption)
 ·have B: ∀u c,ca w S u c->ca w (fun b o=>S b o∨(v.ownBlock=some b∧o<r.length)) u c:=fun u c A=>A.keep (fun _ _ h=>.inl h) (fun _ _ _=>rfl);rcases z.2 with⟨rfl,hn⟩|⟨g,cap,cur,rfl,_,hg,ra,T9,FY,Pd⟩
  ·have:xs=[] :=an hn;subst this;exact .nil _ _
  ·by_cases m:xs=[]
   ·subst m;exact .nil _ _
   ·refine .list g 0 cap t.cells.length r xs h.sz m ra z.1 (fun i F=>.inr ⟨rfl,by omega⟩) ?_ ?_ ?_
    ·intro i u x;have:=z.cells (g:=g) rfl i u x;rw[fJ,ao]at this;rw[ao];exact this
    ·intro i d y;exact(cd (h.all d (bU y))).1
    ·intro i d j u c y C x;exact B u c (E i d j u c y C x)
 ·intro b q;simp only at q;split at q
  ·cases q
  ·exact absurd q (by assumption)
def dA.grow{l:Nat}{T:Tba}{t:Ty}{v v':Tan}{xs ys:Taf}{news:Tac}(h:dA w S ow l T t v xs)(B:Wf w S ow)(N: ∀y∈ys,Has t y)(K:mK t (xs++ys).length)(Y:news.length=ys.length*t.cells.length)(O: ∀(i:Nat) d (j:Nat) u c,ys[i]? =some d->d.cells[j]? =some c->news[i*t.cells.length+j]? =some u->ca w S u c)(J: ∀F,w.ownsRow 0 T t.cells.length v xs.length F->w'.ownsRow 0 T t.cells.length v' (xs.length+ys.length) (F++news)∧((v'.ownBlock=v.ownBlock∧w.grownBy w' v.ownBlock)∨(v'.ownBlock=some w.heap.size∧w.grownBy w' none))):
  ∃bR,bD (iE l) ax w S ow w' S bR∧Wf w' S bR∧dA w' S bR l T t v' (xs++ys)∧ ∀b,bR b=some l->(v'.ownBlock=some b∨ow b=some l):=by
 obtain⟨F,V,Z⟩:=h.own;obtain⟨r,a⟩:=J F V
 have m:w'.os=w.os∧w'.tape=w.tape∧w'.output=w.output∧w.heap.size<=w'.heap.size:=by rcases a with⟨_,hg⟩|⟨_,hg⟩<;>exact⟨hg.os,hg.tape,hg.output,hg.size⟩
 have n: ∀b,b<w.heap.size->v.ownBlock≠some b->w'.heap[b]? =w.heap[b]? :=by
  intro b k P;rcases a with⟨_,hg⟩|⟨_,hg⟩
  ·exact hg.block b k (fun e=>P e.symm)
  ·exact hg.block b k (by simp)
 have I: ∀b,v.ownBlock=some b-> ∀o,¬S b o:=fun b k o p=>by have:=B.d b o l p (h.iu b k);have:=h.ll;omega
 have E: ∀b o,S b o->w'.cell? ⟨b,o,none⟩=w.cell? ⟨b,o,none⟩:=fun b o p=>bh (n b (B.s b o p) (fun k=>I b k o p))
 have C:bD (iE l) ax w S ow w' S (fun b=>if v'.ownBlock=some b then some l else ow b):=by
  refine⟨m.2.2.2,m.1,m.2.1,m.2.2.1,?_,?_,fun _ _ h=>h,E,?_,fun _ _ h=>.inl h,?_,fun b A q=>(by
   split at q
   ·injection q with q;exact .inr q.symm
   ·exact .inl q)⟩
  ·intro b A k g q;exact n b k (fun f=>q (by have:=(h.iu b f).symm.trans g;injection this with this;exact this.symm))
  ·intro b k g _;exact n b k (fun f=>by rw[h.iu b f]at g;cases g)
  ·intro b A g q;rw[if_neg ?_]
   ·exact g
   ·intro f;rcases a with⟨he,_⟩|⟨he,_⟩
    ·have:=(h.iu b (he▸f)).symm.trans g;injection this with this;exact q this.symm
    ·rw[he]at f;injection f with f;have:=B.o b A g;omega
  ·intro b k g;rw[if_neg ?_]
   ·exact g
   ·intro f;rcases a with⟨he,_⟩|⟨he,_⟩
    ·rw[h.iu b (he▸f)]at g;cases g
    ·rw[he]at f;injection f with f;omega
 refine⟨_,C,⟨fun b o p=>av (B.s b o p) m.2.2.2,?_,?_⟩,⟨?_,h.sz,fun b k=>by simp[k],h.ll,F++news,by rw[ah];exact r,?_⟩,?_⟩
 ·intro b A g;split at g
  ·rename_i f;exact(r.lt b f).2
  ·exact av (B.o b A g) m.2.2.2
 ·intro b o A p g;split at g
  ·rename_i f;rcases a with⟨he,_⟩|⟨he,_⟩
   ·exact absurd p (I b (he▸f) o)
   ·rw[he]at f;injection f with f;have:=B.s b o p;omega
  ·exact B.d b o A p g
 ·refine⟨xs++ys,rfl,K,fun x H=> ?_⟩;rcases aI.1 H with H|H
  ·exact h.all x H
  ·exact N x H
 ·intro i d j u c G U M;have W:F.length=xs.length*t.cells.length:=V.1;by_cases Q:i<xs.length
  ·have R:d.cells.length=t.cells.length:=by rw[aq Q]at G;exact(cd (h.all d (bU G))).1
   have hj:j<t.cells.length:=by rw[<-R];exact(aG.1 U).1
   have z:(i+1)*t.cells.length<=xs.length*t.cells.length:=au _ Q;rw[cb,Nat.one_mul]at z;rw[aq Q]at G;rw[aq (by omega)]at M;exact(Z i d j u c G U M).J C
  ·rw[aN (by omega)]at G;have z:xs.length*t.cells.length<=i*t.cells.length:=au _ (by omega);rw[aN (by omega)]at M;refine(O (i-xs.length) d j u c G U ?_).J C;rw[<-M];congr 1;rw[Nat.sub_mul];omega
 ·intro b k;split at k
  ·rename_i f;exact .inl f
  ·exact .inr k
end
def Nn(P:Tap)(tt T:Tba)(t:Ty):Bool:=match P.underlying tt with
 |some (.slice e)=>e==T&&(match P.info? T with
  |some ie=>ie.size==t.cells.length&&ie.bytes==t.bytes&&(match ie.zero with
   |some z=>z.cells.size==t.cells.length
   |none=>false)
  |none=>false)
 |_=>false
section
variable{L L' X X':Tai}{w w' FV:Tam}{S S' LN:bz}{ow bR yI:Ow}{P:Tap}
def dA.mc{l:Nat}{tt T:Tba}{t:Ty}{v:Tan}{xs ys:Taf}(h:dA w S ow l T t v xs)(a:Nn P tt T t=true)(M:t.cells.all Ty.scalar=true)(hw:Wf w S ow)(ty:Tba)(A:Tao Addr)(c:Nat)(news:Tac)(hA:A=none->ys.length=0)(n:news.length=ys.length*t.cells.length)(o: ∀ad,A=some ad-> ∀(j:Nat) u,news[j]? =some u->w.cell? (ad.add j)=some u)(s: ∀y∈ys,Has t y)(F: ∀(i:Nat) d (j:Nat) u c,ys[i]? =some d->d.cells[j]? =some c->news[i*t.cells.length+j]? =some u->ca w S u c)(k:mK t (xs.length+ys.length)):
  ∃r w',(Builtin.append_ #[tt,tt] ty #[v,.slice A ys.length c]).run P w= .ok r w'∧ ∃bR,bD (iE l) ax w S ow w' S bR∧Wf w' S bR∧dA w' S bR l T t r (xs++ys):=by
 unfold Nn at a;split at a
 ·rename_i e hu;rw[aS,beq_iff_eq]at a;obtain⟨rfl,a⟩:=a;split at a
  ·rename_i ie R;simp only[aS,beq_iff_eq]at a;obtain⟨⟨h1,h2⟩,H⟩:=a;split at H
   ·rename_i z hz;rw[beq_iff_eq]at H;have B:=h.sz
    have E: ∀u∈news,u.oneCell'=true:=by
     intro uu J;obtain⟨q,V⟩:=aw J;have O:q<news.length:=(aG.1 V).1;have W:q/t.cells.length<ys.length:=by rw[fq B,<-n];exact O
     have Q:q % t.cells.length<t.cells.length:=Nat.mod_lt _ B;have Y:ys[q/t.cells.length]? =some (ys[q/t.cells.length]'W):=aQ W;have K:t.cells[q % t.cells.length]? =some (t.cells[q % t.cells.length]'Q):=aQ Q;obtain⟨cc,U,G⟩:=(cd (s _ (bU Y))).2 _ _ K;have N:q/t.cells.length*t.cells.length+q % t.cells.length=q:=by rw[Nat.mul_comm];exact Nat.div_add_mod _ _
     exact(F _ _ _ uu cc Y U (by rw[N];exact V)).hZ G (bY.1 M _ (aF Q))
    obtain⟨vs,f,_⟩:=h.own;obtain⟨r,w',C,ho,p⟩:=ja (P:=P) w 0 tt ty e ie z t.cells.length hu R hz h1 H v xs.length vs f A ys.length c news hA n o E k.1 (by rw[h2];exact k.2) (aC _)
    obtain⟨bR,a1,a2,a3,_⟩:=h.grow hw s (by rw[ah];exact k) n F (w':=w') (v':=r) (fun I x=>by
     have:I=vs:=by
      rcases f.2 with⟨rfl,hn⟩|⟨g,cap,cur,rfl,_,hg,_,_,_,ht⟩
      ·have e1:=f.1;have Z:=x.1;rw[hn,Nat.zero_mul]at e1 Z;rw[an e1,an Z]
      ·rcases x.2 with⟨hh,_⟩|⟨g2,afe,afb,hh,_,b,_,_,_,T6⟩
       ·cases hh
       ·injection hh with m _ _;injection m with m;injection m with m _;subst m;rw[hg]at b;injection b with b;injection b with b;subst b;exact T6.symm.trans ht
     subst this;exact⟨ho,p⟩)
    exact⟨r,w',C,bR,a1,a2,a3⟩
   ·cases H
  ·cases a
 ·cases a
def iq{dst:Tak}{tt ty:Tba}{pos:String}{af:Tbd Edge}{gd:Tao (Nat×Bool)}{a:Act}{x y:Tbb}{v u v':Tan}(c:a.eval x=v)(b:a.eval y=u)(h:(Builtin.append_ #[tt,tt] ty #[v,u]).run P w= .ok v' w'):
  (execOp a.eval ⟨dst,.call {callee:=.builtin .append,args:= #[x,y],argTypes:= #[tt,tt]},ty,pos,af,gd⟩).run P w= .ok (.value v') w':=by unfold execOp;simp only[resolve,invoke,builtin];simp[c,b,h]
def bD.alloc(a:Wf w S ow)(o:Obj):bD ax ax w S ow (w.alloc o) S ow∧Wf (w.alloc o) S ow:=
 ⟨⟨by simp,rfl,rfl,rfl,fun b _ f _ _=>Below.heap_alloc w o _ f,fun b f _ _=>Below.heap_alloc w o _ f,fun _ _ h=>h,fun b c e=>bh (Below.heap_alloc w o _ (a.s b c e)),fun _ _ h _=>h,fun _ _ h=>.inl h,fun _ _ h=>h,fun _ _ h=>.inl h⟩,
  ⟨fun b c e=>av (a.s b c e) (by simp),fun b l g=>av (a.o b l g) (by simp),a.d⟩⟩
structure fG(w:Tam)(S:bz)(ow:Ow)(b:Nat)(T:Tba)(vs:Tac):Prop where
 heap:w.heap[b]? =some (.cells vs.toArray T (0,0))
 ow:ow b=none
 s: ∀o,¬S b o
def fG.new(a:Wf w S ow)(T:Tba)(vs:Tac):fG (w.alloc (.cells vs.toArray T)) S ow w.heap.size T vs:=
 ⟨heap_alloc_new w _,by cases h:ow w.heap.size with|none=>rfl|some l=>have:=a.o _ _ h;omega,fun o b=>by have:=a.s _ _ b;omega⟩
def fG.lt{b:Nat}{T:Tba}{vs:Tac}(h:fG w S ow b T vs):b<w.heap.size:=(aL.1 h.heap).1
def fG.J{b:Nat}{T:Tba}{vs:Tac}(h:fG w S ow b T vs)(c:bD L X w S ow w' S' bR)(d: ¬X b):fG w' S' bR b T vs:=by
 refine⟨(c.free b h.lt h.ow d).trans h.heap,c.tL b h.lt h.ow,fun o e=> ?_⟩;rcases c.new b o e with a|a|⟨l,a,_⟩
 ·exact h.s o a
 ·have:=h.lt;omega
 ·rw[h.ow]at a;cases a
def fG.set{b:Nat}{T:Tba}{vs us:Tac}(h:fG w S ow b T vs)(c:Wf w S ow):bD ax (iE b) w S ow (w.setRow b us.toArray) S ow∧Wf (w.setRow b us.toArray) S ow∧fG (w.setRow b us.toArray) S ow b T us:=by have g: ∀k,k≠b->(w.setRow b us.toArray).heap[k]? =w.heap[k]? :=fun k i=>setRow_other w _ k _ i;refine⟨⟨by simp,rfl,rfl,rfl,fun k l i a _=>g k (fun e=>by rw[e,h.ow]at a;cases a),fun k i _ j=>g k j,fun _ _ h=>h,fun k o f=>bh (g k (fun e=>h.s o (e▸f))),fun _ _ h _=>h,fun _ _ h=>.inl h,fun _ _ h=>h,fun _ _ h=>.inl h⟩,⟨fun k o f=>by simpa using c.s k o f,fun k l a=>by simpa using c.o k l a,c.d⟩,⟨?_,h.ow,h.s⟩⟩;exact setRow_heap w b _ _ T (0,0) h.heap
structure wC(w:Tam)(ow:Ow)(l b:Nat)(T:Tba)(vs:Tac):Prop where
 heap:w.heap[b]? =some (.cells vs.toArray T (0,0))
 ow:ow b=some l
 ll:l<1000
def wC.lt{l b:Nat}{T:Tba}{vs:Tac}(h:wC w ow l b T vs):b<w.heap.size:=(aL.1 h.heap).1
def wC.J{l b:Nat}{T:Tba}{vs:Tac}(h:wC w ow l b T vs)(a:bD L X w S ow w' S' bR)(c: ¬L l):wC w' bR l b T vs:=⟨(a.F3 b l h.lt h.ow c).trans h.heap,a.keep b l h.ow c,h.ll⟩
def wC.set{l b:Nat}{T:Tba}{vs us:Tac}(h:wC w ow l b T vs)(c:Wf w S ow):bD (iE l) ax w S ow (w.setRow b us.toArray) S ow∧Wf (w.setRow b us.toArray) S ow∧wC (w.setRow b us.toArray) ow l b T us:=by have i: ∀k,k≠b->(w.setRow b us.toArray).heap[k]? =w.heap[k]? :=fun k j=>setRow_other w _ k _ j;refine⟨⟨by simp,rfl,rfl,rfl,fun k n j a f=>i k (fun e=>f (by rw[e,h.ow]at a;injection a with a;exact a.symm)),fun k j f _=>i k (fun e=>by rw[e,h.ow]at f;cases f),fun _ _ h=>h,fun k o g=>bh (i k (fun e=>by subst e;have:=c.d _ _ _ g h.ow;have:=h.ll;omega)),fun _ _ h _=>h,fun _ _ h=>.inl h,fun _ _ h=>h,fun _ _ h=>.inl h⟩,⟨fun k o g=>by simpa using c.s k o g,fun k l m=>by simpa using c.o k l m,c.d⟩,⟨?_,h.ow,h.ll⟩⟩;exact setRow_heap w b _ _ T (0,0) h.heap
def jm{b j:Nat}{T:Tba}{vs:Tac}{v:Tan}(h:w.heap[b]? =some (.cells vs.toArray T (0,0)))(a:vs[j]? =some v):w.cell? ⟨b,j,none⟩=some v:=by rw[cell_of_row w b j _ T (0,0) h];simpa using a
def dA.set{l i:Nat}{T:Tba}{t:Ty}{v:Tan}{xs:Taf}{d:D}{us:Tac}(h:dA w S ow l T t v xs)(E:Wf w S ow)(hi:i<xs.length)(W:Has t d)(Z:us.length=t.cells.length)(I: ∀(j:Nat) u c,us[j]? =some u->d.cells[j]? =some c->ca w S u c):
  ∃(b f:Nat) (cur:Tbd Tan),v= .slice (some ⟨b,0,none⟩) xs.length f∧w.heap[b]? =some (.cells cur T (0,0))∧i*t.cells.length+us.length<=cur.size∧b<w.heap.size∧ow b=some l∧
   bD (iE l) ax w S ow (w.setRow b (cur.toList.take (i*t.cells.length)++us++cur.toList.drop (i*t.cells.length+us.length)).toArray) S ow∧Wf (w.setRow b (cur.toList.take (i*t.cells.length)++us++cur.toList.drop (i*t.cells.length+us.length)).toArray) S ow∧
   dA (w.setRow b (cur.toList.take (i*t.cells.length)++us++cur.toList.drop (i*t.cells.length+us.length)).toArray) S ow l T t v (xs.set i d):=by
 obtain⟨C,V,h2⟩:=h.own;rcases V.2 with⟨rfl,y⟩|⟨b,f,cur,rfl,h0,hg,ra,T9,FY,Pd⟩
 ·omega
 ·have z:(i+1)*t.cells.length<=xs.length*t.cells.length:=au _ hi;have N:xs.length*t.cells.length<=f*t.cells.length:=au _ ra;rw[cb,Nat.one_mul]at z;have g:=h.iu b rfl;have B:i*t.cells.length+us.length<=cur.size:=by omega
  have J: ∀(r:Tbd Tan) k,k≠b->(w.setRow b r).heap[k]? =w.heap[k]? :=fun r k a=>setRow_other w _ k _ a;have M: ∀o,¬S b o:=fun o q=>by have:=E.d b o l q g;have:=h.ll;omega
  have n: ∀r,bD (iE l) ax w S ow (w.setRow b r) S ow:=fun r=>
   ⟨by simp,rfl,rfl,rfl,fun k l' a m y=>J r k (fun e=>y (by rw[e,g]at m;injection m with m;exact m.symm)),fun k a y _=>J r k (fun e=>by rw[e,g]at y;cases y),fun _ _ h=>h,fun k o q=>bh (J r k (fun e=>M o (e▸q))),fun _ _ h _=>h,fun _ _ h=>.inl h,fun _ _ h=>h,fun _ _ h=>.inl h⟩
  refine⟨b,f,cur,rfl,hg,B,(aL.1 hg).1,g,n _,⟨fun k o q=>by simpa using E.s k o q,fun k l hl=>by simpa using E.o k l hl,E.d⟩,⟨?_,h.sz,h.iu,h.ll,C.take (i*t.cells.length)++us++C.drop (i*t.cells.length+us.length),?_,?_⟩⟩
  ·refine⟨_,rfl,by rw[aM];exact h.len,fun x p=> ?_⟩;rcases dS p with p|rfl
   ·exact h.all x p
   ·exact W
  ·have H:C.length=xs.length*t.cells.length:=V.1;refine⟨by simp only[ah,aK,aX,aM];omega,.inr ⟨b,f,_,by rw[aM],h0,setRow_heap w b _ _ T (0,0) hg,by rw[aM];exact ra,T9,?_,?_⟩⟩
   ·simp only[bH,ah,aK,aX,fT];omega
   ·rw[<-Pd,aM];apply fc;intro j;simp only[dz,ay,aE,aK,ah,fT,aX];by_cases c1:j<i*t.cells.length
    ·have e1:j<xs.length*t.cells.length:=by omega
     have e2:j<i*t.cells.length+us.length:=by omega
     have e3:j<min (i*t.cells.length) cur.size:=by omega
     have e4:j<min (i*t.cells.length) cur.size+us.length:=by omega
     have e5:j<min (i*t.cells.length) (min (xs.length*t.cells.length) cur.size):=by omega
     have e6:j<min (i*t.cells.length) (min (xs.length*t.cells.length) cur.size)+us.length:=by omega
     simp only[e1,e3,e4,e5,e6,c1,if_true]
    ·by_cases c2:j<i*t.cells.length+us.length
     ·rw[if_pos (by omega),if_pos (by omega),if_neg (by omega),if_pos (by omega),if_neg (by omega)];congr 1;omega
     ·by_cases c3:j<xs.length*t.cells.length
      ·rw[if_pos c3,if_neg (by omega),if_neg (by omega),if_pos (by omega)];congr 1;omega
      ·rw[if_neg c3,if_neg (by omega),if_neg (by omega)]
  ·intro k Y j u c a U F;have H:C.length=xs.length*t.cells.length:=V.1
   have R:Y.cells.length=t.cells.length:=by
    rcases dS (bU a) with p|rfl
    ·exact(cd (h.all _ p)).1
    ·exact(cd W).1
   have hj:j<t.cells.length:=by rw[<-R];exact(aG.1 U).1
   have Q:k<xs.length:=by have:=(aG.1 a).1;rwa [aM]at this
   have O:(k+1)*t.cells.length<=xs.length*t.cells.length:=au _ Q;rw[cb,Nat.one_mul]at O;simp only[dz,ay,aE,aK,ah]at F;rw[bI]at a;by_cases A:i=k
   ·subst A;rw[if_pos rfl,if_pos hi]at a;injection a with a;subst a;rw[if_pos (by omega),if_neg (by omega)]at F;refine(I j u c ?_ U).J (n _);rw[<-F];congr 1;omega
   ·rw[if_neg A]at a
    have K:k*t.cells.length+j<i*t.cells.length∨i*t.cells.length+us.length<=k*t.cells.length+j:=by
     rcases Nat.lt_or_ge k i with G|G
     ·have:(k+1)*t.cells.length<=i*t.cells.length:=au _ G;rw[cb,Nat.one_mul]at this;omega
     ·have:(i+1)*t.cells.length<=k*t.cells.length:=au _ (by omega);rw[cb,Nat.one_mul]at this;omega
    refine(h2 k Y j u c a U ?_).J (n _);rw[<-F];rcases K with G|G
    ·rw[if_pos (by omega),if_pos (by omega),if_pos (by omega)]
    ·rw[if_neg (by omega)];congr 1;omega
end
section
variable{L L' X X':Tai}{w w' FV:Tam}{S S' LN:bz}{ow bR yI:Ow}{P:Tap}
structure jX(w:Tam)(ow:Ow)(l:Nat)(T:Tba)(v:Tan)(vs:Tac):Prop where
 own:w.ownsRow 0 T 1 v vs.length vs
 iu: ∀b,v.ownBlock=some b->ow b=some l
 ll:l<1000
def jX.J{l:Nat}{T:Tba}{v:Tan}{vs:Tac}(h:jX w ow l T v vs)(e:Wf w S ow)(c:bD L X w S ow w' S' bR)(d: ¬L l):jX w' bR l T v vs:=
 ⟨qz h.own (fun b a=>c.F3 b l (e.o b l (h.iu b a)) (h.iu b a) d),fun b a=>c.keep b l (h.iu b a) d,h.ll⟩
def jX.nil{l:Nat}{T:Tba}(a:l<1000):jX w ow l T (.slice none 0 0) [] :=⟨fb _ _ _ _,fun b c=>(by cases c),a⟩
def jX.elem{l:Nat}{T:Tba}{v:Tan}{vs:Tac}(h:jX w ow l T v vs){i:Nat}{u:Tan}(hi:vs[i]? =some u):
  ∃b a,v= .slice (some ⟨b,0,none⟩) vs.length a∧b<w.heap.size∧ow b=some l∧w.cell? ⟨b,i,none⟩=some u:=by
 have c:i<vs.length:=(aG.1 hi).1;rcases h.own.2 with⟨rfl,hn⟩|⟨g,a,cur,rfl,_,hg,ra,T9,FY,Pd⟩
 ·omega
 ·refine⟨g,a,rfl,(aL.1 hg).1,h.iu g rfl,?_⟩;have:=h.own.cells (g:=g) rfl i u hi;rw[fJ,ao]at this;exact this
def jX.slice{l:Nat}{T:Tba}{v:Tan}{vs:Tac}(h:jX w ow l T v vs): ∃A cap,v= .slice A vs.length cap:=by
 rcases h.own.2 with⟨rfl,hn⟩|⟨g,cap,cur,rfl,_⟩
 ·exact⟨none,0,by rw[hn]⟩
 ·exact⟨_,cap,rfl⟩
def Ry(P:Tap)(tt T:Tba):Bool:=match P.underlying tt with
 |some (.slice e)=>e==T&&(match P.info? T with
  |some ie=>ie.size==1&&decide (ie.bytes<=24)&&(match ie.zero with
   |some z=>z.cells.size==1
   |none=>false)
  |none=>false)
 |_=>false
def jX.mc{l:Nat}{tt T:Tba}{v u:Tan}{vs:Tac}(h:jX w ow l T v vs)(f:Ry P tt T=true)(y:Wf w S ow)(ty:Tba)(A:Addr)(c:Nat)(O:w.cell? A=some u)(E:u.oneCell'=true)(F:vs.length+1<=1000000):
  ∃p w',(Builtin.append_ #[tt,tt] ty #[v,.slice (some A) 1 c]).run P w= .ok p w'∧ ∃bR,bD (iE l) ax w S ow w' S bR∧Wf w' S bR∧jX w' bR l T p (vs++[u]):=by
 unfold Ry at f;split at f
 ·rename_i e I;rw[aS,beq_iff_eq]at f;obtain⟨rfl,f⟩:=f;split at f
  ·rename_i M K;simp only[aS,beq_iff_eq,bk]at f;obtain⟨⟨R,Q⟩,H⟩:=f;split at H
   ·rename_i z N;rw[beq_iff_eq]at H
    obtain⟨p,w',D,k,a⟩:=ja (P:=P) w 0 tt ty e M z 1 I K N R H v vs.length vs h.own (some A) 1 c [u] (by intro h;cases h) rfl
     (by
      intro U B j x G;injection B with B;subst B
      match j,G with
      |0,G=>simp at G;subst G;simpa [Addr.add]using O) (by simpa using E) (by simp only[maxLen];omega) (by have:(vs.length+1)*M.bytes<=1000000*24:=Nat.mul_le_mul F Q;omega) (aC _)
    have m:w'.os=w.os∧w'.tape=w.tape∧w'.output=w.output∧w.heap.size<=w'.heap.size:=by rcases a with⟨_,hg⟩|⟨_,hg⟩<;>exact⟨hg.os,hg.tape,hg.output,hg.size⟩
    have r: ∀b,b<w.heap.size->v.ownBlock≠some b->w'.heap[b]? =w.heap[b]? :=by
     intro b n J;rcases a with⟨_,hg⟩|⟨_,hg⟩
     ·exact hg.block b n (fun e=>J e.symm)
     ·exact hg.block b n (by simp)
    have C: ∀b,v.ownBlock=some b-> ∀o,¬S b o:=fun b n o t=>by have:=y.d b o l t (h.iu b n);have:=h.ll;omega
    refine⟨p,w',D,fun b=>if p.ownBlock=some b then some l else ow b,⟨m.2.2.2,m.1,m.2.1,m.2.2.1,?_,?_,fun _ _ h=>h,?_,?_,fun _ _ h=>.inl h,?_,fun b l' q=>(by
     replace q:(if p.ownBlock=some b then some l else ow b)=some l':=q;split at q
     ·injection q with q;exact .inr q.symm
     ·exact .inl q)⟩,⟨fun b o t=>av (y.s b o t) m.2.2.2,?_,?_⟩,?_,?_,h.ll⟩
    ·intro b l' n k q;exact r b n (fun g=>q (by have:=(h.iu b g).symm.trans k;injection this with this;exact this.symm))
    ·intro b n k _;exact r b n (fun g=>by rw[h.iu b g]at k;cases k)
    ·intro b o t;exact bh (r b (y.s b o t) (fun n=>C b n o t))
    ·intro b l' k q;show(if p.ownBlock=some b then some l else ow b)=some l';rw[if_neg ?_]
     ·exact k
     ·intro g;rcases a with⟨he,_⟩|⟨he,_⟩
      ·have:=(h.iu b (he▸g)).symm.trans k;injection this with this;exact q this.symm
      ·rw[he]at g;injection g with g;have:=y.o b l' k;omega
    ·intro b n k;show(if p.ownBlock=some b then some l else ow b)=none;rw[if_neg ?_]
     ·exact k
     ·intro g;rcases a with⟨he,_⟩|⟨he,_⟩
      ·rw[h.iu b (he▸g)]at k;cases k
      ·rw[he]at g;injection g with g;omega
    ·intro b l' i;replace i:(if p.ownBlock=some b then some l else ow b)=some l':=i;split at i
     ·rename_i g;exact(k.lt b g).2
     ·exact av (y.o b l' i) m.2.2.2
    ·intro b o l' t i;replace i:(if p.ownBlock=some b then some l else ow b)=some l':=i;split at i
     ·rename_i g;rcases a with⟨he,_⟩|⟨he,_⟩
      ·exact absurd t (C b (he▸g) o)
      ·rw[he]at g;injection g with g;have:=y.s b o t;omega
     ·exact y.d b o l' t i
    ·rw[ah];exact k
    ·intro b n;show(if p.ownBlock=some b then some l else ow b)=some l;rw[if_pos n]
   ·cases H
  ·cases f
 ·cases f
def jX.set{l i:Nat}{T:Tba}{v u:Tan}{vs:Tac}(h:jX w ow l T v vs)(m:Wf w S ow)(hi:i<vs.length):
  ∃(b f:Nat) (cur:Tbd Tan),v= .slice (some ⟨b,0,none⟩) vs.length f∧w.heap[b]? =some (.cells cur T (0,0))∧i+1<=cur.size∧b<w.heap.size∧ow b=some l∧
   bD (iE l) ax w S ow (w.setRow b (cur.toList.take i++[u] ++cur.toList.drop (i+1)).toArray) S ow∧Wf (w.setRow b (cur.toList.take i++[u] ++cur.toList.drop (i+1)).toArray) S ow∧
   jX (w.setRow b (cur.toList.take i++[u] ++cur.toList.drop (i+1)).toArray) ow l T v (vs.set i u):=by
 rcases h.own.2 with⟨rfl,j⟩|⟨b,f,cur,rfl,h0,hg,ra,T9,FY,Pd⟩
 ·omega
 ·rw[bG]at FY Pd;have a:=h.iu b rfl;have n: ∀(r:Tbd Tan) k,k≠b->(w.setRow b r).heap[k]? =w.heap[k]? :=fun r k q=>setRow_other w _ k _ q;have p: ∀o,¬S b o:=fun o g=>by have:=m.d b o l g a;have:=h.ll;omega
  refine⟨b,f,cur,rfl,hg,by omega,(aL.1 hg).1,a,
   ⟨by simp,rfl,rfl,rfl,fun k y q c j=>n _ k (fun e=>j (by rw[e,a]at c;injection c with c;exact c.symm)),fun k q j _=>n _ k (fun e=>by rw[e,a]at j;cases j),fun _ _ h=>h,fun k o g=>bh (n _ k (fun e=>p o (e▸g))),fun _ _ h _=>h,fun _ _ h=>.inl h,fun _ _ h=>h,fun _ _ h=>.inl h⟩,
   ⟨fun k o g=>by simpa using m.s k o g,fun k l x=>by simpa using m.o k l x,m.d⟩,⟨⟨by simp,.inr ⟨b,f,_,by rw[aM],h0,setRow_heap w b _ _ T (0,0) hg,by rw[aM];exact ra,T9,?_,?_⟩⟩,h.iu,h.ll⟩⟩
  ·simp only[bH,ah,aK,aX,fT,aZ];omega
  ·have t:i<cur.toList.length:=by rw[fT];omega
   rw[aM,bG,An t];show List.take _ (cur.toList.set i u)=_;rw[List.take_set,Pd]
def ke(w:Tam)(S:bz)(ow:Ow)(l:Nat)(ob:Ob)(b:Nat)(cells:List (Taf)):Prop:=
 ∃(c:Nat->Nat) (d:Taj),c 0=b∧BL w S ob c d [.pointer (some ⟨b,0,none⟩)] [] cells∧(∀a,tR ob c d a->ow a=some l)
def ke.J{l:Nat}{ob:Ob}{b:Nat}{cells:List (Taf)}(h:ke w S ow l ob b cells)(O:Wf w S ow)(F:Wf w' S' bR)(q:bD L X w S ow w' S' bR)(J: ¬L l)(G:ob.shape=[true]):ke w' S' bR l ob b cells:=by
 obtain⟨y,C,hb,a,f⟩:=h;have g: ∀k,tR ob y C k->w'.heap[k]? =w.heap[k]? :=fun k e=>q.F3 k l (O.o k l (f k e)) (f k e) J
 have B: ∀k o,tR ob y C k->S' k o->S k o:=by
  intro k o e H;rcases q.new k o H with m|m|⟨N,m,M⟩
  ·exact m
  ·have:=O.o k l (f k e);omega
  ·rw[f k e]at m;injection m with m;subst m;exact absurd M J
 refine⟨y,C,hb,⟨F.s,?_,a.len,?_,a.inj,a.own,a.eK,?_⟩,fun k e=>q.keep k l (f k e) J⟩
 ·have:=a.args;rw[G]at this⊢;exact this
 ·intro o E cs x p;obtain⟨z,T,m,M,h3,h4,h5⟩:=a.cB o E cs x p;have n:o<ob.cB.length:=(aG.1 x).1;have A:tR ob y C (y o):=.inl ⟨o,n,rfl⟩;refine⟨z,T,(g _ A).trans m,M,h3,?_,fun W H=>h5 W (B _ _ A H)⟩;intro i r v d Q Y Z;have p:=h4 i r v d Q Y Z;obtain⟨t,V⟩:=r;cases V with
  |none=>exact⟨p.1.J q,p.2⟩
  |some jT=>
   obtain⟨j,TT⟩:=jT;obtain⟨rfl,K⟩:=p;have R:j∈ob.jz:=cZ.2 ⟨E,bU x,bE.2 ⟨_,bU Q,rfl⟩⟩;refine⟨rfl,K.has,K.sz,?_⟩;obtain⟨U,N,a1,a2,a3,a4⟩:=K.own;refine⟨U,N,a1,qz a2 (fun k e=>g k (.inr ⟨j,R,e⟩)),fun k e o=> ?_,fun i d j u c b1 b2 b3=>(a4 i d j u c b1 b2 b3).J q⟩;rw[<-a3 k e o];exact⟨B k o (.inr ⟨j,R,e⟩),q.jw k o⟩
 ·intro I o c E x p;have n:o<ob.cB.length:=(aG.1 x).1;rw[bh (g _ (.inl ⟨o,n,rfl⟩))];exact a.link I o c E x p
end
section
variable{w w':Tam}{S S':bz}{ow bR:Ow}{P:Tap}
def AL{β:Nat->Nat}: ∀{n:Nat} {vs:Tac} {ds:Taf} {o:Nat},vs.length=n->ds.length=n->(∀(i:Nat) v d,vs[i]? =some v->ds[i]? =some d->ca w S v d)->rn w S β (List.replicate n false) o vs ds
 |0,[],[],_,_,_,_=>trivial
 |n+1,v::vs,d::ds,o,hv,hd,h=>by refine⟨h 0 v d rfl rfl,AL (by simpa using hv) (by simpa using hd) fun i u e a b=>h (i+1) u e (by simpa using a) (by simpa using b)⟩
def ke.call{f:Nat}{G:dH}{ob ob0:Ob}{Pre:Taf->Prop}{Φ:Taf->D}{l b n:Nat}{cells:List (Taf)}{vs:Tac}{dd:Taf}(hf:bj P f G Pre Φ)(b7:G.ob=some ob)(b5:ob.wy=false)(a1:ob.shape=true::List.replicate n false)(a:ob.cB=ob0.cB)(r:ob.outs=ob0.cB)(R:ob0.shape=[true])(h2:1<=ob0.cB.length)(b2:2<=ob0.cB.length∨ob.mv=false)(a5:cK G.res=[])(c6:1000<=l)(h:ke w S ow l ob0 b cells)(hw:Wf w S ow)(b3:vs.length=n)(c5:dd.length=n)(a3: ∀(i:Nat) v d,vs[i]? =some v->dd[i]? =some d->ca w S v d)(b4:dn (.V G.params) (dd++cells.flatten))(a4:Pre (dd++cells.flatten)):
  Calls P f (.pointer (some ⟨b,0,none⟩)::vs).toArray w fun e w'=> ∃v S' bR N d0 q,e= .returned v∧Φ (dd++cells.flatten)= .eS (d0::q.map .agg)∧q.length=ob0.cB.length∧bD (iE l) ax w S ow w' S' bR∧Wf w' S' bR∧ke w' S' bR l ob0 b q∧gU w' 0 S' N G.res v d0:=by
 obtain⟨s,N,hb,u,B⟩:=h;have a6:ob.new=false:=by unfold Ob.new;rw[r,a];simp
 have a9:hY ob.shape=1:=by
  have hz:(List.filter (fun b=>b) (List.replicate n false)).length=0:=by rw[List.length_eq_zero_iff,List.filter_eq_nil_iff];intro x hx;rw[(List.mem_replicate.1 hx).2];decide
  rw[a1];simp only[hY,List.filter_cons,if_true,bu];omega
 have b0:hY ob0.shape=1:=by rw[R];rfl
 have Z:ob.jz=ob0.jz:=by unfold Ob.jz;rw[a]
 have y: ∀k,tR ob s N k↔tR ob0 s N k:=fun k=>by unfold tR;rw[a,Z]
 have a8:BL w S ob s N (.pointer (some ⟨b,0,none⟩)::vs) dd cells:=by refine⟨u.lt,?_,by rw[a];exact u.len,by rw[a];exact u.cB,by rw[a];exact u.inj,by rw[Z];exact u.own,by rw[Z,a];exact u.eK,fun O=>by rw[a];exact u.link (by rw[b0];rw[a9,a]at O;exact O)⟩;rw[a1];exact⟨by rw[hb],AL b3 c5 a3⟩
 refine(hf.y9 ob b7 b5 w S s N _ dd cells a8 b4 a4).mono ?_;rintro e w1 ⟨v,S',τ',βn,rfl,ho⟩;obtain⟨d0,q,hd,p,J,A⟩:=ho.res;rw[a6]at J;simp only[ai,if_false]at J;have K:q.length=ob0.cB.length:=by rw[p,r]
 have H: ∀o,o<ob0.cB.length->ka ob s βn o=s o∨(o=ob0.cB.length-1∧ob.mv=true∧ka ob s βn o=βn):=by
  intro o p;unfold ka;rw[a];by_cases O:ob.mv=true∧o=ob0.cB.length-1
  ·exact .inr ⟨O.2,O.1,if_neg (fun h=>h.2 O)⟩
  ·exact .inl (if_pos ⟨p,O⟩)
 have b1: ∀o,o<ob0.cB.length->tR ob0 s N (ka ob s βn o)∨w.heap.size<=ka ob s βn o:=by
  intro o p;rcases H o p with g|⟨_,g,h2⟩
  ·rw[g];exact .inl (.inl ⟨o,p,rfl⟩)
  ·rw[h2];rcases ho.mvd g with z|z
   ·rw[z,a];exact .inl (.inl ⟨_,by omega,rfl⟩)
   ·exact .inr z
 have E: ∀j,j∈ob0.jz->j∈kF G ob:=by intro j C;unfold kF;rw[a5,r];exact C
 have L: ∀k,tR ob0 (ka ob s βn) τ' k->tR ob0 s N k∨w.heap.size<=k:=by
  rintro k (⟨o,p,rfl⟩|⟨j,C,m⟩)
  ·exact b1 o p
  ·rcases ho.gh j k (E j C) m with g|g
   ·exact .inr g
   ·exact .inl ((y k).1 g)
 have Y: ∀k,tR ob0 s N k->k<w.heap.size:=fun k m=>hw.o k l (B k m);have W:=ho.below.size
 classical
 refine⟨v,S',fun k=>if tR ob0 (ka ob s βn) τ' k then some l else if ow k=some l then none else ow k,τ',d0,q,rfl,hd,K,⟨W,ho.below.os,ho.below.tape,ho.below.output,?_,?_,ho.jw,ho.keep,?_,?_,?_,fun k l' m=>(by
   replace m:(if tR ob0 (ka ob s βn) τ' k then some l else if ow k=some l then none else ow k)=some l':=m;split at m
   ·injection m with m;exact .inr m.symm
   ·split at m
    ·cases m
    ·exact .inl m)⟩,⟨ho.lt,?_,?_⟩,⟨ka ob s βn,τ',?_,⟨ho.lt,?_,by rw[K],?_,?_,?_,?_,?_⟩,fun k m=>if_pos m⟩,J⟩
 ·intro k l' m p I;exact ho.below.block k m (fun M=>I (by have:=(B k ((y k).1 M)).symm.trans p;injection this with this;exact this.symm))
 ·intro k m I _;exact ho.below.block k m (fun M=>by rw[B k ((y k).1 M)]at I;cases I)
 ·intro k l' m I;show(if tR ob0 (ka ob s βn) τ' k then some l else if ow k=some l then none else ow k)=some l';rw[if_neg,if_neg,m]
  ·rw[m];intro e;injection e with e;exact I e
  ·intro M;rcases L k M with g|g
   ·have:=(B k g).symm.trans m;injection this with this;exact I this.symm
   ·have:=hw.o k l' m;omega
 ·intro k o hs;rcases ho.new k o hs with g|g|g
  ·exact .inl g
  ·exact .inr (.inl g)
  ·exact .inr (.inr ⟨l,B k ((y k).1 g),rfl⟩)
 ·intro k m I;show(if tR ob0 (ka ob s βn) τ' k then some l else if ow k=some l then none else ow k)=none;rw[if_neg,if_neg (by rw[I];intro e;cases e)]
  ·exact I
  ·intro M;rcases L k M with g|g
   ·rw[B k g]at I;cases I
   ·omega
 ·intro k l' m;replace m:(if tR ob0 (ka ob s βn) τ' k then some l else if ow k=some l then none else ow k)=some l':=m;split at m
  ·rename_i M;rcases L k M with g|g
   ·exact av (Y k g) W
   ·rcases M with⟨o,p,rfl⟩|⟨j,C,IN⟩
    ·obtain⟨rc,X⟩: ∃rc,ob0.cB[o]? =some rc:=⟨_,aQ p⟩;obtain⟨cs,a0⟩: ∃cs,q[o]? =some cs:=⟨_,aQ (by omega)⟩;obtain⟨Q,T,hh,_⟩:=A o rc cs (by rw[r];exact X) a0;exact(aL.1 hh).1
    ·obtain⟨rc,X,c1⟩:=cZ.1 C;obtain⟨x,hx,V⟩:=bE.1 c1;obtain⟨o,p,b6⟩:=fS X;obtain⟨i,c2,c4⟩:=fS hx;obtain⟨cs,a0⟩: ∃cs,q[o]? =some cs:=⟨_,aQ (by omega)⟩;obtain⟨Q,T,hh,z,F,h5,_⟩:=A o rc cs (by rw[r,aQ p,b6]) a0;have O:=h5 i x (Q[i]'(by omega)) (cs[i]'(by omega)) (by rw[aQ c2,c4]) (aQ _) (aQ _);obtain⟨t,ro⟩:=x;cases ro with
     |none=>cases V
     |some jT=>
      simp only[aP,aa]at V;subst V;obtain⟨_,hO⟩:=O;obtain⟨xs,l2,_,a2,_⟩:=hO.own;exact(a2.lt k IN).2
  ·split at m
   ·cases m
   ·exact av (hw.o k l' m) W
 ·intro k o l' hs m;replace m:(if tR ob0 (ka ob s βn) τ' k then some l else if ow k=some l then none else ow k)=some l':=m;split at m
  ·injection m with m;omega
  ·split at m
   ·cases m
   ·rename_i b8;rcases ho.new k o hs with g|g|g
    ·exact hw.d k o l' g m
    ·have:=hw.o k l' m;omega
    ·exact absurd (B k ((y k).1 g)) b8
 ·rcases H 0 (by omega) with g|⟨g,z,_⟩
  ·rw[g,hb]
  ·rcases b2 with F|F
   ·omega
   ·rw[z]at F;cases F
 ·rw[R];refine⟨?_,trivial⟩;rcases H 0 (by omega) with g|⟨g,z,_⟩
  ·rw[g,hb]
  ·rcases b2 with F|F
   ·omega
   ·rw[z]at F;cases F
 ·intro o rc cs g z;exact A o rc cs (by rw[r];exact g) z
 ·intro i j hi C U;rcases H i hi with g|⟨g,c0,z⟩
  ·rcases H j C with F|⟨F,b9,h5⟩
   ·rw[g,F]at U;exact u.inj i j hi C U
   ·rw[g,h5]at U;rcases ho.mvd b9 with h6|h6
    ·rw[h6,a]at U;have:=u.inj i (ob0.cB.length-1) hi (by omega) U;omega
    ·have:=Y (s i) (.inl ⟨i,hi,rfl⟩);omega
  ·rcases H j C with F|⟨F,_⟩
   ·rw[z,F]at U;rcases ho.mvd c0 with h6|h6
    ·rw[h6,a]at U;have:=u.inj (ob0.cB.length-1) j (by omega) C U;omega
    ·have:=Y (s j) (.inl ⟨j,C,rfl⟩);omega
   ·omega
 ·intro j k b' C m g z;exact ho.own j k b' (E j C) (E k m) g z
 ·intro j o b' C p g;exact ho.eK j o b' (E j C) (by rw[r];exact p) g
 ·intro a7 o c rc g z;have:=ho.link (by rw[a9,a];rw[b0]at a7;exact a7) o c rc (by rw[r];exact g) z;rw[a]at this;exact this
def B0{f:Nat}{a:dH}{Pre:Taf->Prop}{Φ:Taf->D}{vs:Tac}{dd:Taf}(u:bj P f a Pre Φ)(r:a.ob=none)(j:Wf w S ow)(g:vs.length=dd.length)(m: ∀(i:Nat) v d,vs[i]? =some v->dd[i]? =some d->ca w S v d)(q:dn (.V a.params) dd)(n:Pre dd):
  Calls P f vs.toArray w fun e w'=> ∃v S' p,e= .returned v∧bD ax ax w S ow w' S' ow∧Wf w' S' ow∧gU w' 0 S' p a.res v (Φ dd):=by
 refine(u.calls r w S vs dd j.s g m q n).mono ?_;rintro e x ⟨v,S',p,rfl,hb,h1,h2,h3,h4,_⟩;refine⟨v,S',p,rfl,⟨hb.size,hb.os,hb.tape,hb.output,fun b _ c _ _=>hb.block b c,fun b c _ _=>hb.block b c,h1,fun b o k=>bh (hb.block b (j.s b o k)),fun _ _ h _=>h,fun b o k=>(h3 b o k).imp id .inl,fun _ _ h=>h,fun _ _ h=>.inl h⟩,⟨h2,fun b l g=>av (j.o b l g) hb.size,?_⟩,h4⟩;intro b o l k g;rcases h3 b o k with t|t
 ·exact j.d b o l t g
 ·have:=j.o b l g;omega
end
def Ol{P:Tap}(w:Tam)(tt T:Tba)(u:Tan)(c:TypeInfo)(z:Tan)(C:P.underlying tt=some (.slice T))(q:P.info? T=some c)(B:c.zero=some z)(j:u.cells.size=c.size)(A:0<c.size)(k:c.size<=2 ^ 24):
  (Instr.buildSlice tt 1 #[(0,u)]).run P w= .ok (.slice (some ⟨w.heap.size,0,none⟩) 1 1) (w.alloc (.cells u.cells T)):=by
 refine run_buildSlice w tt T 1 _ u.cells c z C q B (by omega) (by omega) ?_;obtain⟨b,p⟩: ∃b:Tac,u.cells=b.toArray:=⟨u.cells.toList,by simp⟩;simp only[Instr.fill,Nat.zero_mul,Nat.one_mul,ao];rw[p]at j⊢;have h:b.length=c.size:=by simpa using j
 obtain⟨e,l,o⟩: ∃e:Tac,(Array.range c.size).map (fun x=>z.cells[x % z.cells.size]!)=e.toArray∧e.length=c.size:=⟨((Array.range c.size).map (fun x=>z.cells[x % z.cells.size]!)).toList,by rw[Array.toArray_toList],by simp⟩;rw[l];have s:=foldl_set 0 b 0 e (by omega);simp only[ao,List.take_zero,cX]at s;have f:e.drop b.length=[] :=bO (by omega);rw[f,cN]at s
 have g: ¬((b.toArray.size≠c.size||decide (b.toArray.size>e.toArray.size))=true):=by simp[h,o]
 rw[if_neg g]
 have D:b.toArray.zipIdx.foldl (fun E (x:Tan×Nat)=>E.setIfInBounds x.2 x.1) e.toArray=b.toArray:=by rw[show b.toArray.zipIdx=(b.zipIdx).toArray by simp];exact(List.foldl_toArray' _ _ _ (by simp)).trans s
 exact congrArg some D
def Ep(P:Tap)(tt T:Tba)(k:Nat):Bool:=match P.underlying tt with
 |some (.slice e)=>e==T&&(match P.info? T with
  |some ie=>ie.size==k&&ie.zero.isSome&&decide (0<k)&&decide (k<=100)
  |none=>false)
 |_=>false
def KY{P:Tap}{tt T:Tba}{k:Nat}(h:Ep P tt T k=true)(w:Tam)(u:Tan)(l:u.cells.size=k):(Instr.buildSlice tt 1 #[(0,u)]).run P w= .ok (.slice (some ⟨w.heap.size,0,none⟩) 1 1) (w.alloc (.cells u.cells T)):=by
 unfold Ep at h;split at h
 ·rename_i e g;rw[aS,beq_iff_eq]at h;obtain⟨rfl,h⟩:=h;split at h
  ·rename_i c b;simp only[aS,beq_iff_eq,bk]at h;obtain⟨⟨⟨q,j⟩,p⟩,o⟩:=h;obtain⟨z,f⟩:=da.1 j;exact Ol w tt e u c z g b f (by omega) (by omega) (by omega)
  ·cases h
 ·cases h
section
variable{P:Tap}{ops:Tad}{Q:HP}{SS:Tae}{n n0 i d:Nat}{a:Act}{w:Tam}{m:Tab}{gd:Tao (Nat×Bool)}{LL r:List OK}
variable{x y z:Tbb}{t t2 tt T:Tba}{v u:Tan}{S:bz}{ow:Ow}
def rq{us:Tac}(k:Kn n a m)(hi:n0<=i)(f:pL LL m gd=some true)(g:d<n)(e:lH m x=some v)(j:v.cells=us.toArray)(l:r≠ [] ->SS (w.alloc (.cells us.toArray t)))(h: ∀b,Kn n b ((d,.pointer (some ⟨w.heap.size,0,none⟩))::m)->TL P ops Q SS n0 LL r (i+1) b (w.alloc (.cells us.toArray t))):TL P ops Q SS n0 LL ((some d,.box t x,gd)::r) i a w:=by refine nr k hi f g (fun o c p=>⟨_,_,?_,l,h⟩);have:=k.op e;unfold execOp;simp only[Instr.box];simp[newVar,newRow,this,j]
def iV{nn:Nat}(k:Kn n a m)(hi:n0<=i)(j:pL LL m gd=some true)(l:d<n)(g:((P.info? t).bind (·.zero)).map (fun z=>z.cells.size)=some nn)(o: ∀b:Tac,r≠ [] ->SS (w.alloc (.cells b.toArray t)))(h: ∀b:Tac,b.length=nn-> ∀e,Kn n e ((d,.pointer (some ⟨w.heap.size,0,none⟩))::m)->TL P ops Q SS n0 LL r (i+1) e (w.alloc (.cells b.toArray t))):TL P ops Q SS n0 LL ((some d,.alloc t,gd)::r) i a w:=by refine nr k hi j l (fun f c s=> ?_);obtain⟨b,q,p⟩:=ID (P:=P) (a:=a) (w:=w) (dst:=some d) (ty:=f) (pos:=c) (af:=s) (gd:=gd) g;refine⟨_,_,?_,o b.toList,h b.toList (by simpa using q)⟩;simpa using p
def mO{kk:Nat}(k:Kn n a m)(hi:n0<=i)(g:pL LL m gd=some true)(j:d<n)(e:lH m x=some v)(f:Ep P tt T kk=true)(l:v.cells.size=kk)(o:r≠ [] ->SS (w.alloc (.cells v.cells T)))(h: ∀b,Kn n b ((d,.slice (some ⟨w.heap.size,0,none⟩) 1 1)::m)->TL P ops Q SS n0 LL r (i+1) b (w.alloc (.cells v.cells T))):TL P ops Q SS n0 LL ((some d,.buildSlice tt 1 #[(0,x)],gd)::r) i a w:=by refine nr k hi g j (fun q c s=>⟨_,_,?_,o,h⟩);have:=k.op e;have p:=KY f w v l;unfold execOp;simp[this,p]
def my{b:Tbd (Nat×Tbb)}{ps:Tab}{vs:Tac}(k:Kn n a m)(B:SS w)(p:pL LL m gd=some true)(s:d<n)(o:b.toList.map (fun y=>(lH m y.2).map fun v=>(y.1,v))=ps.map some)(A:P.built t ps=some vs.toArray)(h: ∀e,Kn n e ((d,.agg vs.toArray)::m)->TL P ops Q SS n0 LL r (i+1) e w):TL P ops Q SS n0 LL ((some d,.build t b,gd)::r) i a w:=by
 refine pv k B p s (fun F g G f _=> ?_) h
 have j:(b.map fun(i,x)=>(i,a.eval x)).toList=ps:=by
  rw[Array.toList_map]
  have c: ∀(l:List (Nat×Tbb)) (qs:Tab),l.map (fun y=>(lH m y.2).map fun v=>(y.1,v))=qs.map some->l.map (fun y=>(y.1,a.eval y.2))=qs:=by
   intro l
   induction l with
   |nil=>intro qs h;cases qs with|nil=>rfl|cons=>cases h
   |cons y l ih=>
    intro qs h;cases qs with
    |nil=>cases h
    |cons q qs=>
     simp only[cE,ev,cU]at h;obtain⟨⟨v,E,D⟩,C⟩:=h;rw[cE,ih qs C,k.op E,D]
  exact c b.toList ps o
 unfold execOp;simp only[bg,run_build f t _ _ (j▸A),bV];rfl
def jU{b off:Nat}{cur:Tbd Tan}{TT:Tba}{vs:Tac}(k:Kn n a m)(hi:n0<=i)(q:pL LL m gd=some true)(p:iv P t=some vs.length)(o:lH m x=some (.pointer (some ⟨b,off,none⟩)))(l:lH m y=some v)(s:v.cells=vs.toArray)(f:w.heap[b]? =some (.cells cur TT (0,0)))(e:off+vs.length<=cur.size)(c: ∀v∈vs,v.oneCell'=true)(A:r≠ [] ->SS (w.setRow b (cur.toList.take off++vs++cur.toList.drop (off+vs.length)).toArray))(h: ∀g,Kn n g m->TL P ops Q SS n0 LL r (i+1) g (w.setRow b (cur.toList.take off++vs++cur.toList.drop (off+vs.length)).toArray)):TL P ops Q SS n0 LL ((none,.store t x y,gd)::r) i a w:=
 adK k hi q (fun B j C=>IA p (k.op o) (by rw[k.op l];exact s) f e c) A h
def jE{b off:Nat}{cur:Tac}{TT:Tba}(k:Kn n a m)(hi:n0<=i)(q:pL LL m gd=some true)(p:iv P t=some 1)(o:lH m x=some (.pointer (some ⟨b,off,none⟩)))(l:lH m y=some v)(s:v.cells= #[v])(g:w.heap[b]? =some (.cells cur.toArray TT (0,0)))(f:off<cur.length)(c:v.oneCell'=true)(A:r≠ [] ->SS (w.setRow b (cur.set off v).toArray))(h: ∀j,Kn n j m->TL P ops Q SS n0 LL r (i+1) j (w.setRow b (cur.set off v).toArray)):TL P ops Q SS n0 LL ((none,.store t x y,gd)::r) i a w:=by
 have e:(cur.toArray.toList.take off++[v] ++cur.toArray.toList.drop (off+[v].length))=cur.set off v:=An f;refine jU (vs:=[v]) (cur:=cur.toArray) k hi q p o l (by rw[s]) g (by simp;omega) (by simpa using c) ?_ ?_
 ·rw[e];exact A
 ·rw[e];exact h
def N1(P:Tap)(t f:Nat):Tak:=match lh P t f with
 |some (fl,nn)=>if iR P fl.type=false∧(P.underlying fl.type).isSome=true∧nn=1 then some fl.offset else none
 |none=>none
def Oe{f off:Nat}{vs:Tac}(k:Kn n a m)(K:SS w)(H:pL LL m gd=some true)(I:d<n)(D:lH m x=some (.agg vs.toArray))(b:N1 P t f=some off)(q:vs[off]? =some v)(h: ∀A,Kn n A ((d,v)::m)->TL P ops Q SS n0 LL r (i+1) A w):TL P ops Q SS n0 LL ((some d,.field t x f,gd)::r) i a w:=by
 refine pv k K H I (fun M C R B _=> ?_) h;unfold N1 at b;split at b
 ·rename_i fl N o;split at b
  ·rename_i c;obtain⟨J,l,rfl⟩:=c;injection b with b;subst b;obtain⟨L,l⟩:=da.1 l;obtain⟨O,E,p,F⟩:=uB o;have G:=(aG.1 q).1;have s:=rB (w:=B) (n:=1) (off:=fl.offset) l F vs (by omega) (fun _=>by decide)
   have g:valOf P fl.type ((vs.drop fl.offset).take 1)=v:=by
    have e:(vs.drop fl.offset).take 1=[v] :=by
     apply fc;intro j;rw[ay,aE]
     match j with
     |0=>simpa using q
     |j+1=>simp
    rw[e];simp[valOf,J]
   rw[g]at s;unfold execOp;simp only[k.op D,Instr.field,asAgg];simp[run_underlying E,p,s]
  ·cases b
 ·cases b
end
def results_tmp{fn:Func}{t:Nat}(h:fn.results= #[.tmp t])(tmps:Tbd Tan)(P:Tap)(w:Tam):(results fn tmps).run P w= .ok (tmps.getD t undef) w:=by simp[results,h]
def lP{P:Tap}{fn:Func}{R:Ending->Tae}{a:Act}{w:Tam}{n:Nat}{m:Tab}(b:fn.results= #[])(k:Kn n a m)(h:R (.returned (.tuple #[])) w):bodyPost P fn R .ret a w∧bodyPost P fn R .normal a w:=
 ⟨⟨k.2.1,_,results_none b _ _ _,h⟩,⟨k.2.1,_,results_none b _ _ _,h⟩⟩
def rH{P:Tap}{fn:Func}{R:Ending->Tae}{a:Act}{w:Tam}{n t:Nat}{m:Tab}{v:Tan}(b:fn.results= #[.tmp t])(k:Kn n a m)(e:lk m t=some v)(h:R (.returned v) w):bodyPost P fn R .ret a w∧bodyPost P fn R .normal a w:=by
 have f:=k.2.2 t v e;have c:a.tmps.getD t undef=v:=by simp[f]
 exact⟨⟨k.2.1,_,results_tmp b _ _ _,by rw[c];exact h⟩,⟨k.2.1,_,results_tmp b _ _ _,by rw[c];exact h⟩⟩
def ju{P:Tap}{fn:Func}{R:Ending->Tae}:QP (bodyPost P fn R):=fun c a d v w h=>(by cases d<;>exact h)
def Ew:Tac->Nat->Tab
 | [],_=> []
 |v::r,i=>(i,v)::Ew r (i+1)
def Co: ∀(l:Tac) (i t:Nat) (v:Tan),lk (Ew l i) t=some v->i<=t∧l[t-i]? =some v
 | [],_,_,_,h=>by cases h
 |x::r,i,t,v,h=>by
  simp only[Ew,lk]at h;split at h
  ·rename_i c;have b:t=i:=by simpa using c
   subst b;injection h with h;subst h;exact⟨bf _,by simp⟩
  ·obtain⟨f,e⟩:=Co r (i+1) t v h;refine⟨by omega,?_⟩;rw[show t-i=(t-(i+1))+1 by omega];simpa using e
def Og{n:Nat}{vs:Tac}(h:vs.length<=n):Kn n {tmps:=vs.toArray++Array.replicate (n-vs.toArray.size) undef,defers:=[]} (Ew vs 0):=by refine⟨by simp;omega,rfl,fun t v c=> ?_⟩;obtain⟨_,b⟩:=Co vs 0 t v c;rw[Nat.sub_zero]at b;have e:=(aG.1 b).1;rw[Array.getElem?_append_left (by simpa using e)];simpa using b
def kv{P:Tap}{f:FuncId}{fn:Func}{n:Nat}{c:Code}{vs:Tac}{w:Tam}{R:Ending->Tae}(g:P.funcs[f]? =some fn)(k:fn.body=some (iB fn))(j:iB fn=c)(b:fn.ntmps=n)(e:vs.length<=n)(h: ∀a,Kn n a (Ew vs 0)->c.wp P (bodyPost P fn R) a w):Calls P f vs.toArray w R:=by refine calls_of_wp g k ?_;rw[j,b];exact h _ (Og e)
def aV{P:Tap}{Q:HP}{n:Nat}{a:Act}{w:Tam}{m:Tab}{c:Tbb}{x y:Code}{b:Bool}(k:Kn n a m)(e:lH m c=some (.bool b))(h:(if b then x else y).wp P Q a w):(Code.cond c x y).wp P Q a w:=wp_cond (k.op e) h
section
variable{L L' X X':Tai}{w w' FV:Tam}{S S' LN:bz}{ow bR yI:Ow}
def bD.tr(g:Wf w S ow)(e:Wf w' S' bR)(h:bD L X w S ow w' S' bR)(k:bD L' X' w' S' bR FV LN yI)(p: ∀b,X' b->X b∨w.heap.size<=b):bD (fun l=>L l∨L' l) X w S ow FV LN yI:=by
 refine bD.trans g e h k p ?_;intro b l o c j;cases h0:ow b with
 |none=>rw[h.tL b o h0]at c;cases c
 |some l0=>
  refine⟨l0,rfl,?_⟩;by_cases f:L l0
  ·exact .inl f
  ·rw[h.keep b l0 h0 f]at c;injection c with c;subst c;exact j
def bD.Cq{l:Nat}(e:Wf w S ow)(c:Wf w' S' bR)(h:bD (iE l) X w S ow w' S' bR)(k:bD (iE l) X' w' S' bR FV LN yI)(f: ∀b,X' b->X b∨w.heap.size<=b):bD (iE l) X w S ow FV LN yI:=
 (h.tr e c k f).mono (fun _ h=>h.elim id id) (fun _ h=>h)
def bD.trN{l:Nat}(e:Wf w S ow)(c:Wf w' S' bR)(h:bD ax X w S ow w' S' bR)(k:bD (iE l) X' w' S' bR FV LN yI)(f: ∀b,X' b->X b∨w.heap.size<=b):bD (iE l) X w S ow FV LN yI:=
 (h.tr e c k f).mono (fun _ h=>h.elim (fun h=>h.elim) id) (fun _ h=>h)
def bD.sx{l:Nat}(h:bD (iE l) ax w S ow w' S' bR):SX (fun b=>ow b=some l) w w':=by
 refine⟨h.size,fun b c f=> ?_⟩;cases ho:ow b with
 |none=>exact h.free b c ho (fun h=>h)
 |some l'=>exact h.F3 b l' c ho (fun e=>f (ho.trans (congrArg some e)))
def bD.tu(h:bD ax ax w S ow w' S' bR)(X:Tai):SX X w w':=by
 refine⟨h.size,fun b c _=> ?_⟩;cases ho:ow b with
 |none=>exact h.free b c ho (fun h=>h)
 |some l'=>exact h.F3 b l' c ho (fun h=>h)
def SX.alloc(X:Tai)(w:Tam)(o:Obj):SX X w (w.alloc o):=⟨by simp,fun b c _=>Below.heap_alloc w o b c⟩
def SX.trans{X:Tai}(h:SX X w w')(k:SX X w' FV):SX X w FV:=⟨aW h.1 k.1,fun b e c=>(k.2 b (av e h.1) c).trans (h.2 b e c)⟩
def SX.iu{X:Tai}{l:Nat}(g: ∀b,ow b=some l->X b)(h:bD (iE l) ax w S ow w' S' bR):SX X w w':=⟨h.size,fun b f c=>h.sx.2 b f (fun e=>c (g b e))⟩
def dA.Gj{P:Tap}{l:Nat}{tt T:Tba}{t:Ty}{v:Tan}{xs:Taf}{d:D}(h:dA w S ow l T t v xs)(o:Nn P tt T t=true)(k:t.cells.all Ty.scalar=true)(s:Wf w S ow)(ty:Tba)(B:Nat)(E:Has t d){us:Tac}(g:us.length=t.cells.length)(F:w.heap[B]? =some (.cells us.toArray T (0,0)))(C: ∀(j:Nat) u c,us[j]? =some u->d.cells[j]? =some c->ca w S u c)(e:mK t (xs.length+1)):
  ∃p w',(Builtin.append_ #[tt,tt] ty #[v,.slice (some ⟨B,0,none⟩) 1 1]).run P w= .ok p w'∧ ∃bR,bD (iE l) ax w S ow w' S bR∧Wf w' S bR∧dA w' S bR l T t p (xs++[d]):=by
 refine h.mc (ys:=[d]) o k s ty (some ⟨B,0,none⟩) 1 us (by intro h;cases h) (by rw[g];simp) ?_ (by simpa using E) ?_ e
 ·intro I b j u A;injection b with b;subst b;rw[fJ,ao];exact jm F A
 ·intro i H j u c f G q
  match i,f with
  |0,f=>
   simp at f;subst f;rw[Nat.zero_mul,ao]at q;exact C j u c q G
end
section
variable{w w':Tam}{S:bz}{ow:Ow}{P:Tap}{ops:Tad}{Q:HP}{SS:Tae}{n n0 i d:Nat}{a:Act}{m:Tab}{gd:Tao (Nat×Bool)}{LL r:List OK}{x y z:Tbb}{t:Tba}{v:Tan}
def Gr{el:Tba}{b nn e sz s:Nat}{kk:IntKind}(k:Kn n a m)(q:SS w)(o:pL LL m gd=some true)(p:d<n)(j:lH m x=some (.slice (some ⟨b,0,none⟩) nn e))(g:lH m y=some (.int kk (s:Int)))(l:P.underlying t=some (.slice el))(c:iv P el=some sz)(u:s<nn)(h: ∀f,Kn n f ((d,.pointer (some ⟨b,s*sz,none⟩))::m)->TL P ops Q SS n0 LL r (i+1) f w):TL P ops Q SS n0 LL ((some d,.indexAddr t x y,gd)::r) i a w:=by refine px (off:=0) k q o p j g l c (by omega) (by omega) ?_;rw[ao,bW];exact h
def eF{X:Tai}{b o:Nat}{v:Tan}(e:b<w.heap.size)(f: ¬X b)(h:w.cell? ⟨b,o,none⟩=some v): ∀w',SX X w w'->w'.cell? ⟨b,o,none⟩=some v:=fun w' c=>(bh (c.2 b e f)).trans h
def fG.cell{b j:Nat}{T:Tba}{vs:Tac}{v:Tan}(h:fG w S ow b T vs){X:Tai}(e: ¬X b)(c:vs[j]? =some v): ∀w',SX X w w'->w'.cell? ⟨b,j,none⟩=some v:=eF h.lt e (jm h.heap c)
end
def dA.vK{w:Tam}{S:bz}{ow:Ow}{iu i T:Nat}{v:Tan}{l:Taf}{n:Int}(h:dA w S ow iu T (.int .i64) v l)(hi:l[i]? =some (.int .i64 n)):
  ∃b c,v= .slice (some ⟨b,0,none⟩) l.length c∧b<w.heap.size∧ow b=some iu∧w.cell? ⟨b,i*1,none⟩=some (.int .i64 n):=by
 obtain⟨b,c,f,s,q,p,o,k,j⟩:=h.elem hi;have e:f.length=1:=o
 match f,e with
 | [u],_=>
  have g:=(j 0 u (.int .i64 n) rfl rfl).cn;subst g;exact⟨b,c,s,q,p,k 0 _ rfl⟩
def fG.O{w c:Tam}{S:bz}{ow:Ow}{b:Nat}{T:Tba}{vs:Tac}(h:fG w S ow b T vs)(e:uH w c):fG c S ow b T vs:=h.J (bD.O e ax ax S ow) (fun h=>h)
def N7{p q:Int}(h:p<q):Gg .lss p q=some true:=congrArg some (decide_eq_true h)
def N8{p q:Int}(h: ¬p<q):Gg .lss p q=some false:=congrArg some (decide_eq_false h)
def HM{p q:Int}(h:p>q):Gg .gtr p q=some true:=congrArg some (decide_eq_true h)
def zl{p q:Int}(h: ¬p>q):Gg .gtr p q=some false:=congrArg some (decide_eq_false h)
def bD.eY{L:Tai}{w0 w f:Tam}{S0 S g:bz}{b ow jY:Ow}{l:Nat}(c:Wf w0 S0 b)(j:Wf w S ow)(h:bD L ax w0 S0 b w S ow)(k:bD (iE l) ax w S ow f g jY)(o:L l):bD L ax w0 S0 b f g jY:=
 (h.tr c j k (fun _ h=>h.elim)).mono (fun _ h=>h.elim id (fun e=>by rw[show _=l from e];exact o)) (fun _ h=>h)
def bD.Z{L X:Tai}{w0 w g:Tam}{S0 S j:bz}{c ow jY:Ow}(f:Wf w0 S0 c)(l:Wf w S ow)(h:bD L ax w0 S0 c w S ow)(k:bD ax X w S ow g j jY)(o: ∀b,X b->w0.heap.size<=b):bD L ax w0 S0 c g j jY:=
 (h.tr f l k (fun b h=>.inr (o b h))).mono (fun _ h=>h.elim id (fun e=>e.elim)) (fun _ h=>h)
def bD.W{L:Tai}{w0 w f:Tam}{S0 S:bz}{b ow:Ow}(c:Wf w0 S0 b)(g:Wf w S ow)(h:bD L ax w0 S0 b w S ow)(e:uH w f):bD L ax w0 S0 b f S ow:=h.Z c g (bD.O e ax ax S ow) (fun _ h=>h.elim)
def nE{X:Tai}: ∀b,ax b->X b:=fun _ h=>h.elim
section
variable{P:Tap}{ops:Tad}{Q:HP}{SS:Tae}{n n0 i d:Nat}{a:Act}{w:Tam}{m:Tab}{gd:Tao (Nat×Bool)}{LL r:List OK}{x y z:Tbb}{t t2:Tba}{v:Tan}
def ptB(P:Tap)(t:Tba):Bool:=match P.underlying t with
 |some (.pointer _)=>true
 |_=>false
def Nx{p:Tao Addr}(b:ptB P t=true)(k:Kn n a m)(q:SS w)(j:pL LL m gd=some true)(o:d<n)(g:lH m x=some (.pointer p))(f:lH m y=some (.pointer none))(h: ∀c,Kn n c ((d,.bool p.isSome)::m)->TL P ops Q SS n0 LL r (i+1) c w):TL P ops Q SS n0 LL ((some d,.binOp .neq t x y t2,gd)::r) i a w:=by
 refine pv k q j o (fun C e E w' _=> ?_) h;have B:=k.op g;have A:=k.op f;unfold execOp;unfold ptB at b;split at b
 ·rename_i D l;have u:=pb (w:=w') l p x y;have s:(do eqGuard .neq t x y (.pointer p) (.pointer none);binOp .neq t (.pointer p) (.pointer none):Sem Tan).run P w'= .ok (.bool p.isSome) w':=by rw[u];cases p<;>rfl
  simp only[B,A];rw[bg,s];rfl
 ·cases b
def ca.Nh{w:Tam}{S:bz}{v:Tan}{l:Taf}{t:Ty}{j:Nat}{d:D}(h:ca w S v (.list l))(F:l[j]? =some d)(G:Has t d)(E:0<t.cells.length):
  ∃(b off g:Nat) (us:Tac),v= .slice (some ⟨b,off,none⟩) l.length g∧S b (off+j*t.cells.length)∧us.length=t.cells.length∧(∀(q:Nat) u,us[q]? =some u->w.cell? ⟨b,off+j*t.cells.length+q,none⟩=some u)∧ ∀(q:Nat) u c,us[q]? =some u->d.cells[q]? =some c->ca w S u c:=by
 obtain⟨b,off,g,u,C,p⟩:=h.E2 F;have s:=(cd G).1;refine⟨b,off,g,(List.range t.cells.length).map u,C,?_,by simp,?_,?_⟩
 ·obtain⟨B,_⟩:=p 0 _ (aQ (by omega));rw[s]at B;exact B
 ·intro q y o;rw[ab,cU]at o;obtain⟨k,e,rfl⟩:=o;have f:q<t.cells.length:=by have:=(aG.1 e).1;simpa using this
  have:k=q:=by rw[dp f]at e;injection e with e;exact e.symm
  subst this;obtain⟨_,A,_⟩:=p k _ (aQ (by omega));rw[s]at A;exact A
 ·intro q y c o H;rw[ab,cU]at o;obtain⟨k,e,rfl⟩:=o;have f:q<t.cells.length:=by have:=(aG.1 e).1;simpa using this
  have:k=q:=by rw[dp f]at e;injection e with e;exact e.symm
  subst this;exact(p k c H).2.2
def Wf.nx{w:Tam}{S:bz}{ow:Ow}(h:Wf w S ow){b o l:Nat}(c:S b o)(f:l<1000): ¬ow b=some l:=fun e=>by have:=h.d b o l c e;omega
end
end Go.dI
