/- Part 7 of the proof of RaftLearns; no condition. -/
import Derived.Test.YtjhmkaninmgilaaS06
import Derived.Test.YtjhmkaninmgilaaS05
import Derived.Test.YtjhmkaninmgilaaS04
import Derived.Test.YtjhmkaninmgilaaS03
import Derived.OrdersHeld
import Derived.Deep.LoopGhost
set_option linter.defProp false
set_option linter.unusedVariables false
set_option linter.unusedSimpArgs false
set_option maxHeartbeats 4000000
open Go.IntKind (i64)
namespace Go.Proofs.Ytjhmkaninmgilaa
open Go Go.RowKit Go.dF Go.Proofs
def afB(x:D)(s:RS):Prop:=
 ((true=true->gn s.li s.lt s.le=true))/\(
 let a:=(fM s.li s.lt s.le)
 ((((cD 0 x).q==1)=true->
  ((true=true->Ok s 1))/\(
  True)))/\((((cD 0 x).q==1)=false->
  ((((cD 0 x).q==3)=true->
   ((true=true->Ok s 1))/\(
   True)))/\((((cD 0 x).q==3)=false->
   ((((cD 0 x).q==5)=true->
    ((true=true->Ok s 1))/\(
    True)))/\(True))))))
def QZ(x:D)(s:RS)(a:dx (.V eZ) (encS s))(h:Ok s 1):afB x s:=by
 (repeat' (first|exact trivial|apply And.intro|intro _))
 all_goals first|exact h.may|exact h
def c42:bu Try.prog 42 s42 (pre 42) (cF 42):=by refine zO Us Try.func42 (v:=Zg) ?_;intro e h c;obtain⟨x,_,rfl,d,a⟩:=aJ.1 h;have b:=a;obtain⟨s,rfl⟩:=fU a;refine zH oO iA dN (y:=lE x s) (zE (QZ x s b c))
def Uo:jm Try.prog pre cF Vs:=aR c42 Us
def afA(x:D)(s:RS):Prop:=
 (((((((s.vote==0)||(s.vote==(cD 1 x).q))&&(s.role !=2))==true)&&true)=true->gn s.li s.lt s.le=true))/\(
 let a:=(zS s.li s.lt s.le (cD 4 x).q (cD 5 x).q)
 ((((((s.vote==0)||(s.vote==(cD 1 x).q))&&(s.role !=2))&&a)=true->
  (((s.vote==0)=true->
   (True)/\(
   let c:=fL ({s with vote:=(cD 1 x).q}:RS)
   (True)/\(
   let b:=kA c
   ((true=true->Ok b 1))/\(
   True)))))/\(((s.vote==0)=false->
   (True)/\(
   let d:=kA s
   ((true=true->Ok d 1))/\(
   True))))))/\((((((s.vote==0)||(s.vote==(cD 1 x).q))&&(s.role !=2))&&a)=false->
  ((true=true->Ok s 1))/\(
  True))))
def QY(x:D)(s:RS)(a:dx (.V eZ) (encS s))(h:Ok s 1):afA x s:=by
 (repeat' (first|exact trivial|apply And.intro|intro _))
 all_goals first|exact h.may|exact h|exact h.same iR
def c43:bu Try.prog 43 s43 (pre 43) (cF 43):=by refine zO Uo Try.func43 (v:=Zf) ?_;intro e h c;obtain⟨x,_,rfl,d,a⟩:=aJ.1 h;have b:=a;obtain⟨s,rfl⟩:=fU a;refine zH oO iA dN (y:=nU x s) (zE (QY x s b c))
def Un:jm Try.prog pre cF Vr:=aR c43 Uo
def afz(x:D)(s:RS):Prop:=
 (True)/\((((s.role !=1)||(cD 7 x).W)=false->
  (true=true->((s.aX++([(cD 1 x)]:Taf)):Taf).length<=maxLen/\((s.aX++([(cD 1 x)]:Taf)):Taf).length*8<=140737488355328)/\(
  ((true=true->Ok ({s with aX:=(s.aX++([(cD 1 x)]:Taf))}:RS) 0))/\(
  let b:=(dR ({s with aX:=(s.aX++([(cD 1 x)]:Taf))}:RS))
  (True)/\(
  let a:=(ju (aC 2 b []) (D.list (s.aX++([(cD 1 x)]:Taf))))
  ((a=true->
   ((true=true->Ok ({s with aX:=(s.aX++([(cD 1 x)]:Taf))}:RS) 13))/\(
   True)))/\(True))))))
def QX(x:D)(s:RS)(e:dx (.V eZ) (encS s))(h:Ok s 15):afz x s:=by
 have d:=h.nv
 have b:∀k,k+1<=15->Ok ({s with aX:=s.aX++[cD 1 x]}:RS) k:=fun k c=>
  have a:=h.le c
  ⟨a.may,a.uA,a.vj,by have:=a.rI;show s.le.length+k<=_;omega,by have:=a.nm;show s.msgs.length+k<=_;omega,by have:=a.ne;show s.dX.length+k<=_;omega,by have:=a.nc;have:=DF k;show s.bM.length+G k<=_;omega,by have:=a.nv;show(s.aX++[cD 1 x]).length+k<=_;rw[ai,aW];omega,a.cf,a.cs,a.cl,a.tm,a.tx,a.rd⟩
 refine⟨trivial,fun _=>⟨fun _=>?_,fun _=>b 0 (by omega),trivial,fun _=>⟨fun _=>b 13 (by omega),trivial⟩,trivial⟩⟩;show(s.aX++[cD 1 x]).length<=maxLen/\(s.aX++[cD 1 x]).length*8<=_;rw[ai,aW];simp only[maxLen];omega
def c44:bu Try.prog 44 s44 (pre 44) (cF 44):=by refine zO Un Try.func44 (v:=Ze) ?_;intro e h c;obtain⟨x,_,rfl,d,a⟩:=aJ.1 h;have b:=a;obtain⟨s,rfl⟩:=fU a;refine zH oO iA dN (y:=kO x s) (zE (QX x s b c))
def Um:jm Try.prog pre cF Vq:=aR c44 Un
def c75:bu Try.prog 75 Yb (pre 75) (cF 75):=by refine zO Um Try.func75 (v:=YT) ?_;intro e h d;obtain⟨x,_,rfl,b,a⟩:=aJ.1 h;have c:=a;obtain⟨s,rfl⟩:=fU a;refine zH TI JU (false,dN) (y:=gR x s) zK
def TS:jm Try.prog pre cF Zy:=aR c75 Um
def agl:bu Try.prog 65 Z5 (pre 65) (cF 65):=by
 refine zO TS Try.func65 (v:=Sb) ?_;intro C h b;obtain⟨_,_,rfl,⟨f,rfl,o⟩,_,_,rfl,⟨m,rfl,k⟩,_,_,rfl,⟨i,rfl,w⟩,_,_,rfl,⟨t,rfl,u⟩,_,_,rfl,⟨l,rfl,a,x⟩,rfl⟩:=h;have p:cF 65 [.int i64 f,.int i64 m,.int i64 i,.int i64 t,.list l]=.ff [.list (gu i l f m),qp i t l]:=rfl;simp[Sb,fp,ev,ep,cN,eu,dC,fo,ft,fq,fX,den,U.den,B.den,fC,bc,db,eF,eD,eE,fD,bU,cV,pre,p,qp];replace b:okB i t=true:=b;rw[ui]at o k;obtain⟨s,j,_,_⟩:=jE.1 b;have c:=a.1;have e:=a.2;rw[ou]at e;simp only[maxLen,MX]at c j⊢;refine⟨?_,fun A z=>?_⟩
 .intro h;unfold gu;by_cases d:m<1\/f<=i
  .rw[if_pos d]
  rw[if_neg d];have r:=h.resolve_left d;rw[wrap64 (n:=f-i) (by omega) (by omega),wrap64 (by omega) (by omega)]at r;rw[bL (by omega)];simp
 rw[wrap64 (n:=f-i) (by omega) (by omega),wrap64 (n:=f-i-1) (by omega) (by omega)];intro y;rw[wrap64 (n:=(l.length:Int)-(f-i-1)) (by omega) (by omega)];have g:gu i l f m=(l.drop (f-i-1).toNat).take m.toNat:=by unfold gu;rw[if_neg (by omega)]
 refine⟨fun q=>?_,fun q=>?_⟩
 .rw[wrap64 (n:=f-i-1+m) (by omega) (by omega)];refine⟨by omega,⟨by omega,aY (aw 320 (by omega)) e⟩,?_⟩;rw[g,List.drop_take];congr 1;omega
 refine⟨by omega,⟨by omega,aY (aw 320 (by omega)) e⟩,?_⟩;rw[g,eM (by rw[ba];omega)]
def OH:jm Try.prog pre cF MR:=aR agl TS
def afy(x:D)(s:RS):Prop:=
 (True)/\(
 let lK:=gR (aC 46 x []) s
 (True)/\(((!lK.1)=false->
  ((decide ((cD 4 x).q<lK.2.bB)=true->
   ((true=true->Ok lK.2 1))/\(
   True)))/\((decide ((cD 4 x).q<lK.2.bB)=false->
   ((true=true->gn lK.2.li lK.2.lt lK.2.le=true/\lK.2.le.length<4294967296/\(cD 12 x).A.length<4294967296))/\(
   let nQ:=vP lK.2.li lK.2.lt lK.2.le (cD 4 x).q (cD 5 x).q (cD 12 x).A
   (((!nQ.1.2)=true->
    ((true=true->gn nQ.2.1 nQ.2.2.1 nQ.2.2.2=true))/\(
    let e:=(fM nQ.2.1 nQ.2.2.1 nQ.2.2.2)
    ((true=true->Ok ({lK.2 with li:=nQ.2.1,lt:=nQ.2.2.1,le:=nQ.2.2.2}:RS) 1))/\(
    True))))/\(((!nQ.1.2)=false->
    ((decide (nQ.1.1>0)=true->
     (True)/\(
     let a:=fL ({lK.2 with li:=nQ.2.1,lt:=nQ.2.2.1,le:=nQ.2.2.2}:RS)
     ((true=true->okB a.li a.lt=true))/\(
     let b:=eJ a.li a.lt a.le nQ.1.1 (i64.wrap ((cD 4 x).q+(((cD 12 x).A:Taf).length:Int)))
     ((true=true->Ok ({a with dX:=b}:RS) 1))/\(
     let c:=en (iN (cD 6 x).q (i64.wrap ((cD 4 x).q+(((cD 12 x).A:Taf).length:Int)))) ({a with dX:=b}:RS)
     ((true=true->Ok c.2 1))/\(
     True))))))/\((decide (nQ.1.1>0)=false->
     ((true=true->Ok ({lK.2 with li:=nQ.2.1,lt:=nQ.2.2.1,le:=nQ.2.2.2}:RS) 1))/\(
     let d:=en (iN (cD 6 x).q (i64.wrap ((cD 4 x).q+(((cD 12 x).A:Taf).length:Int)))) ({lK.2 with li:=nQ.2.1,lt:=nQ.2.2.1,le:=nQ.2.2.2}:RS)
     ((true=true->Ok d.2 1))/\(
     True))))))))))))
def QW(x:D)(s:RS)(d:dx (.V eZ) (encS s))(h:Ok s (4+(cD 12 x).A.length)/\(cD 12 x).A.length<=2147483648/\eW (cD 12 x).A=true):afy x s:=by
 obtain⟨h,e,c⟩:=h;have b:Ok (gR (aC 46 x []) s).2 (4+(cD 12 x).A.length):=h.vH;refine⟨trivial,?_⟩;intro lK;change Ok lK.2 _ at b
 clear_value lK
 have a:=cK.accept (k:=4) (pi:=(cD 4 x).q) (pt:=(cD 5 x).q) b c;have f:=b.rI;refine⟨trivial,fun _=>⟨fun _=>⟨fun _=>b.le (by omega),trivial⟩,fun _=>⟨fun _=>⟨b.may,by omega,by omega⟩,?_⟩⟩⟩
 (repeat' (first|exact trivial|apply And.intro|intro _))
 all_goals first
  |exact a.may
  |exact a.MB
  |exact a.le (by omega)
  |exact(cK.dX a).le (by omega)
  |exact cK.bM ((cK.dX a).le (by omega))
  |exact cK.bM (a.le (by omega))
def c45:bu Try.prog 45 s45 (pre 45) (cF 45):=by refine zO OH Try.func45 (v:=Zd) ?_;intro e h c;obtain⟨x,_,rfl,d,a⟩:=aJ.1 h;have b:=a;obtain⟨s,rfl⟩:=fU a;refine zH oO iA dN (y:=jj x s) (zE (QW x s b c))
def Ul:jm Try.prog pre cF Vp:=aR c45 OH
def afo(x:D)(s:RS):Prop:=
 ((true=true->Ok s 0))/\(
 let a:=(dR s)
 VC.EP cF pre iA (fun _ _ l=>kb x s a (l.getD 0 .top).A (l.getD 1 .top).q (rK (l.drop 2))) [] (VC.lp 67 U8) (fC (fun i=>([x]++encS s).getD i .top) 57 (a)))
def acf(x:D)(s:RS)(e:D)(d:Taf)(a:Int)(b:RS):Prop:=
 ((decide (a<(s.reads.length:Int))=true->
  (true=true->((decide (0<=a))&&(decide (a<(s.reads.length:Int))))=true)/\(
  ((((decide ((cD 8 x).q≥((cD 2 ((s.reads).getD (a:Int).toNat .top)).q)))&&(decide ((cD 8 x).q<=b.round)))=true->
   False))/\((((decide ((cD 8 x).q≥((cD 2 ((s.reads).getD (a:Int).toNat .top)).q)))&&(decide ((cD 8 x).q<=b.round)))=false->
   (True)/\(
   let c:=(ju (aC 2 e []) (cD 3 ((s.reads).getD (a:Int).toNat .top)))
   ((c=true->
    (true=true->((b.rX++([aC 2 ((s.reads).getD (a:Int).toNat .top) []]:Taf)):Taf).length<=maxLen/\((b.rX++([aC 2 ((s.reads).getD (a:Int).toNat .top) []]:Taf)):Taf).length*16<=140737488355328)/\(
    True)))/\((c=false->
    (true=true->((d++([aC 4 ((s.reads).getD (a:Int).toNat .top) []]:Taf)):Taf).length<=maxLen/\((d++([aC 4 ((s.reads).getD (a:Int).toNat .top) []]:Taf)):Taf).length*48<=140737488355328)/\(
    True)))))))))/\(True)
def QK(x:D)(s:RS)(i:dx (.V eZ) (encS s))(h:Ok s 0):afo x s:=by
 refine⟨fun _=>h,?_⟩;intro b
 clear_value b
 have e:=h.rd;refine VC.js 67 (by kernel_rfl) ?_;refine VC.iq (Φ:=cF) (Pre:=pre) (triv:=triv) (v0:=67) (decL:=fun l=>((l.getD 0 .top).A,(l.getD 1 .top).q,rK (l.drop 2))) (encL:=fun a:Taf×Int×RS=>([D.list a.1,D.int i64 a.2.1]++Hc a.2.2)) (dec:=oO) (enc:=iA) (lp:=fun _ _ _ _=>dN) (bad:=.inr dN) (bd:=dN) (by kernel_rfl) (fun a:Taf×Int×RS=>ka x s b a.1 a.2.1 a.2.2) (fun a:Taf×Int×RS=>0<=a.2.1) (fun a:Taf×Int×RS=>wI x s b a.1 a.2.1 a.2.2) ([],0,s) kH (by kernel_rfl) ?RV (fun a=>rfl) ?RY (by kernel_rfl) (fun a d=>by kernel_rfl) (fun a=>by kernel_rfl) (fun a=>by kernel_rfl) (fun a d g=>zE (β:=acf x s b a.1 a.2.1 a.2.2) ?EV) (by kernel_rfl)
 .exact ar 0
 .rintro⟨l,j,t⟩ f;replace f:0<=j:=f;unfold ka;rw[if_neg (by rw[e,bk];simp only[fj];omega)];trivial
 obtain⟨l,j,t⟩:=a;replace d:0<=j:=d;refine⟨fun c=>?_,trivial⟩;rw[e,bk]at c;simp only[fj]at c;omega
def c77:bu Try.prog 77 nQ (pre 77) (cF 77):=by refine hZ (given:=[(4,{boxes:=yK})]) mix Ul Try.func77 rfl (by kernel_rfl) (v:=U8) (by kernel_rfl) ?_;intro f h d;obtain⟨x,_,rfl,e,b⟩:=aJ.1 h;have c:=b;obtain⟨s,rfl⟩:=fU b;refine zL oO iA dN (fun _ _ l=>(let a:=(dR s);kb x s a (l.getD 0 .top).A (l.getD 1 .top).q (rK (l.drop 2)))) (y:=fN x s) (zE (QK x s c d))
def TQ:jm Try.prog pre cF Vg:=aR c77 Ul
@[irreducible] def xK (i l:Int) (t:RS) (q:RS->Int):Prop:=
 (true=true->Ok t 1)/\(((((gS t).role==2)&&(decide (q (gS t)<=l)))=true->(true=true->Ok (gS t) 1/\(0:Int)<=i/\i<=5)/\True)/\True)
def afn(x:Int)(y:Int)(s:RS):Prop:=
 (true=true->gn s.li s.lt s.le=true)/\(
 let l:=(fM s.li s.lt s.le).1
 X8 x (xK 0 l {s with GQ:=ER s.GQ y l,Bx:=GV s.GQ s.Bx y l,EN:=0} RS.Bx) (xK 1 l {s with BW:=ER s.BW y l,yC:=GV s.BW s.yC y l,EM:=0} RS.yC) (xK 2 l {s with BV:=ER s.BV y l,yB:=GV s.BV s.yB y l,EL:=0} RS.yB) (xK 3 l {s with BU:=ER s.BU y l,yA:=GV s.BU s.yA y l,EK:=0} RS.yA) (xK 4 l {s with BT:=ER s.BT y l,yz:=GV s.BT s.yz y l,EJ:=0} RS.yz) (xK 5 l {s with BS:=ER s.BS y l,yx:=GV s.BS s.yx y l,EI:=0} RS.yx))
def Pb{s t:RS}{i l:Int}{q:RS->Int}(h:Ok s 2)(e:er t=er s)(c:0<=i)(b:i<=5):xK i l t q:=by unfold xK;have a:=h.same (lD e);exact⟨fun _=>a.le (by omega),fun _=>⟨fun _=>⟨cK.agree (k:=1) a,c,b⟩,trivial⟩,trivial⟩
def QJ(x:Int)(y:Int)(s:RS)(d:jX i64 x)(c:jX i64 y)(e:dx (.V eZ) (encS s))(h:Ok s 2/\0<=x/\x<=5):afn x y s:=by obtain⟨h,b,a⟩:=h;refine⟨fun _=>h.may,zx b a ?_ ?_ ?_ ?_ ?_ ?_⟩<;>exact Pb h rfl (by decide) (by decide)
def c78:bu Try.prog 78 Ya (pre 78) (cF 78):=by refine hZ (given:=[(1,{drop:=[4006001]})]) mix TQ Try.func78 rfl (by kernel_rfl) (v:=YS) (by kernel_rfl) ?_;intro g h e;obtain⟨_,_,rfl,⟨x,rfl,c⟩,f⟩:=aJ.1 h;obtain⟨_,_,rfl,⟨y,rfl,b⟩,a⟩:=aJ.1 f;have d:=a;obtain⟨s,rfl⟩:=fU a;refine zH oO iA dN (y:=tY x y s) (zE (QJ x y s c b d e))
def TP:jm Try.prog pre cF Vf:=aR c78 TQ
@[irreducible] def xM (i:Int) (u t:RS) (b:Bool):Prop:=
 (b=true->(true=true->gn u.li u.lt u.le=true)/\((true=true->Ok t 1/\(0:Int)<=i/\i<=5)/\True))/\(b=false->(true=true->Ok u 2/\(0:Int)<=i/\i<=5)/\True)
def afx(x:D)(s:RS):Prop:=
 ((((s.role !=2)==false)&&true)=true->Ok s 0)/\((True)/\(((s.role !=2)||(!(pf (cD 1 x).q s)))=false->
  (true=true->Ok s 0)/\(
  let u:=fN (aC 46 x []) s
  X8 (cD 1 x).q (xM 0 u {u with Bx:=Jv u.GQ u.Bx (cD 4 x).q u} (cD 7 x).W) (xM 1 u {u with yC:=Jv u.BW u.yC (cD 4 x).q u} (cD 7 x).W) (xM 2 u {u with yB:=Jv u.BV u.yB (cD 4 x).q u} (cD 7 x).W) (xM 3 u {u with yA:=Jv u.BU u.yA (cD 4 x).q u} (cD 7 x).W) (xM 4 u {u with yz:=Jv u.BT u.yz (cD 4 x).q u} (cD 7 x).W) (xM 5 u {u with yx:=Jv u.BS u.yx (cD 4 x).q u} (cD 7 x).W))))
def Pe{u t:RS}{i:Int}{b:Bool}(h:Ok u 4)(e:er t=er u)(c:0<=i)(a:i<=5):xM i u t b:=by unfold xM;exact⟨fun _=>⟨fun _=>h.may,fun _=>⟨cK.alike h (by omega) (lD e),c,a⟩,trivial⟩,fun _=>⟨fun _=>⟨h.le (by omega),c,a⟩,trivial⟩⟩
def QV(x:D)(s:RS)(d:dx (.V eZ) (encS s))(h:Ok s 4/\0<=(cD 1 x).q/\(cD 1 x).q<=5):afx x s:=by obtain⟨h,c,b⟩:=h;refine⟨fun _=>h.le (by omega),trivial,fun _=>⟨fun _=>h.le (by omega),?_⟩⟩;have a:Ok (fN (aC 46 x []) s) 4:=h.om;refine zx c b ?_ ?_ ?_ ?_ ?_ ?_<;>exact Pe a rfl (by decide) (by decide)
def c46:bu Try.prog 46 s46 (pre 46) (cF 46):=by refine hZ (given:=[(3,{drop:=[5106003]})]) mix TP Try.func46 rfl (by kernel_rfl) (v:=Zc) (by kernel_rfl) ?_;intro e h c;obtain⟨x,_,rfl,d,a⟩:=aJ.1 h;have b:=a;obtain⟨s,rfl⟩:=fU a;refine zH oO iA dN (y:=hH x s) (zE (QV x s b c))
def Uk:jm Try.prog pre cF Vo:=aR c46 TP
@[irreducible] def xL (i:Int) (t:RS):Prop:=(true=true->Ok t 1/\(0:Int)<=i/\i<=5)/\True
def afw(x:D)(s:RS):Prop:=
 ((((s.role !=2)==false)&&true)=true->Ok s 0)/\((True)/\(((s.role !=2)||(!(pf (cD 1 x).q s)))=false->
  (((!(cD 7 x).W)&&((cD 10 x).q==0))=true->(true=true->Ok s 2/\(0:Int)<=(cD 1 x).q/\((cD 1 x).q:Int)<=5)/\True)/\(((!(cD 7 x).W)&&((cD 10 x).q==0))=false->
   (((cD 4 x).q==s.pZ)=true->X8 (cD 1 x).q (xL 0 {s with EN:=jv (cD 9 x).q s}) (xL 1 {s with EM:=jv (cD 9 x).q s}) (xL 2 {s with EL:=jv (cD 9 x).q s}) (xL 3 {s with EK:=jv (cD 9 x).q s}) (xL 4 {s with EJ:=jv (cD 9 x).q s}) (xL 5 {s with EI:=jv (cD 9 x).q s}))/\True)))
def Pc{s t:RS}{i:Int}(h:Ok s 4)(e:er t=er s)(b:0<=i)(a:i<=5):xL i t:=by unfold xL;exact⟨fun _=>⟨cK.alike h (by omega) (lD e),b,a⟩,trivial⟩
def QT(x:D)(s:RS)(c:dx (.V eZ) (encS s))(h:Ok s 4/\0<=(cD 1 x).q/\(cD 1 x).q<=5):afw x s:=by obtain⟨h,b,a⟩:=h;refine⟨fun _=>h.le (by omega),trivial,fun _=>⟨fun _=>⟨fun _=>⟨h.le (by omega),b,a⟩,trivial⟩,fun _=>⟨fun _=>zx b a ?_ ?_ ?_ ?_ ?_ ?_,trivial⟩⟩⟩<;>exact Pc h rfl (by decide) (by decide)
def c48:bu Try.prog 48 s48 (pre 48) (cF 48):=by refine hZ (given:=[(5,{drop:=[5106003]})]) mix Uk Try.func48 rfl (by kernel_rfl) (v:=Za) (by kernel_rfl) ?_;intro e h c;obtain⟨x,_,rfl,d,a⟩:=aJ.1 h;have b:=a;obtain⟨s,rfl⟩:=fU a;refine zH oO iA dN (y:=iH x s) (zE (QT x s b c))
def Ui:jm Try.prog pre cF ZR:=aR c48 Uk
def c27:bu Try.prog 27 s27 (pre 27) (cF 27):=by refine zF Ui Try.func27 (v:=aeP) ?_;intro c h a;obtain⟨_,_,rfl,⟨_,rfl,_,_,rfl,⟨i,rfl,_⟩,_,_,rfl,⟨t,rfl,_⟩,_,_,rfl,⟨v,rfl,_,_⟩,_,_,rfl,⟨l,rfl,_,_⟩,_,_,rfl,⟨b,rfl,_,_⟩,rfl⟩,rfl⟩:=h;refine zH id id .top (y:=Qk _) zK
def UA:jm Try.prog pre cF Vy:=aR c27 Ui
def af8:∀k q,lk JS k=some q->∃A t,q.nn=some (A,t)/\Qo Try.prog k A (pre k) (cF k):=by
 intro k q h;unfold JS lk lk at h;split at h
 .rename_i H;subst H;injection h with h;subst h;refine⟨_,_,rfl,cnw,?_⟩;intro N g w S K J E Q M j f B C;injection g with g;subst g;have I:=List.length_eq_zero_iff.1 j.len;subst I;simp only[List.flatten_nil,dh]at f B C;obtain⟨x,r,rfl,P,o⟩:=aJ.1 f;obtain⟨y,r,rfl,O,o⟩:=aJ.1 o;obtain rfl:=dy.1 o;have s:=j.args
  match E,s with
  | [u,v],s=>
   obtain⟨G,F,_⟩:=s;refine(cnl.calls rfl w S [u,v] [x,y] j.lt rfl ?_ f ⟨B,C⟩).mono ?_
   .intro i z d a m
    match i with
    |0=>injection a with a;injection m with m;subst a m;exact G
    |1=>injection a with a;injection m with m;subst a m;exact F
    |n+2=>cases a
   rintro e D ⟨z,S',τ',rfl,hb,_,_,_,mE,_⟩;refine⟨?_,hb⟩;rcases mE with⟨c,p,hq⟩|⟨p,_⟩
   .injection p with p;subst p;obtain⟨L,b,l⟩:=hq;injection b with b;subst b;have o:cg D S' z .gI:=l.1;rw[o.sq]
   exact absurd rfl p
 cases h
@[irreducible] def B1 (x:D) (u:RS) (pd:Taf) (t:RS):Prop:=
 (True)/\(
 let n:=(lT (cD 4 x).q (cD 5 x).q)
 (((cD 0 n).iV=true->
  (True)/\((true=true->Ok t 1)/\True))/\((cD 0 n).iV=false->
  (True)/\(
  let g:=(gF (D.agg [(cD 13 x),(cD 14 x)]))
  ((((((pd.length:Int) !=(cD 10 x).q)||(decide ((cD 10 x).q<1)))&&true)||(!g))=true->
   (true=true->Ok t 1)/\True)/\((((((pd.length:Int) !=(cD 10 x).q)||(decide ((cD 10 x).q<1)))&&true)||(!g))=false->
   (True)/\(
   let f:=(qK (D.agg [(cD 13 x),(cD 14 x)]))
   (true=true->gn u.li u.lt u.le=true)/\(
   let y:=(jB u.li u.lt u.le (cD 4 x).q);let o:=(Qk (D.agg [(cD 4 x),(cD 5 x),(cD 0 f),(cD 1 f),D.list pd]));let v:RS:={u with il:=(D.ptr [(cD 0 o),(cD 1 o),(cD 2 o),(cD 3 o),(cD 4 o)]),pZ:=(cD 4 x).q,ng:=(cD 5 x).q,sv:=(cD 0 f).A,sl:=(cD 1 f).A,gN:=pd,bB:=(cD 4 x).q,nW:=0,qc:=0,lW:=0,wV:=0,lV:=0,fR:=[]}
   (((y.2==0)&&(y.1==(cD 5 x).q))=true->
    (true=true->gn u.li u.lt u.le=true)/\(
    let c:=iY u.li u.lt u.le (cD 4 x).q
    (True)/\((True)/\((true=true->Ok (fL {v with li:=c.2.1,lt:=c.2.2.1,le:=c.2.2.2}) 1)/\True))))/\(((y.2==0)&&(y.1==(cD 5 x).q))=false->
    (True)/\((True)/\((true=true->Ok (fL {v with li:=((cD 0 (cD 1 n)).q),lt:=((cD 1 (cD 1 n)).q),le:=((cD 2 (cD 1 n)).A)}) 1)/\True))))))))))
def aaa(x:D)(s:RS):Prop:=
 (True)/\(
 let u:=(gR (aC 46 x []) s).2;let k:=fun p:Taf=>(((cD 9 x).q==(p.length:Int))&&(decide (((cD 15 x).A.length:Int)<=(i64.wrap ((cD 10 x).q-(p.length:Int))))))&&ny (cD 10 x).q 1 1048576;let t:RS:={u with nW:=(cD 3 x).q,qc:=(cD 1 x).q,lW:=(cD 4 x).q,wV:=(cD 5 x).q,lV:=(cD 10 x).q}
 (True)/\(((!(gR (aC 46 x []) s).1)=false->
  (decide ((cD 4 x).q<=u.bB)=true->(true=true->Ok u 1)/\True)/\(decide ((cD 4 x).q<=u.bB)=false->
   (((!(((((u.nW==(cD 3 x).q)&&(u.qc==(cD 1 x).q))&&(u.lW==(cD 4 x).q))&&(u.wV==(cD 5 x).q))&&(u.lV==(cD 10 x).q)))||((cD 9 x).q==0))=true->
    (True)/\(k []=true->(true=true->([]++(cD 15 x).A).length<=maxLen/\([]++(cD 15 x).A).length*1<=140737488355328)/\B1 x u ([]++(cD 15 x).A) {t with fR:=[]++(cD 15 x).A})/\(k []=false->B1 x u [] {t with fR:=[]}))/\(((!(((((u.nW==(cD 3 x).q)&&(u.qc==(cD 1 x).q))&&(u.lW==(cD 4 x).q))&&(u.wV==(cD 5 x).q))&&(u.lV==(cD 10 x).q)))||((cD 9 x).q==0))=false->
    (True)/\(k u.fR=true->(true=true->(u.fR++(cD 15 x).A).length<=maxLen/\(u.fR++(cD 15 x).A).length*1<=140737488355328)/\B1 x u (u.fR++(cD 15 x).A) {u with fR:=u.fR++(cD 15 x).A})/\(k u.fR=false->B1 x u u.fR u))))))
def Pd{x:D}{u t:RS}{p:Taf}(e:Ok u 2)(j:BF u t):B1 x u p t:=by
 have m:∀(t:RS) (c:Int),(t.li,t.lt,t.le)=iT u.li u.lt u.le c->gF (.agg [.list t.sv,.list t.sl])=true->(t.id=u.id/\t.msgs=u.msgs/\t.dX=u.dX/\t.bM=u.bM/\t.aX=u.aX/\t.fv=u.fv/\t.fl=u.fl/\t.term=u.term/\t.reads=u.reads)->Ok (fL t) 1:=fun t c h g f=>cK.saved (e.MS (by omega) h g f);have l:∀(t:RS) (i n:Int),¬(cD 0 (lT i n)).iV=true->(t.li,t.lt,t.le)=((cD 0 (cD 1 (lT i n))).q,(cD 1 (cD 1 (lT i n))).q,(cD 2 (cD 1 (lT i n))).A)->gF (.agg [.list t.sv,.list t.sl])=true->(t.id=u.id/\t.msgs=u.msgs/\t.dX=u.dX/\t.bM=u.bM/\t.aX=u.aX/\t.fv=u.fv/\t.fl=u.fl/\t.term=u.term/\t.reads=u.reads)->Ok (fL t) 1:=fun t i n o h g f=>cK.saved (e.Sp (by omega) o h g f);have d:∀a b:Bool,(a|| !b)=false->b=true:=by intro a b;cases a<;>cases b<;>simp
 unfold B1
 (repeat' (first|exact trivial|apply And.intro|intro _))
 all_goals first
  |exact e.may
  |exact(e.same j).le (by omega)
  |(refine m _ (cD 4 x).q ?_ ?_ ?_;exact rfl;exact d _ _ ‹(_|| !_)=false›;exact⟨rfl,rfl,rfl,rfl,rfl,rfl,rfl,rfl,rfl⟩)
  |(refine l _ (cD 4 x).q (cD 5 x).q ?_ ?_ ?_ ?_;exact(fun k=>absurd (‹D.iV _=false›.symm.trans k) (by decide));exact rfl;exact d _ _ ‹(_|| !_)=false›;exact⟨rfl,rfl,rfl,rfl,rfl,rfl,rfl,rfl,rfl⟩)
def QU(x:D)(s:RS)(f:dx (.V eZ) (encS s))(h:Ok s 2):aaa x s:=by
 have d:Ok (gR (aC 46 x []) s).2 2:=h.vH;have c:(gR (aC 46 x []) s).2.fR.length<=140737488355328:=aY (Gz _ s) (Lm f);unfold aaa;generalize gR (aC 46 x []) s=lK at d c
 have b:∀(p e:Taf),p.length<=140737488355328->((e.length:Int)<=IntKind.wrap i64 ((cD 10 x).q-(p.length:Int)))->ny (cD 10 x).q 1 1048576=true->(p++e).length<=maxLen/\(p++e).length*1<=140737488355328:=by intro p e c i g;simp only[ny,aT,bk]at g;rw[wrap64 (by omega) (by omega)]at i;simp only[ai,maxLen];omega
 (repeat' (first|exact trivial|apply And.intro|intro _))
 all_goals first
  |(with_reducible exact d.le (by omega))
  |(refine Pd d ?_;exact iR)
  |(rename_i a _
    replace a:(((_&&_)&&_)=true):=a;simp only[aT,bk]at a
    first
      |exact(b [] _ (aF _) a.1.2 a.2).1
      |exact(b [] _ (aF _) a.1.2 a.2).2
      |exact(b _ _ c a.1.2 a.2).1
      |exact(b _ _ c a.1.2 a.2).2)
def c47:bu Try.prog 47 s47 (pre 47) (cF 47):=by refine Gr (given:=[(21,{drop:=[9000000010]})]) (et:=JS) mix UA af8 Try.func47 rfl (by kernel_rfl) (v:=Zb) (by kernel_rfl) ?_;intro e h c;obtain⟨x,_,rfl,d,a⟩:=aJ.1 h;have b:=a;obtain⟨s,rfl⟩:=fU a;refine zH oO iA dN (y:=nV x s) (zE (QU x s b c))
def Uj:jm Try.prog pre cF Vn:=aR c47 UA
@[irreducible] def JK (x:D) (t:RS):Prop:=
 (decide ((cD 3 x).q<t.term)=true->(true=true->Ok t 1)/\True)/\(decide ((cD 3 x).q<t.term)=false->
  (((cD 0 x).q==1)=true->(true=true->Ok t 1)/\True)/\(((cD 0 x).q==1)=false->
  (((cD 0 x).q==2)=true->(true=true->Ok t 15)/\True)/\(((cD 0 x).q==2)=false->
  (((cD 0 x).q==3)=true->(true=true->Ok t (4+(cD 12 (aC 46 x [])).A.length)/\(cD 12 (aC 46 x [])).A.length<=2147483648/\eW (cD 12 (aC 46 x [])).A=true)/\True)/\(((cD 0 x).q==3)=false->
  (((cD 0 x).q==4)=true->(true=true->Ok t 4/\0<=(cD 1 (aC 46 x [])).q/\(cD 1 (aC 46 x [])).q<=5)/\True)/\(((cD 0 x).q==4)=false->
  (((cD 0 x).q==5)=true->(true=true->Ok t 2)/\True)/\(((cD 0 x).q==5)=false->
  (((cD 0 x).q==6)=true->(true=true->Ok t 4/\0<=(cD 1 (aC 46 x [])).q/\(cD 1 (aC 46 x [])).q<=5)/\True)/\True))))))
def afJ(x:D)(s:RS):Prop:=
 (True)/\((True)/\((((decide ((((cD 12 x).A:Taf).length:Int)>0)==true)&&((decide ((cD 5 x).q>(cD 3 x).q)==false)&&true))=true->((decide (0<=(i64.wrap ((((cD 12 x).A:Taf).length:Int)-1))))&&(decide ((i64.wrap ((((cD 12 x).A:Taf).length:Int)-1))<(((cD 12 x).A:Taf).length:Int))))=true)/\(
 (True)/\((True)/\((((decide ((cD 5 x).q>(cD 3 x).q))||((decide ((((cD 12 x).A:Taf).length:Int)>0))&&(decide (((cD 1 (((cD 12 x).A).getD ((i64.wrap ((((cD 12 x).A:Taf).length:Int)-1)):Int).toNat .top)).q)>(cD 3 x).q))))||(!eW (cD 12 x).A))=false->
  (True)/\((((!(((((cD 2 x).q==s.id)&&((cD 1 x).q !=s.id))&&ny (cD 1 x).q 1 5)&&ny (cD 3 x).q 1 1099511627776))||(decide ((cD 0 x).q<1)))||(decide ((cD 0 x).q>6)))=false->
   (decide ((cD 3 x).q>s.term)=true->(True)/\JK x (eR (cD 3 x).q 0 s))/\(decide ((cD 3 x).q>s.term)=false->JK x s)))))))
def Q9(x:D)(s:RS)(p:dx (.V eZ) (encS s))(h:Ok s (20+(cD 12 x).A.length)/\(cD 12 x).A.length<=2147483648):afJ x s:=by
 obtain⟨h,l⟩:=h;refine⟨trivial,trivial,fun j=>?_,trivial,trivial,fun e=>⟨trivial,fun b=>?_⟩⟩
 .simp only[aT,beq_iff_eq,bk]at j;have q:0<(cD 12 x).A.length:=by have:=j.1;omega
  show(decide (0<=IntKind.wrap i64 (((cD 12 x).A.length:Int)-1))&&decide (IntKind.wrap i64 (((cD 12 x).A.length:Int)-1)<((cD 12 x).A.length:Int)))=true;rw[wrap64 (by omega) (by omega),aT,bk,bk];omega
 have g:eW (cD 12 x).A=true:=vY (by rw[e];simp)
 have f:ny (cD 1 x).q 1 5=true/\ny (cD 3 x).q 1 1099511627776=true:=by simp only[Bool.or_eq_false_iff,Bool.not_eq_false',aT]at b;exact⟨b.1.1.1.2,b.1.1.2⟩
 obtain⟨d,c⟩:=f;simp only[ny,aT,bk]at d c;have m:Ok (eR (cD 3 x).q 0 s) (20+(cD 12 x).A.length):=h.follow (by omega) c.2;have o:0<=(cD 1 (aC 46 x [])).q:=by show 0<=(cD 1 x).q;omega
 have n:(cD 1 (aC 46 x [])).q<=5:=d.2
 have a:∀t:RS,Ok t (20+(cD 12 x).A.length)->JK x t:=by
  intro t k;have i:(cD 12 (aC 46 x [])).A=(cD 12 x).A:=rfl;unfold JK
  (repeat' (first|exact trivial|apply And.intro|intro _))
  all_goals first
   |exact o
   |exact n
   |exact l
   |exact g
   |exact k.le (by first|omega|(rw[i];omega))
 exact⟨fun _=>⟨trivial,a _ m⟩,fun _=>a _ h⟩
def c17:bu Try.prog 17 s17 (pre 17) (cF 17):=by refine zO Uj Try.func17 (v:=Zt) ?_;intro e h c;obtain⟨x,_,rfl,d,a⟩:=aJ.1 h;have b:=a;obtain⟨s,rfl⟩:=fU a;refine zH Ql EY (.top,dN) (y:=jo x s) (zE (Q9 x s b c))
def UH:jm Try.prog pre cF Vz:=aR c17 Uj
def afL(x:Int)(s:RS):Prop:=
 (((s.role==2)=true->
  ((decide ((i64.wrap (s.wait+1))≥2)=true->
   ((true=true->Ok ({s with wait:=0}:RS) 0))/\(
   let c:=(dR ({s with wait:=0}:RS))
   ((true=true->Ok ({s with wait:=0}:RS) 0/\gF (aC 2 c [])=true))/\(
   let g:=(fV (aC 2 c []) ({s with wait:=0}:RS))
   VC.EP cF pre EY (fun _ _ l=>og g (l.getD 0 .top).q (rK (l.drop 1))) [] (VC.lp 84 Ve) (fC (fC (fun i=>([D.int i64 x]++encS s).getD i .top) 80 (c)) 81 (D.list g))))))/\(True)))/\(((s.role==2)=false->
  (((s.end_==0)=true->
   ((decide (x<0)=true->
    (true=true->(10 !=0)=true)/\(
    ((decide ((i64.wrap (s.wait+1))≥(i64.wrap (10+((i64.wrap (0-(i64.wrap (x+1)))).tmod 10))))=true->
     (True)/\(
     let a:=kA ({s with wait:=(i64.wrap (s.wait+1)),end_:=(i64.wrap (10+((i64.wrap (0-(i64.wrap (x+1)))).tmod 10)))}:RS)
     ((true=true->Ok a 0))/\(
     let d:=(dR a)
     (True)/\(
     let h:=(jM (aC 2 d []) a.id)
     (((h&&(decide (a.term<1099511627776)))=true->
      ((true=true->Ok a 14/\gF (aC 2 d [])=true/\a.term<MX))/\(
      True)))/\(True))))))/\(True))))/\((decide (x<0)=false->
    (true=true->(10 !=0)=true)/\(
    ((decide ((i64.wrap (s.wait+1))≥(i64.wrap (10+(x.tmod 10))))=true->
     (True)/\(
     let b:=kA ({s with wait:=(i64.wrap (s.wait+1)),end_:=(i64.wrap (10+(x.tmod 10)))}:RS)
     ((true=true->Ok b 0))/\(
     let e:=(dR b)
     (True)/\(
     let j:=(jM (aC 2 e []) b.id)
     (((j&&(decide (b.term<1099511627776)))=true->
      ((true=true->Ok b 14/\gF (aC 2 e [])=true/\b.term<MX))/\(
      True)))/\(True))))))/\(True))))))/\(((s.end_==0)=false->
   ((decide ((i64.wrap (s.wait+1))≥s.end_)=true->
    (True)/\(
    let ED:=kA ({s with wait:=(i64.wrap (s.wait+1))}:RS)
    ((true=true->Ok ED 0))/\(
    let f:=(dR ED)
    (True)/\(
    let k:=(jM (aC 2 f []) ED.id)
    (((k&&(decide (ED.term<1099511627776)))=true->
     ((true=true->Ok ED 14/\gF (aC 2 f [])=true/\ED.term<MX))/\(
     True)))/\(True))))))/\(True)))))
def acp(b:Taf)(a:Int)(c:RS):Prop:=
 ((decide (a<((b:Taf).length:Int))=true->
  (true=true->((decide (0<=a))&&(decide (a<((b:Taf).length:Int))))=true)/\(
  ((true=true->Ok c 1/\(0:Int)<=((((b).getD (a:Int).toNat .top)).q)/\(((((b).getD (a:Int).toNat .top)).q):Int)<=5))/\(
  True))))/\(True)
def Rb(x:Int)(s:RS)(C:jX i64 x)(E:dx (.V eZ) (encS s))(h:Ok s 20):afL x s:=by
 have o:Ok ({s with wait:=0}:RS) 20:=h.same iR;refine⟨fun _=>⟨fun _=>⟨fun _=>o.le (by omega),?_⟩,trivial⟩,fun _=>?_⟩
 .intro f;have m:gF (aC 2 f [])=true:=gL o
  clear_value f
  refine⟨fun _=>⟨o.le (by omega),m⟩,?_⟩;intro b;have e:=gz (c:=aC 2 f []) (s:={s with wait:=0}) m;change b.length<=10/\∀y∈b,1<=y.q/\y.q<=5 at e
  clear_value b
  obtain⟨F,A⟩:=e
  have u:∀i:Int,0<=i->i<b.length->1<=(b.getD i.toNat .top).q/\(b.getD i.toNat .top).q<=5:=by
   intro i G g;have j:i.toNat<b.length:=by omega
   rw[ae,aS j];exact A _ (aN j)
  refine VC.js 84 (by kernel_rfl) ?_;refine VC.iq (Φ:=cF) (Pre:=pre) (triv:=triv) (v0:=84) (decL:=fun l=>((l.getD 0 .top).q,rK (l.drop 1))) (encL:=fun a:Int×RS=>([D.int i64 a.1]++Hc a.2)) (dec:=Ql) (enc:=EY) (lp:=fun _ _ _ _=>(.top,dN)) (bad:=.inr (.top,dN)) (bd:=(.top,dN)) (by kernel_rfl) (fun a:Int×RS=>Ai b a.1 a.2) (fun a:Int×RS=>0<=a.1/\a.1<=b.length/\Ok a.2 (1+(10-a.1.toNat))) (fun a:Int×RS=>FA b a.1 a.2) (0,{s with wait:=0}) kH (by kernel_rfl) ?RV (fun a=>rfl) ?RY (by kernel_rfl) (fun a v=>by kernel_rfl) (fun a=>by kernel_rfl) (fun a=>by kernel_rfl) (fun a v z=>zE (β:=acp b a.1 a.2) ?EV) (by kernel_rfl)
  .exact⟨ar 0,dp _,o.le (by show 1+(10-0)<=_;omega)⟩
  .rintro⟨i,t⟩ ⟨g,p,n⟩;simp only at g p n;unfold Ai;by_cases d:decide (i<(b.length:Int))=true
   .rw[if_pos d];rw[bk]at d;have w:IntKind.wrap i64 (i+1)=i+1:=wrap64 (by omega) (by omega);dsimp only;rw[w];obtain⟨B,q⟩:=u i g d;refine⟨⟨by show 0<=i+1;omega,by show i+1<=_;omega,?_⟩,by show b.length-(i+1).toNat<b.length-i.toNat;omega⟩;exact cK.mZ (n.le (by show 1+(10-(i+1).toNat)+1<=_;omega)) (by omega) q
   rw[if_neg d];trivial
  obtain⟨i,t⟩:=a;obtain⟨g,p,n⟩:=v;simp only at g p n;refine⟨fun d=>?_,trivial⟩;rw[bk]at d;obtain⟨B,q⟩:=u i g d;refine⟨fun _=>?_,fun _=>⟨n.le (by omega),by show 0<=(b.getD i.toNat .top).q;omega,q⟩,trivial⟩;rw[aT,bk,bk];exact⟨g,d⟩
 (repeat' (first|exact trivial|apply And.intro|intro _))
 all_goals first
  |rfl
  |(refine cK.alike h (by omega) ?_;exact iR)
  |(refine gL (k:=20) (cK.alike h (by omega) ?_);exact iR)
  |(rename_i r _;simp only[aT,bk]at r;exact r.2)
def YM:bu Try.prog 15 s15 (pre 15) (cF 15):=by refine hZ (given:=[(6,{boxes:=yK})]) mix UH Try.func15 rfl (by kernel_rfl) (v:=Ve) (by kernel_rfl) ?_;intro g h f;obtain⟨_,_,rfl,⟨x,rfl,d⟩,c⟩:=aJ.1 h;have e:=c;obtain⟨s,rfl⟩:=fU c;refine zL Ql EY (.top,dN) (fun _ _ l=>(let b:=(dR ({s with wait:=0}:RS));let a:=(fV (aC 2 b []) ({s with wait:=0}:RS));og a (l.getD 0 .top).q (rK (l.drop 1)))) (y:=jz x s) (zE (Rb x s d e f))
def UI:jm Try.prog pre cF VA:=aR YM UH
def DN{x:D}{s:RS}(h:wT x s=0):(cD 0 x).q=2->gF (.agg [cD 25 x,cD 26 x])=true:=by
 intro c;unfold wT at h;split at h
 .cases h
 split at h
 .cases h
 split at h
 .rename_i b;rw[c]at b;cases b
 dsimp only at h;split at h
 .cases h
 split at h
 .cases h
 rename_i a;rw[eT,Bool.not_eq_false]at a;unfold Kl G9 at a;simp only[aT]at a;exact a.1.2
noncomputable def MP:VC:=nR Try.prog VA [(8,{boxes:=yK}),(10,{drop:=[4006011]})] s16 Try.f16
attribute [irreducible] MP
def afK(x:D)(s:RS):Prop:=
 ((true=true->Ok s 0))/\(
 let c:=(wT (aC 27 x []) s)
 (True)/\(((c !=0)=false->
  ((true=true->Ok s 1))/\(
  let jr:=jY (aC 27 x []) s
  (True)/\(((jr.1.2 !=0)=false->
   ((true=true->Ok jr.2 0))/\(
   let a:=(dR jr.2)
   ((true=true->Ok jr.2 0/\gF (aC 2 a [])=true))/\(
   let b:=(fV (aC 2 a []) jr.2)
   VC.EP cF pre DB (fun _ _ l=>mW jr b (l.getD 0 .top).q (rK (l.drop 1))) [] (VC.lp 82 MP) (fC (fC (fC (fC (fun i=>([x]++encS s).getD i .top) 61 (D.int i64 c)) 67 (JT jr)) 78 (a)) 79 (D.list b))))))))))
@[irreducible] def xO (i n:Int) (q:RS->Int) (t:RS):Prop:=((q t==n)=true->(true=true->Ok t 1/\(0:Int)<=i/\i<=5)/\True)/\True
def aco(jr:(D×Int)×RS)(c:Taf)(b:Int)(a:RS):Prop:=
 (decide (b<((c:Taf).length:Int))=true->
  (true=true->((decide (0<=b))&&(decide (b<((c:Taf).length:Int))))=true)/\
  X8 ((((c).getD (b:Int).toNat .top)).q) (xO 0 ((cD 0 jr.1.1).q) RS.Bx a) (xO 1 ((cD 0 jr.1.1).q) RS.yC a) (xO 2 ((cD 0 jr.1.1).q) RS.yB a) (xO 3 ((cD 0 jr.1.1).q) RS.yA a) (xO 4 ((cD 0 jr.1.1).q) RS.yz a) (xO 5 ((cD 0 jr.1.1).q) RS.yx a))/\(decide (b<((c:Taf).length:Int))=false->
  (true=true->Ok a 1)/\True)
def Pg{i n:Int}{q:RS->Int}{t:RS}(h:Ok t 1)(b:0<=i)(a:i<=5):xO i n q t:=by unfold xO;exact⟨fun _=>⟨fun _=>⟨h,b,a⟩,trivial⟩,trivial⟩
def Ra(x:D)(s:RS)(I:dx (.V eZ) (encS s))(h:Ok s 20):afK x s:=by
 refine⟨fun _=>h.le (by omega),?_⟩;intro o;have p:o=wT (aC 27 x []) s:=rfl
 clear_value o
 refine⟨trivial,fun E=>⟨fun _=>h.le (by omega),?_⟩⟩;intro jr;have u:Ok jr.2 12:=cK.put (k:=12) (h.le (by omega)) (DN (s:=s) (by rw[<-p];simpa using E))
 clear_value jr
 refine⟨trivial,fun J=>⟨fun _=>u.le (by omega),?_⟩⟩;intro m;have r:gF (aC 2 m [])=true:=gL u
 clear_value m
 refine⟨fun _=>⟨u.le (by omega),r⟩,?_⟩;intro b;have j:=gz (c:=aC 2 m []) (s:=jr.2) r;change b.length<=10/\∀y∈b,1<=y.q/\y.q<=5 at j
 clear_value b
 obtain⟨K,H⟩:=j
 have z:∀i:Int,0<=i->i<b.length->1<=(b.getD i.toNat .top).q/\(b.getD i.toNat .top).q<=5:=by
  intro i L n;have q:i.toNat<b.length:=by omega
  rw[ae,aS q];exact H _ (aN q)
 refine VC.js 82 (by kernel_rfl) ?_;refine VC.iq (Φ:=cF) (Pre:=pre) (triv:=triv) (v0:=82) (decL:=fun l=>((l.getD 0 .top).q,rK (l.drop 1))) (encL:=fun a:Int×RS=>([D.int i64 a.1]++Hc a.2)) (dec:=OF) (enc:=DB) (lp:=fun _ _ _ _=>((.top,0,.top),dN)) (bad:=.inr ((.top,0,.top),dN)) (bd:=((.top,0,.top),dN)) (by kernel_rfl) (fun a:Int×RS=>mV jr b a.1 a.2) (fun a:Int×RS=>0<=a.1/\a.1<=b.length/\Ok a.2 (1+(10-a.1.toNat))) (fun a:Int×RS=>x9 jr b a.1 a.2) (0,jr.2) kH (by kernel_rfl) ?RV (fun a=>rfl) ?RY (by kernel_rfl) (fun a A=>by kernel_rfl) (fun a=>by kernel_rfl) (fun a=>by kernel_rfl) (fun a A G=>zE (β:=aco jr b a.1 a.2) ?EV) (by kernel_rfl)
 .exact⟨ar 0,dp _,u.le (by show 1+(10-0)<=_;omega)⟩
 .rintro⟨i,t⟩ ⟨n,w,f⟩;simp only at n w f;unfold mV;by_cases e:decide (i<(b.length:Int))=true
  .rw[if_pos e];rw[bk]at e;have F:IntKind.wrap i64 (i+1)=i+1:=wrap64 (by omega) (by omega);dsimp only;rw[F];obtain⟨C,B⟩:=z i n e;have v:(b.getD i.toNat .top).q=1\/(b.getD i.toNat .top).q=2\/(b.getD i.toNat .top).q=3\/(b.getD i.toNat .top).q=4\/(b.getD i.toNat .top).q=5:=by omega
   rcases v with d|d|d|d|d
   .rw[if_neg (by rw[d];decide),if_pos (by rw[d];rfl)];by_cases g:(t.yC==((cD 0 jr.1.1).q))=true
    .rw[if_pos g];refine⟨⟨by show 0<=i+1;omega,by show i+1<=_;omega,?_⟩,by show b.length-(i+1).toNat<b.length-i.toNat;omega⟩;show Ok (fy 1 t) (1+(10-(i+1).toNat));exact cK.mZ (f.le (by show 1+(10-(i+1).toNat)+1<=_;omega)) (by decide) (by decide)
    rw[if_neg g];exact⟨⟨by show 0<=i+1;omega,by show i+1<=_;omega,f.le (by show 1+(10-(i+1).toNat)<=_;omega)⟩,by show b.length-(i+1).toNat<b.length-i.toNat;omega⟩
   .rw[if_neg (by rw[d];decide),if_neg (by rw[d];decide),if_pos (by rw[d];rfl)];by_cases g:(t.yB==((cD 0 jr.1.1).q))=true
    .rw[if_pos g];refine⟨⟨by show 0<=i+1;omega,by show i+1<=_;omega,?_⟩,by show b.length-(i+1).toNat<b.length-i.toNat;omega⟩;show Ok (fy 2 t) (1+(10-(i+1).toNat));exact cK.mZ (f.le (by show 1+(10-(i+1).toNat)+1<=_;omega)) (by decide) (by decide)
    rw[if_neg g];exact⟨⟨by show 0<=i+1;omega,by show i+1<=_;omega,f.le (by show 1+(10-(i+1).toNat)<=_;omega)⟩,by show b.length-(i+1).toNat<b.length-i.toNat;omega⟩
   .rw[if_neg (by rw[d];decide),if_neg (by rw[d];decide),if_neg (by rw[d];decide),if_pos (by rw[d];rfl)];by_cases g:(t.yA==((cD 0 jr.1.1).q))=true
    .rw[if_pos g];refine⟨⟨by show 0<=i+1;omega,by show i+1<=_;omega,?_⟩,by show b.length-(i+1).toNat<b.length-i.toNat;omega⟩;show Ok (fy 3 t) (1+(10-(i+1).toNat));exact cK.mZ (f.le (by show 1+(10-(i+1).toNat)+1<=_;omega)) (by decide) (by decide)
    rw[if_neg g];exact⟨⟨by show 0<=i+1;omega,by show i+1<=_;omega,f.le (by show 1+(10-(i+1).toNat)<=_;omega)⟩,by show b.length-(i+1).toNat<b.length-i.toNat;omega⟩
   .rw[if_neg (by rw[d];decide),if_neg (by rw[d];decide),if_neg (by rw[d];decide),if_neg (by rw[d];decide),if_pos (by rw[d];rfl)];by_cases g:(t.yz==((cD 0 jr.1.1).q))=true
    .rw[if_pos g];refine⟨⟨by show 0<=i+1;omega,by show i+1<=_;omega,?_⟩,by show b.length-(i+1).toNat<b.length-i.toNat;omega⟩;show Ok (fy 4 t) (1+(10-(i+1).toNat));exact cK.mZ (f.le (by show 1+(10-(i+1).toNat)+1<=_;omega)) (by decide) (by decide)
    rw[if_neg g];exact⟨⟨by show 0<=i+1;omega,by show i+1<=_;omega,f.le (by show 1+(10-(i+1).toNat)<=_;omega)⟩,by show b.length-(i+1).toNat<b.length-i.toNat;omega⟩
   rw[if_neg (by rw[d];decide),if_neg (by rw[d];decide),if_neg (by rw[d];decide),if_neg (by rw[d];decide),if_neg (by rw[d];decide),if_pos (by rw[d];rfl)];by_cases g:(t.yx==((cD 0 jr.1.1).q))=true
   .rw[if_pos g];refine⟨⟨by show 0<=i+1;omega,by show i+1<=_;omega,?_⟩,by show b.length-(i+1).toNat<b.length-i.toNat;omega⟩;show Ok (fy 5 t) (1+(10-(i+1).toNat));exact cK.mZ (f.le (by show 1+(10-(i+1).toNat)+1<=_;omega)) (by decide) (by decide)
   rw[if_neg g];exact⟨⟨by show 0<=i+1;omega,by show i+1<=_;omega,f.le (by show 1+(10-(i+1).toNat)<=_;omega)⟩,by show b.length-(i+1).toNat<b.length-i.toNat;omega⟩
  rw[if_neg e];trivial
 obtain⟨i,t⟩:=a;obtain⟨n,w,f⟩:=A;simp only at n w f;refine⟨fun e=>?_,fun _=>⟨fun _=>f.le (by omega),trivial⟩⟩;rw[bk]at e;obtain⟨C,B⟩:=z i n e;refine⟨fun _=>by rw[aT,bk,bk];exact⟨n,e⟩,?_⟩;refine zx (cW (by decide) C) B ?_ ?_ ?_ ?_ ?_ ?_<;>exact Pg (f.le (by omega)) (by decide) (by decide)
def c16:bu Try.prog 16 s16 (fun a=>Ok (ig (a.drop 1)) 20) (fun a=>DB (dH (a.getD 0 .top) (ig (a.drop 1)))):=by refine hZ (given:=[(8,{boxes:=yK}),(10,{drop:=[4006011]})]) mix UI Try.func16 rfl (by kernel_rfl) (v:=MP) (by kernel_rfl) ?_;intro a h g;obtain⟨x,_,rfl,i,d⟩:=aJ.1 h;have f:=d;obtain⟨s,rfl⟩:=fU d;refine zL OF DB ((.top,0,.top),dN) (fun _ _ l=>(let e:=(wT (aC 27 x []) s);let jr:=jY (aC 27 x []) s;let c:=(dR jr.2);let b:=(fV (aC 2 c []) jr.2);mW jr b (l.getD 0 .top).q (rK (l.drop 1)))) (y:=dH x s) (zE (Ra x s f g))
variable{C M K:Nat}{N:Int}{z s t:RS}{x:D}
def Good(C M K:Nat)(N:Int)(z:RS)(y:D×RS):Prop:=∃t,Inv z N t/\cK C M t K/\y=((bR t).1,(bR t).2)
def Good.done(h:Inv z N t)(k:cK C M t K):Good C M K N z (aC 8 (bR t).1 [],(bR t).2):=⟨t,h,k,rfl⟩
def Good.ite{c:Prop}[Decidable c]{a b:D×RS}(e:c->Good C M K N z a)(d:¬c->Good C M K N z b):Good C M K N z (if c then a else b):=by
 split
 .exact e (by assumption)
 exact d (by assumption)
def Good.mono{y:D×RS}{d:Int}{e:Nat}(h:Good C M K N z y)(f:N<=d)(g:e<=K):Good C M e d z y:=let ⟨t,a,b,c⟩:=h;⟨t,a.mono f,b.le g,c⟩
def Bs.inv(h:Bs N s)(i:Idle s):Inv s N s:=
 ⟨h,.inl ⟨i.snap,rfl,rfl,rfl,rfl,rfl,(by rw[i.KV];rfl)⟩,fun _=>⟨i.KV,i.snap,rfl,rfl⟩,(by rw[i.msgs];intro m a;cases a),(by rw[i.G7];intro m a;cases a)⟩
def Inv.after(h:Inv z N t):Bs N (bR t).2:=⟨h.hd,h.zz,h.G7,h.gH,h.PT,h.PW,h.oH,h.top,h.pos⟩
def Rx{l:Taf}{n:Nat}(h:l.length=n):aC n (.agg l) []=.agg l:=by
 unfold aC;congr 1;refine dD fun j=>?_;rw[ab];by_cases a:j<n
 .rw[da a];show some (l.getD j .top)=l[j]?;rw[ae,aS (by omega)];rfl
 rw[cC (by rw[fi];omega),cC (by omega)];rfl
def LP{x:Int}(h:Bs N s)(i:Idle s)(k:cK C M s (K+13)):Good C M K (N+1) s (jz x s):=by
 have f:=h.inv i;have l:N<=N+1:=by omega
 unfold jz;dsimp only;have o:∀t:RS,Inv s N t->BF s t->Good C M K (N+1) s (aC 8 (bR t).1 [],(bR t).2):=fun t b e=>.done (b.mono l) ((k.same e).le (by omega));have d:∀t:RS,Inv s N t->BF s t->t.il=.gI->t.term<1099511627776->Good C M K (N+1) s (aC 8 (bR (ks (aC 2 (dR t) []) t)).1 [],(bR (ks (aC 2 (dR t) []) t)).2):=fun t b e p j=>.done (b.E3 (k.same e) (gL (k.same e)) j p) ((k.same e).E3 (gL (k.same e)) j)
 have a:Good C M K (N+1) s (og (fV (aC 2 (dR ({s with wait:=0}:RS)) []) ({s with wait:=0}:RS)) 0 ({s with wait:=0}:RS)):=by have m:cK C M ({s with wait:=0}:RS) (K+13):=k.same iR;exact CF (K:=K) (Q:=fun t:D×RS=>Good C M K (N+1) s t) (gz (c:=aC 2 (dR _) []) (gL m)) (fun _ _=>rfl) (fun _ _=>rfl) ⟨f.same,m.le (by omega)⟩ (fun t b n=>.done (b.mono l) n)
 generalize og (fV (aC 2 (dR ({s with wait:=0}:RS)) []) ({s with wait:=0}:RS)) 0 ({s with wait:=0}:RS)=L at a⊢
 repeat' (first|exact a|with_reducible refine Good.ite (fun g=>?_) (fun _=>?_))
 all_goals first
  |((with_reducible refine o _ ?_ ?_);exact f.same;exact iR)
  |(simp only[aT,bk]at g;(with_reducible refine d _ ?_ ?_ ?_ g.2);exact f.same;exact iR;exact i.snap)
def LQ(h:Bs N s)(i:Idle s)(k:cK C M s (K+28))(o:mK N x)(Q:Has hP x):Good C M K (N+1) s (jo x s):=by
 have q:=h.inv i;have c:N<=N+1:=by omega
 have W:=o.n8;unfold jo Qg yF;refine Good.ite (fun _=>.done (q.mono c) (k.le (by omega))) (fun d=>?_);have A:eW (cD 12 x).A=true:=vY d
 have r:(cD 5 x).q<=(cD 3 x).q/\(decide (((cD 12 x).A.length:Int)>0)&&decide ((cD 1 ((cD 12 x).A.getD (i64.wrap (((cD 12 x).A.length:Int)-1)).toNat .top)).q>(cD 3 x).q))=false:=by simp only[Bool.not_eq_true,Bool.or_eq_false_iff]at d;exact⟨by have:=d.1.1;simpa using this,d.1.2⟩
 refine Good.ite (fun _=>.done (q.mono c) (k.le (by omega))) (fun m=>?_)
 have O:ny (cD 1 x).q 1 5=true/\ny (cD 3 x).q 1 1099511627776=true:=by simp only[Bool.not_eq_true,Bool.or_eq_false_iff,Bool.not_eq_false',aT]at m;exact⟨m.1.1.1.2,m.1.1.2⟩
 obtain⟨w,v⟩:=O;simp only[ny,aT,bk]at w v;have D:0<=(cD 1 (aC 46 x [])).q:=by show 0<=(cD 1 x).q;omega
 have F:(cD 1 (aC 46 x [])).q<=5:=w.2
 have G:Has hP (aC 46 x []):=by
  obtain⟨l,rfl,T⟩:=dU.1 Q;have L:l.length=46:=by rw[fH T,Ty.dm];rfl
  rw[Rx L];exact Q
 have I:mK N (aC 46 x []):=⟨o.n8,o.tW,o.snp,o.pos⟩
 have g:∀t:RS,Inv s N t->cK C M t (K+28)->t.il=.gI->t.dX=[]->¬(cD 3 x).q<t.term->¬(cD 3 x).q>t.term->
   ∀f:RS->RS,(f=nU (aC 46 x [])\/f=kO (aC 46 x [])\/f=jj (aC 46 x [])\/f=hH (aC 46 x [])\/(f=nV (aC 46 x [])/\((cD 0 x).q==5)=true)\/f=iH (aC 46 x [])\/f=id)->Good C M K (N+1) s (aC 8 (bR (f t)).1 [],(bR (f t)).2):=by
  intro t j b H R Y X f E;have V:(cD 3 x).q=t.term:=by omega
  have B:(cD 5 x).q<=t.term:=by omega
  rcases E with rfl|rfl|rfl|rfl|⟨rfl,P⟩|rfl|rfl
  .exact .done ((j.vote D (by simp only[MX];omega)).mono c) (cK.vote (b.le (by omega)))
  .exact .done (j.E2 (b.le (by omega:K+13<=K+28)) H) (cK.E2 (b.le (by omega)))
  .refine .done ((j.append (x:=aC 46 x []) (K:=K) (b.le (by show K+3+(cD 12 x).A.length<=_;omega)) A I H R (fun p S=>?_) B).mono c) (cK.append (x:=aC 46 x []) (b.le (by show K+3+(cD 12 x).A.length<=_;omega)) A);have:=r.2;rw[V]at this;exact LJ this (by omega) S
  .exact .done ((j.appended (b.le (by omega:K+2<=K+28)) D F).mono c) (cK.appended (b.le (by omega)) D F)
  .exact .done ((j.snap (x:=aC 46 x []) b H R B (o.snp (eq_of_beq P)) G).mono c) (cK.snap (b.le (by omega)))
  .exact .done ((j.vL (b.le (by omega:K+2<=K+28)) D F).mono c) (cK.vL (b.le (by omega)) D F)
  exact .done (j.mono c) (b.le (by omega))
 have E:cK C M (eR (cD 3 x).q 0 s) (K+28):=k.follow (by omega) v.2;have u:Inv s N (eR (cD 3 x).q 0 s):=q.follow
 have y:(eR (cD 3 x).q 0 s).il=.gI/\(eR (cD 3 x).q 0 s).dX=[]:=by
  unfold eR;split
  .exact⟨i.snap,i.KV⟩
  exact⟨i.snap,i.KV⟩
 refine Good.ite (fun n=>?_) (fun n=>?_)
 .have U:(eR (cD 3 x).q 0 s).term=(cD 3 x).q:=by unfold eR;rw[if_pos n];rfl
  have a:=g _ u E y.1 y.2 (by omega) (by omega);refine Good.ite (fun _=>.done (u.refuse.mono c) (cK.refuse (E.le (by omega)))) fun _=>?_;refine Good.ite (fun _=>a _ (.inl rfl)) fun _=>Good.ite (fun _=>a _ (.inr (.inl rfl))) fun _=>Good.ite (fun _=>a _ (.inr (.inr (.inl rfl)))) fun _=>Good.ite (fun _=>a _ (.inr (.inr (.inr (.inl rfl))))) fun _=>Good.ite (fun e=>a _ (.inr (.inr (.inr (.inr (.inl ⟨rfl,e⟩)))))) fun _=>Good.ite (fun _=>a _ (.inr (.inr (.inr (.inr (.inr (.inl rfl))))))) fun _=>a _ (.inr (.inr (.inr (.inr (.inr (.inr rfl))))))
 refine Good.ite (fun _=>.done (q.refuse.mono c) (cK.refuse (k.le (by omega)))) fun J=>?_;have a:=g _ q k i.snap i.KV (by simpa using J) (by simpa using n);refine Good.ite (fun _=>a _ (.inl rfl)) fun _=>Good.ite (fun _=>a _ (.inr (.inl rfl))) fun _=>Good.ite (fun _=>a _ (.inr (.inr (.inl rfl)))) fun _=>Good.ite (fun _=>a _ (.inr (.inr (.inr (.inl rfl))))) fun _=>Good.ite (fun e=>a _ (.inr (.inr (.inr (.inr (.inl ⟨rfl,e⟩)))))) fun _=>Good.ite (fun _=>a _ (.inr (.inr (.inr (.inr (.inr (.inl rfl))))))) fun _=>a _ (.inr (.inr (.inr (.inr (.inr (.inr rfl))))))
def LR(h:Bs N s)(i:Idle s)(k:cK C M s (K+20)):Good C M K (N+1) s ((dH x s).1.2.2,(dH x s).2):=by
 have B:=h.inv i;have L:N<=N+1:=by omega
 unfold dH;dsimp only;by_cases v:(wT (aC 27 x []) s !=0)=true
 .rw[if_pos v];exact .done (B.mono L) (k.le (by omega))
 rw[if_neg v];have u:wT (aC 27 x []) s=0:=by simpa using v
 have q:cK C M (jY (aC 27 x []) s).2 (K+19):=k.put (DN u);have w:Inv s (N+1) (jY (aC 27 x []) s).2:=B.put k i.snap;by_cases g:((jY (aC 27 x []) s).1.2 !=0)=true
 .rw[if_pos g];exact .done w (q.le (by omega))
 rw[if_neg g];have d:=gz (c:=aC 2 (dR (jY (aC 27 x []) s).2) []) (s:=(jY (aC 27 x []) s).2) (gL q);generalize jY (aC 27 x []) s=jr at q w d;generalize fV (aC 2 (dR jr.2) []) jr.2=l at d;obtain⟨Q,G⟩:=d;unfold mW;refine fZ (fun a:Int×RS=>0<=a.1/\a.1<=l.length/\Inv s (N+1) a.2/\cK C M a.2 (K+1+(10-a.1.toNat))) (fun y:(D×Int×D)×RS=>Good C M K (N+1) s (y.1.2.2,y.2)) (fun a=>l.length-a.1.toNat) ?_ _ _ ⟨ar 0,dp _,w,q.le (by show K+1+(10-0)<=_;omega)⟩ (ca _);intro a J;revert J;generalize a.2=t;generalize a.1=j;rintro⟨S,R,r,f⟩;unfold mV;dsimp only;by_cases e:decide (j<(l.length:Int))=true
 .rw[if_pos e];rw[bk]at e;have m:j.toNat<l.length:=by omega
  have F:=G _ (aN m);have I:l.getD j.toNat .top=l[j.toNat]:=by rw[ae,aS m];rfl
  rw[I,wrap64 (by omega) (by omega)];generalize (l[j.toNat]).q=n at F;have E:l.length-(j+1).toNat<l.length-j.toNat:=by omega
  have O:cK C M t (K+1+(10-(j+1).toNat)):=f.le (by omega);have p:∀n,1<=n->n<=5->(0<=j+1/\j+1<=(l.length:Int)/\Inv s (N+1) (fy n t)/\cK C M (fy n t) (K+1+(10-(j+1).toNat)))/\l.length-(j+1).toNat<l.length-j.toNat:=fun n P A=>⟨⟨by omega,by omega,r.mZ f (by omega) A,cK.mZ (f.le (by omega)) (by omega) A⟩,E⟩;have o:(0<=j+1/\j+1<=(l.length:Int)/\Inv s (N+1) t/\cK C M t (K+1+(10-(j+1).toNat)))/\l.length-(j+1).toNat<l.length-j.toNat:=⟨⟨by omega,by omega,r,O⟩,E⟩;have H:n=1\/n=2\/n=3\/n=4\/n=5:=by omega
  rcases H with rfl|rfl|rfl|rfl|rfl<;>(repeat (first|rw[if_pos (by decide)] |rw[if_neg (by decide)]))
  all_goals first
   |(by_cases b:(t.yC==(cD 0 jr.1.1).q)=true
     .rw[if_pos b];exact p 1 (by decide) (by decide)
     rw[if_neg b];exact o)
   |(by_cases b:(t.yB==(cD 0 jr.1.1).q)=true
     .rw[if_pos b];exact p 2 (by decide) (by decide)
     rw[if_neg b];exact o)
   |(by_cases b:(t.yA==(cD 0 jr.1.1).q)=true
     .rw[if_pos b];exact p 3 (by decide) (by decide)
     rw[if_neg b];exact o)
   |(by_cases b:(t.yz==(cD 0 jr.1.1).q)=true
     .rw[if_pos b];exact p 4 (by decide) (by decide)
     rw[if_neg b];exact o)
   |(by_cases b:(t.yx==(cD 0 jr.1.1).q)=true
     .rw[if_pos b];exact p 5 (by decide) (by decide)
     rw[if_neg b];exact o)
 rw[if_neg e];exact .done (r.agree (f.le (by omega:K+1<=_))) (cK.agree (f.le (by omega)))
structure Wd where
 tm:Int->Int
 ak:Int->Int->Nat
 ll:Int->Taf
 gr:Int->Int->Int->Prop
 cl:Int->Int->Taf
 ld:Int->Int
def Mj(P:Int->Prop):Prop:=P 1/\P 2\/P 1/\P 3\/P 2/\P 3
def Mj.meet{P Q:Int->Prop}(h:Mj P)(k:Mj Q):∃v,P v/\Q v:=by unfold Mj at h k;grind
def Mj.mono{P Q:Int->Prop}(h:Mj P)(f:∀v,P v->Q v):Mj Q:=by unfold Mj at h⊢;grind
def Ag(n:Nat)(A B:Taf):Prop:=n<=A.length/\n<=B.length/\∀i,i<n->A[i]?=B[i]?
def Gw(A B:Taf):Prop:=∀(i:Nat) (e:D),A[i]?=some e->B[i]?=some e
def Co(w:Wd)(L:Taf):Prop:=∀(k:Nat) e,L[k]?=some e->Ag (k+1) L (w.ll (tm e))
def Lo(w:Wd)(T:Int)(L:Taf):Prop:=rr 0 0 L=true/\(∀e∈L,tm e<=T/\lY e=false)/\Co w L
def Ch(w:Wd)(T:Int)(n:Nat):Prop:=Mj (fun v=>w.tm v<=T\/n<=w.ak v T)/\∀e,(w.ll T)[n-1]?=some e->tm e=T
def CT(w:Wd)(T:Int)(n:Nat):Prop:=Mj (fun v=>n<=w.ak v T)/\∃e,(w.ll T)[n-1]?=some e/\tm e=T
def Cm(w:Wd)(T:Int)(n:Nat)(L:Taf):Prop:=n=0\/∃a m,a<=T/\n<=m/\CT w a m/\Ag n L (w.ll a)
structure CY(w:Wd):Prop where
 ll:∀T,Lo w T (w.ll T)
 pos:∀T,w.ll T≠[]->1<=T
 ak:∀v T,w.ak v T<=(w.ll T).length/\(0<w.ak v T->T<=w.tm v)
 gr:∀T c v,w.gr T c v->T<=w.tm v/\T<=w.tm c/\∀c',w.gr T c' v->c'=c
 el:∀T,w.ll T≠[]->Mj (w.gr T (w.ld T))
 cl:∀T c,w.gr T c c->Lo w (T-1) (w.cl T c)
 vo:∀T c v,w.gr T c v->∀T0 n,T0<T->n<=w.ak v T0->Ch w T0 n->Ag n (w.cl T c) (w.ll T0)
 lc:∀T T0 n,T0<T->w.ll T≠[]->Ch w T0 n->Ag n (w.ll T) (w.ll T0)
structure Sv(w:Wd)(v:Int)(lg:Taf)(cm:Nat)(role:Int):Prop where
 lo:Lo w (w.tm v) lg
 kp:∀T n,n<=w.ak v T->Ch w T n->Ag n lg (w.ll T)
 cm:Cm w (w.tm v) cm lg
 ld:role=2->lg=w.ll (w.tm v)/\lg≠[]/\w.ld (w.tm v)=v/\w.ak v (w.tm v)=lg.length
 cd:role=1->w.gr (w.tm v) v v/\lg=w.cl (w.tm v) v/\(w.ll (w.tm v)≠[]->w.ld (w.tm v)≠v)
structure By(x:Int)(w w':Wd):Prop where
 tm:∀v,w.tm v<=w'.tm v
 ak:∀v T,w.ak v T<=w'.ak v T/\(w'.ak v T=w.ak v T\/w.tm v<=T)
 ll:∀T,Gw (w.ll T) (w'.ll T)
 gr:∀T c v,w.gr T c v->w'.gr T c v
 cl:∀T c,w.gr T c c->w'.cl T c=w.cl T c
 ld:∀T,w.ll T≠[]->w'.ld T=w.ld T
 X4:∀v,v≠x->w'.tm v=w.tm v/\w'.ak v=w.ak v
 llx:∀T,w'.ll T=w.ll T\/w'.ld T=x
 grx:∀T c v,v≠x->w'.gr T c v->w.gr T c v
def Ag.symm{n A B}(h:Ag n A B):Ag n B A:=⟨h.2.1,h.1,fun i a=>(h.2.2 i a).symm⟩
def Ag.trans{n A B C}(h:Ag n A B)(k:Ag n B C):Ag n A C:=⟨h.1,k.2.1,fun i a=>(h.2.2 i a).trans (k.2.2 i a)⟩
def Ag.le{n m A B}(h:Ag n A B)(k:m<=n):Ag m A B:=⟨by have:=h.1;omega,by have:=h.2.1;omega,fun i a=>h.2.2 i (by omega)⟩
def Ag.zero{A B}:Ag 0 A B:=⟨aF _,aF _,fun i a=>absurd a (Nat.not_lt_zero _)⟩
def Gw.refl{A}:Gw A A:=fun _ _ h=>h
def Gw.len{A B}(h:Gw A B):A.length<=B.length:=by
 rcases eH B.length A.length with k|k
 .have:=h B.length _ (aS k);simp at this
 exact k
def Gw.ag{n A B C}(h:Gw A B)(k:Ag n C A):Ag n C B:=by refine⟨k.1,by have:=h.len;have:=k.2.1;omega,fun i a=>?_⟩;rw[k.2.2 i a];have:=k.2.1;rw[aS (by omega:i<A.length)];exact(h i _ (aS _)).symm
def Gw.app{A B:Taf}:Gw A (A++B):=fun i e h=>by rw[an (aO.1 h).1];exact h
def Gw.ne{A B}(h:Gw A B)(k:A≠[]):B≠[]:=by rintro rfl;have:=h.len;simp at this;exact k this
def Ag.self{n A}(h:n<=A.length):Ag n A A:=⟨h,h,fun _ _=>rfl⟩
def Lo.mono{w w':Wd}{T b:Int}{L:Taf}(h:Lo w T L)(d:T<=b)(c:∀T,Gw (w.ll T) (w'.ll T)):Lo w' b L:=
 ⟨h.1,fun e a=>⟨cW (h.2.1 e a).1 d,(h.2.1 e a).2⟩,fun k e a=>(c _).ag (h.2.2 k e a)⟩
def By.ch{x:Int}{w w':Wd}(b:By x w w'){T n}(h:Ch w' T n):Ch w T n:=by refine⟨h.1.mono fun v c=>?_,fun e a=>h.2 e (b.ll T _ e a)⟩;have f:=b.tm v;have d:=b.ak v T;omega
def By.ct{x:Int}{w w':Wd}(b:By x w w'){T n}(h:CT w T n):CT w' T n:=
 ⟨h.1.mono fun v a=>aY a (b.ak v T).1,by obtain⟨e,d,c⟩:=h.2;exact⟨e,b.ll T _ e d,c⟩⟩
def By.cm{x:Int}{w w':Wd}(b:By x w w'){T T' n L L'}(h:Cm w T n L)(g:T<=T')(c:Gw L L'):Cm w' T' n L':=by
 rcases h with h|⟨a,m,i,f,e,d⟩
 .exact .inl h
 exact .inr ⟨a,m,by omega,f,b.ct e,(b.ll a).ag (c.ag d.symm).symm⟩
def CT.ch{w:Wd}{T n}(h:CT w T n):Ch w T n:=⟨h.1.mono fun v b=>.inr b,fun e c=>by obtain⟨y,a,d⟩:=h.2;rw[c]at a;injection a with a;rw[a];exact d⟩
def CT.ne{w:Wd}{T n}(h:CT w T n):w.ll T≠[]:=by obtain⟨y,a,b⟩:=h.2;intro e;rw[e]at a;cases a
def Cm.ll{w:Wd}(b:CY w){T n L}(h:Cm w T n L)(c:w.ll T≠[]):Ag n L (w.ll T):=by
 rcases h with rfl|⟨g,m,f,e,d,a⟩
 .exact .zero
 rcases Int.lt_or_eq_of_le f with h|rfl
 .exact a.trans ((b.lc T g m h c d.ch).le e).symm
 exact a
def Cm.cmp{w:Wd}(e:CY w){T T' n n' L L'}(h:Cm w T n L)(o:Cm w T' n' L')(a:n<=n'):Ag n L L':=by
 rcases h with rfl|⟨b,m,q,l,g,f⟩
 .exact .zero
 rcases o with rfl|⟨i,j,p,k,d,c⟩
 .rw[Nat.le_zero.1 a];exact .zero
 rcases Int.lt_or_le i b with h|h
 .exact f.trans ((((e.lc b i j h g.ne d.ch).le k).trans c.symm).le a)
 exact(Cm.ll e (.inr ⟨b,m,h,l,g,f⟩) d.ne).trans (c.symm.le a)
def Sv.step{w w':Wd}{x v:Int}{lg cm role}(h:Sv w v lg cm role)(b:By x w w')(i:v≠x)(s:CY w):Sv w' v lg cm role:=by
 obtain⟨g,l⟩:=b.X4 v i;refine⟨by rw[g];exact h.lo.mono (ar _) b.ll,fun T n m o=>(b.ll T).ag (h.kp T n (by rw[<-l];exact m) (b.ch o)),by rw[g];exact b.cm h.cm (ar _) .refl,fun r=>?_,fun r=>?_⟩
 .obtain⟨c,f,d,p⟩:=h.ld r;have a:w.ll (w.tm v)≠[]:=c▸f;have j:=b.ld _ a;rw[g,l,j];refine⟨?_,f,d,p⟩;rcases b.llx (w.tm v) with k|k
  .rw[k];exact c
  rw[j,d]at k;exact absurd k i
 obtain⟨c,f,d⟩:=h.cd r;rw[g,b.cl _ _ c];refine⟨b.gr _ _ _ c,f,fun k=>?_⟩;by_cases a:w.ll (w.tm v)=[]
 .rcases b.llx (w.tm v) with q|q
  .rw[q]at k;exact absurd a k
  rw[q];exact fun e=>i e.symm
 rw[b.ld _ a];exact d a
variable{w:Wd}{x c v:Int}{lg:Taf}{cm:Nat}{role:Int}
def up{α:Type}(f:Int->α)(x:Int)(a:α):Int->α:=fun y=>if y=x then a else f y
def rQ{b:Type}{f:Int->b}{x:Int}{a:b}:up f x a x=a:=if_pos rfl
def rv{b:Type}{f:Int->b}{x y:Int}{a:b}(h:y≠x):up f x a y=f y:=if_neg h
def OU(d:CY w)(h:Sv w x lg cm role){T:Int}(m:w.tm x<=T):∃i,i={w with tm:=up w.tm x T}/\By x w i/\CY i/\Sv i x lg cm 0:=by
 have b:By x w {w with tm:=up w.tm x T}:=by refine⟨?_,fun _ _=>⟨aU _,.inl rfl⟩,fun _=>.refl,fun _ _ _ k=>k,fun _ _ _=>rfl,fun _ _=>rfl,?_,fun _=>.inl rfl,fun _ _ _ _ h=>h⟩<;>simp only[up] <;>grind
 refine⟨_,rfl,b,⟨d.ll,d.pos,fun v a=>⟨(d.ak v a).1,fun k=>cW ((d.ak v a).2 k) (b.tm v)⟩,fun a c v k=>⟨cW (d.gr a c v k).1 (b.tm v),cW (d.gr a c v k).2.1 (b.tm c),(d.gr a c v k).2.2⟩,d.el,d.cl,fun a c v k l n g f j=>d.vo a c v k l n g f (b.ch j),fun a l n g f j=>d.lc a l n g f (b.ch j)⟩,?_⟩;have e:up w.tm x T x=T:=rQ;exact⟨by show Lo _ (up w.tm x T x) lg;rw[e];exact h.lo.mono m b.ll,fun a n g f=>h.kp a n g (b.ch f),by show Cm _ (up w.tm x T x) cm lg;rw[e];exact b.cm h.cm m .refl,fun r=>(by cases r),fun r=>(by cases r)⟩
def OT(a:CY w)(h:Sv w x lg cm role):∃w',w'.tm=up w.tm x (w.tm x+1)/\w'.gr (w.tm x+1) x x/\w'.cl (w.tm x+1) x=lg/\(∀v,w'.gr (w.tm x+1) x v->v=x)/\(∀T c v,w'.gr T c v->w.gr T c v\/T=w.tm x+1/\c=x/\v=x)/\By x w w'/\CY w'/\Sv w' x lg cm 1:=by
 have o:∀v,¬w.gr (w.tm x+1) x v:=fun v k=>by have:=(a.gr _ _ _ k).2.1;omega
 have g:∀c,¬w.gr (w.tm x+1) c x:=fun v k=>by have:=(a.gr _ _ _ k).1;omega
 let w':Wd:={w with tm:=up w.tm x (w.tm x+1),gr:=fun T c v=>w.gr T c v\/T=w.tm x+1/\c=x/\v=x,cl:=fun T c=>if T=w.tm x+1/\c=x then lg else w.cl T c};have l:w'.cl (w.tm x+1) x=lg:=if_pos ⟨rfl,rfl⟩;have p:∀{T c v},w.gr T c v->w'.cl T c=w.cl T c:=fun{T c v} k=>if_neg fun q=>o v (by rw[<-q.1];exact q.2▸k)
 have b:By x w w':=by refine⟨?_,fun v T=>⟨aU _,.inl rfl⟩,fun _=>.refl,fun T c v=>.inl,fun T c k=>p k,fun _ _=>rfl,?_,fun _=>.inl rfl,?_⟩<;>simp only[w',up] <;>grind
 have ex:w'.tm x=w.tm x+1:=rQ;refine⟨w',rfl,.inr ⟨rfl,rfl,rfl⟩,l,fun v k=>k.elim (fun q=>absurd q (o v)) fun q=>q.2.2,fun _ _ _ k=>k,b,⟨a.ll,a.pos,fun v f=>⟨(a.ak v f).1,fun k=>cW ((a.ak v f).2 k) (b.tm v)⟩,?_,fun T k=>(a.el T k).mono fun v=>.inl,?_,?_,fun f m n i d j=>a.lc f m n i d (b.ch j)⟩,?_⟩
 .rintro T c v (k|⟨rfl,rfl,rfl⟩)
  .refine⟨cW (a.gr T c v k).1 (b.tm v),cW (a.gr T c v k).2.1 (b.tm c),?_⟩;rintro s (q|⟨rfl,rfl,rfl⟩)
   .exact(a.gr T c v k).2.2 s q
   exact absurd k (g c)
  refine⟨Int.le_of_eq ex.symm,Int.le_of_eq ex.symm,?_⟩;rintro s (q|⟨-,rfl,-⟩)
  .exact absurd q (g s)
  rfl
 .rintro T c (k|⟨rfl,rfl,-⟩)
  .rw[p k];exact a.cl T c k
  rw[l];exact h.lo.mono (by omega) b.ll
 .rintro T c v (k|⟨rfl,rfl,rfl⟩) m n i d j
  .rw[p k];exact a.vo T c v k m n i d (b.ch j)
  rw[l];exact h.kp m n d (b.ch j)
 refine⟨by rw[ex];exact h.lo.mono (by omega) b.ll,fun f n i d=>h.kp f n i (b.ch d),by rw[ex];exact b.cm h.cm (by omega) .refl,fun r=>(by cases r),fun _=>?_⟩;rw[ex];refine⟨.inr ⟨rfl,rfl,rfl⟩,l.symm,fun q e=>?_⟩;obtain⟨v,k,-⟩:=(a.el _ q).meet (a.el _ q);rw[show w.ld (w.tm x+1)=x from e]at k;exact o v k
def Rl{T:Int}{L:Taf}{n:Nat}(h:Lo w T L){e:D}(a:L[n]?=some e):n<L.length/\tm e<=cZ 0 L:=by
 refine⟨(aO.1 a).1,?_⟩;rw[<-kT (t:=0) a];have d:=dq (n+1) L;have b:=h.1;rw[<-d,jS]at b
 conv=>rhs;rw[<-d,ke]
 exact Aw b.2
def xA{L:Taf}(h:L≠[]):∃e,L[L.length-1]?=some e/\cZ 0 L=tm e:=by have:=eQ.2 h;exact⟨_,aS (by omega),tN (aS (by omega))⟩
def OV(d:CY w)(h:Sv w x lg cm role)(A:w.gr (w.tm x) c c)(l:∀g,w.gr (w.tm x) g x->g=c)(j:cZ 0 lg<cZ 0 (w.cl (w.tm x) c)\/cZ 0 lg=cZ 0 (w.cl (w.tm x) c)/\lg.length<=(w.cl (w.tm x) c).length):
  ∃w',w'.tm=w.tm/\w'.gr (w.tm x) c x/\(∀T g v,w'.gr T g v->w.gr T g v\/T=w.tm x/\g=c/\v=x)/\By x w w'/\CY w'/\Sv w' x lg cm role:=by
 let w':Wd:={w with gr:=fun T g v=>w.gr T g v\/T=w.tm x/\g=c/\v=x};have b:By x w w':=⟨fun _=>ar _,fun v T=>⟨aU _,.inl rfl⟩,fun _=>.refl,fun T c v=>.inl,fun T c k=>rfl,fun _ _=>rfl,fun _ _=>⟨rfl,rfl⟩,fun _=>.inl rfl,fun _ _ _ e h=>h.resolve_right fun q=>e q.2.2⟩;refine⟨w',rfl,.inr ⟨rfl,rfl,rfl⟩,fun _ _ _ k=>k,b,⟨d.ll,d.pos,d.ak,?_,fun T k=>(d.el T k).mono fun v=>.inl,?_,?_,fun C T0 n l B p=>d.lc C T0 n l B (b.ch p)⟩,⟨h.lo,fun C n l B=>h.kp C n l (b.ch B),b.cm h.cm (ar _) .refl,h.ld,fun r=>⟨.inl (h.cd r).1,(h.cd r).2⟩⟩⟩
 .rintro T f v (k|⟨rfl,rfl,rfl⟩)
  .refine⟨(d.gr T f v k).1,(d.gr T f v k).2.1,?_⟩;rintro g (q|⟨rfl,rfl,rfl⟩)
   .exact(d.gr T f v k).2.2 g q
   exact(l _ k).symm
  refine⟨ar _,(d.gr _ _ _ A).1,?_⟩;rintro g (q|⟨-,rfl,-⟩)
  .exact l _ q
  rfl
 .rintro T f (k|⟨rfl,rfl,-⟩)
  .exact d.cl T f k
  exact d.cl _ _ A
 rintro T f v (k|⟨rfl,rfl,rfl⟩) T0 n k1 k2 k3
 .exact d.vo T f v k T0 n k1 k2 (b.ch k3)
 show Ag n (w.cl (w.tm v) f) (w.ll T0);replace k3:=b.ch k3;rcases Nat.eq_zero_or_pos n with rfl|M
 .exact .zero
 have a:=h.kp T0 n k2 k3;have t:=d.cl _ _ A;obtain⟨y,s⟩:∃y,lg[n-1]?=some y:=⟨_,aS (by have:=a.1;omega)⟩;have J:tm y=T0:=k3.2 y (by rw[<-a.2.2 (n-1) (by omega)];exact s);have H:=(Rl h.lo s).2;have K:1<=T0:=d.pos T0 (by intro e;have:=a.2.1;rw[e]at this;simp at this;omega)
 have i:w.cl (w.tm v) f≠[]:=by intro e;rw[e]at j;simp only[cZ]at j;omega
 obtain⟨z,E,G⟩:=xA i;obtain⟨u,I,D⟩:=xA (show lg≠[] by rintro rfl;cases s);have m:=t.2.2 _ _ E;have L:=eQ.2 i;rw[show(w.cl (w.tm v) f).length-1+1=(w.cl (w.tm v) f).length by omega]at m;rw[G,D]at j;rw[D]at H;rcases j with j|⟨j,N⟩
 .have o:=d.lc (tm z) T0 n (by omega) (by intro e;have:=m.2.1;rw[e]at this;simp at this;exact i this) k3;rcases eH (w.cl (w.tm v) f).length n with q|q
  .exfalso;have p:=o.2.2 ((w.cl (w.tm v) f).length-1) (by omega);rw[<-m.2.2 _ (by omega),E]at p;have:=((d.ll T0).2.1 z (bQ p.symm)).1;omega
  exact(m.le q).trans o
 have F:=h.lo.2.2 _ _ I;rw[<-j]at m;have:=a.1;rw[show lg.length-1+1=lg.length by omega]at F;exact((m.le (by omega)).trans (F.le this).symm).trans a
def up2{b:Type}{f:Int->Int->b}{x t v T:Int}{a:b}(h:v≠x\/T≠t):up f x (up (f x) t a) v T=f v T:=by
 by_cases q:v=x
 .subst q;rw[rQ,rv (h.resolve_left fun k=>k rfl)]
 rw[rv q]
def TB(b:CY w){T a:Int}(k:w.gr T c v)(h:a<T):v≠x\/a≠w.tm x:=by
 by_cases q:v=x
 .subst q;have:=(b.gr T c v k).1;right;omega
 exact .inl q
def Wo(d:CY w)(h:Sv w x lg cm role)(G:role=1/\Mj (w.gr (w.tm x) x)\/role=2){e:D}(K:tm e=w.tm x)(O:lY e=false)(N:rr 0 0 (lg++[e])=true)(M:1<=w.tm x):
  ∃w',w'.tm=w.tm/\w'.gr=w.gr/\w'.cl=w.cl/\w'.ll (w.tm x)=lg++[e]/\w'.ld (w.tm x)=x/\By x w w'/\CY w'/\Sv w' x (lg++[e]) cm 2:=by
 have j:w.ll (w.tm x)=[]/\role=1\/w.ll (w.tm x)=lg/\w.ld (w.tm x)=x/\role=2:=by
  rcases G with⟨r,m⟩|r
  .refine .inl ⟨?_,r⟩;by_cases k:w.ll (w.tm x)=[]
   .exact k
   obtain⟨v,f,o⟩:=(d.el _ k).meet m;exact absurd ((d.gr _ _ _ o).2.2 _ f) ((h.cd r).2.2 k)
  exact .inr ⟨(h.ld r).1.symm,(h.ld r).2.2.1,r⟩
 let w':Wd:={w with ll:=up w.ll (w.tm x) (lg++[e]),ld:=up w.ld (w.tm x) x,ak:=up w.ak x (up (w.ak x) (w.tm x) (lg.length+1))};have p:w'.ll (w.tm x)=lg++[e]:=rQ;have A:w'.ld (w.tm x)=x:=rQ;have F:w'.ak x (w.tm x)=lg.length+1:=by show up w.ak x _ x _=_;rw[rQ,rQ]
 have E:∀{v T},v≠x\/T≠w.tm x->w'.ak v T=w.ak v T:=fun q=>up2 q
 have g:∀T,Gw (w.ll T) (w'.ll T):=by
  intro T;by_cases k:T=w.tm x
  .subst k;rw[p];rcases j with⟨q,-⟩|⟨q,-⟩<;>rw[q]
   .exact fun i e h=>by cases h
   exact .app
  rw[show w'.ll T=w.ll T from rv k];exact .refl
 have P:Gw lg (w'.ll (w.tm x)):=by rw[p];exact .app
 have z:=(d.ak x (w.tm x)).1
 have H:w.ak x (w.tm x)<=lg.length+1:=by
  rcases j with⟨q,-⟩|⟨q,-⟩<;>rw[q]at z
  .simp at z;omega
  omega
 have b:By x w w':=by
  refine⟨fun _=>ar _,fun v T=>?_,g,fun _ _ _ k=>k,fun _ _ _=>rfl,fun T k=>?_,fun v k=>⟨rfl,rv k⟩,fun T=>?_,fun _ _ _ _ h=>h⟩
  .by_cases q:v≠x\/T≠w.tm x
   .rw[E q];exact⟨aU _,.inl rfl⟩
   obtain⟨rfl,rfl⟩:v=x/\T=w.tm x:=by omega
   rw[F];exact⟨H,.inr (ar _)⟩
  .by_cases q:T=w.tm x
   .subst q;rcases j with⟨q,-⟩|⟨-,q,-⟩
    .exact absurd q k
    rw[A,q]
   exact rv q
  by_cases q:T=w.tm x
  .subst q;exact .inr A
  exact .inl (rv q)
 have t:Lo w' (w.tm x) (lg++[e]):=by
  refine⟨N,fun y s=>?_,fun k y s=>?_⟩
  .rcases aM.1 s with k|k
   .exact h.lo.2.1 y k
   rw[ax.1 k];exact⟨Int.le_of_eq K,O⟩
  rcases eH k lg.length with q|q
  .rw[an q]at s;exact((g _).ag ((Gw.app (B:=[e])).ag (h.lo.2.2 k y s).symm).symm)
  rw[aL q]at s;have u:=bQ s;have L:=(aO.1 s).1;simp only[ax,aW]at u L;subst u;rw[K,p];exact .self (by simp;omega)
 refine⟨w',rfl,rfl,rfl,p,A,b,⟨fun T=>?_,fun T k=>?_,fun v T=>?_,d.gr,fun T k=>?_,fun T c k=>(d.cl T c k).mono (ar _) g,fun T c v k C n f o I=>?_,fun T C n f o I=>?_⟩,t,fun T n f o=>?_,b.cm h.cm (ar _) .app,fun _=>⟨p.symm,by simp,A,by rw[show w'.tm=w.tm from rfl,F];simp⟩,fun r=>by cases r⟩
 .by_cases q:T=w.tm x
  .subst q;rw[p];exact t
  rw[show w'.ll T=w.ll T from rv q];exact(d.ll T).mono (ar _) g
 .by_cases q:T=w.tm x
  .rw[q];exact M
  exact d.pos T (by rw[<-show w'.ll T=w.ll T from rv q];exact k)
 .by_cases q:v≠x\/T≠w.tm x
  .rw[E q];exact⟨aY (d.ak v T).1 (g T).len,(d.ak v T).2⟩
  obtain⟨rfl,rfl⟩:v=x/\T=w.tm x:=by omega
  rw[F,p];exact⟨by simp,fun _=>ar _⟩
 .by_cases q:T=w.tm x
  .subst q;rw[A];rcases G with⟨r,m⟩|r
   .exact m
   have:=d.el (w.tm x) (by rw[<-(h.ld r).1];exact(h.ld r).2.1)
   rwa [(h.ld r).2.2.1]at this
  rw[show w'.ld T=w.ld T from rv q];exact d.el T (by rw[<-show w'.ll T=w.ll T from rv q];exact k)
 .rw[E (TB d k f)]at o;exact(g _).ag (d.vo T c v k C n f o (b.ch I))
 .have l:=b.ch I;by_cases q:T=w.tm x
  .subst q;rcases j with⟨q,r⟩|⟨q,-,r⟩
   .rcases G with⟨-,m⟩|r2
    .obtain⟨v,J,Q⟩:=m.meet l.1;have:=(d.gr _ _ _ J).1;have a:=d.vo _ _ _ J C n f (by omega) l;rw[<-(h.cd r).2.1]at a;exact(g _).ag (P.ag a.symm).symm
    omega
   exact(g _).ag ((g _).ag (d.lc _ C n f (by rw[q];exact((h.ld r).2.1)) l).symm).symm
  rw[show w'.ll T=w.ll T from rv q]at o⊢;exact(g _).ag (d.lc T C n f o l)
 by_cases q:T=w.tm x
 .subst q;rw[F]at f;rw[p];exact .self (by simp;omega)
 rw[E (.inr q)]at f;exact(g _).ag ((Gw.app (B:=[e])).ag (h.kp T n f (b.ch o)).symm).symm
def JY(d:CY w)(h:Sv w x lg cm role)(H:role≠2){n:Nat}{lg':Taf}(j:w.ll (w.tm x)≠[])(l:Ag n lg' (w.ll (w.tm x)))(C:lg'=lg\/lg'=(w.ll (w.tm x)).take n/\¬Ag n lg (w.ll (w.tm x))):
  ∃w',w'.tm=w.tm/\w'.gr=w.gr/\w'.cl=w.cl/\w'.ll=w.ll/\w'.ld=w.ld/\n<=w'.ak x (w.tm x)/\By x w w'/\CY w'/\Sv w' x lg' cm 0:=by
 have A:∀{m B},Ag m lg (w.ll (w.tm x))->Ag m lg B->Ag m lg' B:=by
  intro m B f g;rcases C with rfl|⟨-,k⟩
  .exact g
  rcases eH m n with q|q
  .exact((l.le (Nat.le_of_lt q)).trans f.symm).trans g
  exact absurd (f.le q) k
 let w':Wd:={w with ak:=up w.ak x (up (w.ak x) (w.tm x) (max (w.ak x (w.tm x)) n))};have y:w'.ak x (w.tm x)=max (w.ak x (w.tm x)) n:=by show up w.ak x _ x _=_;rw[rQ,rQ]
 have u:∀{v T},v≠x\/T≠w.tm x->w'.ak v T=w.ak v T:=fun q=>up2 q
 have b:By x w w':=by
  refine⟨fun _=>ar _,fun v T=>?_,fun _=>.refl,fun _ _ _ k=>k,fun _ _ _=>rfl,fun T k=>rfl,fun v k=>⟨rfl,rv k⟩,fun T=>.inl rfl,fun _ _ _ _ h=>h⟩;by_cases q:v≠x\/T≠w.tm x
  .rw[u q];exact⟨aU _,.inl rfl⟩
  obtain⟨rfl,rfl⟩:v=x/\T=w.tm x:=by omega
  rw[y];exact⟨by omega,.inr (ar _)⟩
 have z:Lo w (w.tm x) lg':=by
  rcases C with rfl|⟨rfl,-⟩
  .exact h.lo
  obtain⟨f,g,o⟩:=d.ll (w.tm x);refine⟨tB n f,fun e t=>g e (cw t),fun k e t=>?_⟩;have s:=(aO.1 t).1;have a:=l.2.2 k (by rw[aA]at s;omega);rw[t]at a;have:=o k e a.symm;exact(l.le (by rw[aA]at s;omega)).trans this
 refine⟨w',rfl,rfl,rfl,rfl,rfl,by rw[y];omega,b,⟨d.ll,d.pos,fun v T=>?_,d.gr,d.el,d.cl,fun T c v k p n f g o=>?_,fun T p n f g o=>d.lc T p n f g (b.ch o)⟩,z,fun T m f g=>?_,?_,fun r=>(by cases r),fun r=>(by cases r)⟩
 .by_cases q:v≠x\/T≠w.tm x
  .rw[u q];exact d.ak v T
  obtain⟨rfl,rfl⟩:v=x/\T=w.tm x:=by omega
  rw[y];have:=(d.ak v (w.tm v)).1;have:=l.2.1;exact⟨by show _<=(w.ll (w.tm v)).length;omega,fun _=>ar _⟩
 .rw[u (TB d k f)]at g;exact d.vo T c v k p n f g (b.ch o)
 .have i:=b.ch g;show Ag m lg' (w.ll T);by_cases q:T=w.tm x
  .subst q;rw[y]at f;rcases eH n m with k|k
   .have:=h.kp _ m (by omega) i;exact A this this
   exact l.le k
  rw[u (.inr q)]at f;rcases Nat.eq_zero_or_pos m with rfl|I
  .exact .zero
  have k:=h.kp T m f i;exact A (k.trans (d.lc (w.tm x) T m (by have:=(d.ak x T).2 (by omega);omega) j i).symm) k
 rcases h.cm with k|⟨p,m,s,G,F,E⟩
 .exact .inl k
 exact .inr ⟨p,m,s,G,b.ct F,A (Cm.ll d h.cm j) E⟩
variable{C M K:Nat}{w w':Wd}{s t:RS}{lg:Taf}{vv r:Int}{N:Int}{z:RS}
def V3(d:D):Prop:=vo d=[1,2,3]
def aam{ys:List Int}(h:zm [1,2,3] ys=true):Mj (· ∈ys):=by unfold zm wX at h;unfold Mj;simp only[List.countP_cons,List.countP_nil,bk,bg,fj]at h;by_cases c:(1:Int)∈ys<;>by_cases b:(2:Int)∈ys<;>by_cases a:(3:Int)∈ys<;>simp[c,b,a]at h⊢
def J5{v m:List Int}:∀{k:Nat},0<vn v m k->zm v (CZ m (vn v m k))=true
 |0,h=>by cases h
 |k+1,h=>by
  unfold vn at h⊢;split
  .rename_i a;rw[aT]at a;exact a.1
  rename_i a;rw[if_neg a]at h;exact J5 h
def Qs{m:List Int}{t v:Int}(h:v∈CZ m t):1<=v/\v<=m.length/\t<=m.getD (v-1).toNat 0:=by unfold CZ U7 at h;obtain⟨i,b,rfl⟩:=bq.1 h;obtain⟨c,a⟩:=List.mem_filter.1 b;rw[bk]at a;have:=cI.1 c;exact⟨by omega,by omega,by rw[show((i:Int)+1-1).toNat=i by omega];exact a⟩
def OP{P:D->Prop}(p:∀d,P d->P (aC 2 d []))(l:s.li<=0->P (.agg [.list s.fv,.list s.fl]))(b:0<s.li->P (.agg [.list s.sv,.list s.sl]))(u:∀e∈s.le,lY e=false){x:Int}(q:x<=9223372036854775807)(E:0<=s.li):P (oV x s):=by
 unfold oV qe;refine fZ (fun a:Int×Taf×Taf=>a.1<=9223372036854775807) P (fun a=>(a.1-s.li).toNat) ?_ _ _ q (ca _);rintro⟨i,j,k⟩ B;simp only at B;unfold mQ;by_cases c:decide (i>(iS s.li s.lt s.le).1)=true
 .rw[if_pos c];have A:s.li<i:=of_decide_eq_true c;dsimp only
  rw[if_neg (by
   intro o;rw[aT,beq_iff_eq,beq_iff_eq]at o;obtain⟨l,b⟩:=o;have g:(gu s.li s.le i 1).length=1:=by exact_mod_cast l
   obtain⟨y,n⟩:=bI.1 g;have v:y∈s.le:=qk (i:=s.li) (f:=i) (m:=1) (by rw[n];exact ax.2 rfl);have e:eJ s.li s.lt s.le i 1=[y]:=n;rw[e]at b;have:=u y v;unfold lY at this;rw[show(cD 2 y).q=2 from b]at this;cases this)]
  rw[wrap64 (by omega) (by omega)];exact⟨by show i-1<=_;omega,by show(i-1-s.li).toNat<(i-s.li).toNat;omega⟩
 rw[if_neg c];show P (kC s (iS s.li s.lt s.le));unfold kC;dsimp only;split
 .rename_i h;exact p _ (b (of_decide_eq_true h))
 rename_i h;exact p _ (l (by have F:¬s.li>0:=fun k=>h (decide_eq_true k);omega))
def wZ(w:Wd)(m:D)(T f i:Int):Int->Prop
 |1=>w.gr T f f/\i=(w.cl T f).length/\(cD 5 m).q=cZ 0 (w.cl T f)
 |2=>(cD 7 m).W=false->w.gr T (cD 2 m).q f
 |3=>w.ll T≠[]/\0<=i/\(cD 5 m).q=cZ 0 ((w.ll T).take i.toNat)/\i.toNat+(cD 12 m).A.length<=(w.ll T).length/\(∀j e,(cD 12 m).A[j]?=some e->(w.ll T)[i.toNat+j]?=some e)/\Cm w T (cD 6 m).q.toNat (w.ll T)
 |4=>(cD 7 m).W=false->i<=w.ak f T
 |5=>w.ll T≠[]/\0<i/\(cD 5 m).q=cZ 0 ((w.ll T).take i.toNat)/\Cm w T i.toNat (w.ll T)/\V3 (.agg [cD 13 m,cD 14 m])
 |6=>(cD 7 m).W=false->(cD 10 m).q=0->i<=w.ak f T
 |_=>True
def uH(w:Wd)(m:D):Prop:=wZ w m (cD 3 m).q (cD 1 m).q (cD 4 m).q (cD 0 m).q
def Ce(w:Wd)(e:D):Prop:=∃T L n,Cm w T n L/\1<=ix e/\ix e<=n/\L[(ix e-1).toNat]?=some e
def Gw.take{A B:Taf}(h:Gw A B){n:Nat}(a:n<=A.length):B.take n=A.take n:=by
 refine dD fun i=>?_;rw[aq,aq];split
 .rw[aS (by omega:i<A.length)];exact h i _ (aS _)
 rfl
def Ag.take{A B:Taf}{n:Nat}(h:Ag n A B):A.take n=B.take n:=by
 refine dD fun i=>?_;rw[aq,aq];split
 .exact h.2.2 i (by omega)
 rfl
def Cm.len{T:Int}{n:Nat}{L:Taf}(h:Cm w T n L):n<=L.length:=by
 rcases h with rfl|⟨_,_,_,_,_,h⟩
 .exact aF _
 exact h.1
def wZ.mono{x:Int}{m:D}{T f i:Int}(b:By x w w'){k:Int}(h:wZ w m T f i k):wZ w' m T f i k:=by
 have g:=b.ll T;have a:=(b.ak f T).1;revert h;unfold wZ;split<;>intro h
 .rw[b.cl _ _ h.1];exact⟨b.gr _ _ _ h.1,h.2⟩
 .exact fun q=>b.gr _ _ _ (h q)
 .obtain⟨o,n,l,d,c,v⟩:=h;have:=g.len;exact⟨g.ne o,n,by rw[g.take (by omega)];exact l,by omega,fun j e p=>g _ _ (c j e p),b.cm v (ar _) g⟩
 .intro q;have:=h q;omega
 .obtain⟨o,n,l,d,c⟩:=h;exact⟨g.ne o,n,by rw[g.take d.len];exact l,b.cm d (ar _) g,c⟩
 .intro q u;have:=h q u;omega
 trivial
def uH.mono{x:Int}{m:D}(h:uH w m)(b:By x w w'):uH w' m:=wZ.mono b h
def Ce.mono{x:Int}{e:D}(h:Ce w e)(b:By x w w'):Ce w' e:=by obtain⟨T,L,n,c,a⟩:=h;exact⟨T,L,n,b.cm c (ar _) .refl,a⟩
def By.refl(x:Int)(w:Wd):By x w w:=⟨fun _=>ar _,fun _ _=>⟨aU _,.inl rfl⟩,fun _=>.refl,fun _ _ _ h=>h,fun _ _ _=>rfl,fun _ _=>rfl,fun _ _=>⟨rfl,rfl⟩,fun _=>.inl rfl,fun _ _ _ _ h=>h⟩
def By.trans{x:Int}{f d w3:Wd}(a:By x f d)(b:By x d w3):By x f w3:=by
 refine⟨fun v=>cW (a.tm v) (b.tm v),fun v T=>?_,fun T i e h=>b.ll T i e (a.ll T i e h),fun T c v h=>b.gr T c v (a.gr T c v h),fun T c h=>(b.cl T c (a.gr T c c h)).trans (a.cl T c h),fun T h=>(b.ld T ((a.ll T).ne h)).trans (a.ld T h),fun v h=>⟨(b.X4 v h).1.trans (a.X4 v h).1,(b.X4 v h).2.trans (a.X4 v h).2⟩,fun T=>?_,fun T c v h k=>a.grx T c v h (b.grx T c v h k)⟩
 .have l:=a.ak v T;have j:=b.ak v T;have g:=a.tm v;omega
 rcases b.llx T with h|h
 .rcases a.llx T with k|k
  .exact .inl (h.trans k)
  by_cases q:d.ll T=[]
  .refine .inl (h.trans ?_);rw[q];by_cases u:f.ll T=[]
   .exact u.symm
   exact absurd q ((a.ll T).ne u)
  exact .inr ((b.ld T q).trans k)
 exact .inr h
structure fb(w:Wd)(v:Int)(lg:Taf)(r:Int)(s:RS):Prop where
 id:s.id=v
 ok:CY w
 sv:Sv w s.id lg s.bB.toNat r
 te:w.tm s.id=s.term
 lo:0<=s.li/\s.li<=lg.length/\s.le=lg.drop s.li.toNat/\s.lt=cZ 0 (lg.take s.li.toNat)
 cm:s.li<=s.bB/\s.pZ=s.li/\s.ng=s.lt
 c1:V3 (.agg [.list s.fv,.list s.fl])
 c2:0<s.li->V3 (.agg [.list s.sv,.list s.sl])
 rl:r=0\/s.id<=3
 vt:∀c,w.gr s.term c s.id->c=s.vote/\s.vote≠0
 vg:s.vote≠0->w.gr s.term s.vote s.id
 vs:r=1->∀v∈s.aX,w.gr s.term s.id v.q
 pe:r=2->∀q∈Bz s,0<=q.2.1/\q.2.1<=w.ak q.1 s.term/\1<=q.2.2/\q.2.2<=lg.length+1
 ms:∀m∈s.msgs,uH w m
 cs:∀e∈s.bM,Ce w e
def jF(s:RS)(p:List (Int×Int×Int)):=(s.id,s.bB,s.term,s.li,s.lt,s.le,s.pZ,s.ng,s.fv,s.fl,s.sv,s.sl,s.vote,s.aX,p,s.msgs,s.bM)
def jJ(s:RS):=jF s (Bz s)
def Tt{s t:RS}(e:er t=er s)(a:Bz t=Bz s):jJ t=jJ s:=by unfold jJ;rw[a];exact(congrFun (congrArg jF e) (Bz s):)
def fb.same(h:fb w vv lg r s)(e:jJ t=jJ s:=by rfl):fb w vv lg r t:=by
 simp only[jJ,jF,ah]at e;obtain⟨v,u,q,p,o,n,m,l,k,j,i,g,f,d,c,b,a⟩:=e;obtain⟨Q,P,O,L,J,I,H,G,F,E,D,B,A,y,x⟩:=h;constructor
 all_goals first|assumption|(simp only[v,u,q,p,o,n,m,l,k,j,i,g,f,d,c,b,a];assumption)
def fb.aaG(h:fb w vv lg r s){x:Int}(b:x<=9223372036854775807):V3 (oV x s):=by refine OP (P:=V3) (fun d h=>h) (fun _=>h.c1) h.c2 (fun e a=>(h.sv.lo.2.1 e ?_).2) b h.lo.1;rw[h.lo.2.2.1]at a;exact cz a
def fb.len(h:fb w vv lg r s):s.li+s.le.length=lg.length:=by obtain⟨c,b,a,_⟩:=h.lo;rw[a,ba];omega
def fb.Yp(h:fb w vv lg r s):(lg.length:Int)<=MX:=by have:=pN (by decide) h.sv.lo.1;omega
def fb.JC(h:fb w vv lg r s):V3 (dR s):=by have a:=h.Yp;show V3 (oV (s.li+s.le.length) s);refine h.aaG ?_;rw[h.len];simp only[MX]at a;omega
def fb.send{m:D}(h:fb w vv lg r s)(g:uH w (aC 46 m [(1,.int i64 s.id),(3,.int i64 s.term)])):fb w vv lg r (gq m s):=by
 obtain⟨v,u,q,p,o,n,l,k,j,i,f,e,d,c,b⟩:=h;refine⟨v,u,q,p,o,n,l,k,j,i,f,e,d,fun y a=>?_,b⟩;rcases aM.1 (show y∈s.msgs++[_] from a) with a|a
 .exact c y a
 rw[ax.1 a];exact g
def fb.E4{m:D}(h:fb w vv lg r s)(a:(cD 0 m).q=2\/(cD 0 m).q=4\/(cD 0 m).q=6)(b:(cD 7 m).W=true):fb w vv lg r (gq m s):=by refine h.send ?_;show wZ w _ _ _ _ (cD 0 m).q;rcases a with a|a|a<;>rw[a] <;>intro k<;>exact absurd (b.symm.trans k) (by decide)
variable{C M K:Nat}{w w':Wd}{s t u:RS}{lg:Taf}{vv r:Int}{N:Int}{z:RS}{x:D}
def Sv.r0{v:Int}{cm:Nat}(h:Sv w v lg cm r):Sv w v lg cm 0:=⟨h.lo,h.kp,h.cm,fun k=>(by cases k),fun k=>(by cases k)⟩
def Cm.le{T:Int}{n m:Nat}{L:Taf}(h:Cm w T n L)(k:m<=n):Cm w T m L:=by
 rcases h with rfl|⟨e,a,d,f,c,b⟩
 .exact .inl (by omega)
 exact .inr ⟨e,a,d,by omega,c,b.le k⟩
def fb.r0{y:Int}(h:fb w vv lg r s):fb w vv lg 0 {s with role:=0,bG:=y,aX:=[],reads:=[]}:=
 ⟨h.id,h.ok,h.sv.r0,h.te,h.lo,h.cm,h.c1,h.c2,.inl rfl,h.vt,h.vg,fun k=>(by cases k),fun k=>(by cases k),h.ms,h.cs⟩
def fb.follow{x y:Int}(h:fb w vv lg r s):∃w',By s.id w w'/\fb w' vv lg 0 (eR x y s):=by
 unfold eR;split
 .rename_i d;have d:s.term<x:=of_decide_eq_true d;obtain⟨w',e,b,ok,f⟩:=OU h.ok h.sv (T:=x) (by rw[h.te];omega);refine⟨w',b,h.id,ok,f,by rw[e];exact rQ,h.lo,h.cm,h.c1,h.c2,.inl rfl,fun c q=>?_,fun q=>absurd rfl q,fun k=>(by cases k),fun k=>(by cases k),fun m a=>(h.ms m a).mono b,fun m a=>(h.cs m a).mono b⟩;rw[e]at q;have g:x<=w.tm s.id:=(h.ok.gr _ _ _ q).1;rw[h.te]at g;omega
 exact⟨w,.refl _ _,h.r0⟩
def fb.vH(h:fb w vv lg r s)(a:gR x s=(true,u)):fb w vv lg 0 u/\u.role=0/\u.id=s.id/\u.term=s.term/\s.role≠2:=by
 unfold gR at a;dsimp only at a;split at a
 .cases a
 rename_i b;injection a with _ a;subst a;unfold eR;rw[if_neg (by simp)];exact⟨(h.r0 (y:=(cD 1 x).q)).same,rfl,rfl,rfl,by simpa using b⟩
def fb.last(h:fb w vv lg r s):cZ s.lt s.le=cZ 0 lg:=by obtain⟨d,c,b,a⟩:=h.lo;rw[b,a,uU]
def fb.term(h:fb w vv lg r s){k:Int}(m:s.li<=k)(j:k<=lg.length):jB s.li s.lt s.le k=(cZ 0 (lg.take k.toNat),0):=by
 obtain⟨f,d,b,a⟩:=h.lo;unfold jB gl;rw[if_neg (by omega)];split
 .rename_i e;rw[e,a]
 rename_i e;have g:(k-s.li-1).toNat+s.li.toNat=k.toNat-1:=by omega
 have c:s.le[(k-s.li-1).toNat]?=lg[k.toNat-1]? :=by rw[b,aD];congr 1;omega
 rw[c,aS (by omega)];have:=kT (t:=0) (aS (l:=lg) (i:=k.toNat-1) (by omega));rw[show k.toNat-1+1=k.toNat by omega]at this;rw[this]
def fb.slice(h:fb w vv lg r s){p:Int}{n:Nat}(g:s.li<p)(f:p<=lg.length+1)(e:1<=n):eJ s.li s.lt s.le p n=(lg.drop (p-1).toNat).take n:=by obtain⟨d,c,a,b⟩:=h.lo;unfold eJ gu;rw[if_neg (by omega),a,List.drop_drop];congr 1;congr 1;omega
def fb.ll(h:fb w vv lg 2 s):w.ll s.term=lg/\lg≠[]/\w.ak s.id s.term=lg.length:=by obtain⟨b,c,d,a⟩:=h.sv.ld rfl;rw[h.te]at b a;exact⟨b.symm,c,a⟩
def Kr(s t:RS):Prop:=t.role=s.role/\t.id=s.id/\t.term=s.term
def fb.mZ{x:Int}(h:fb w vv lg 2 s)(S:0<=x)(R:x<=5):fb w vv lg 2 (fy x s)/\Kr s (fy x s):=by
 obtain⟨F,E,Y⟩:=h.ll;have b:=h.sv.cm;rw[h.te]at b;have Q:=h.Yp;simp only[MX]at Q;have A:∀(m:D) (t:RS),jJ t=jJ s->Kr s t->uH w (aC 46 m [(1,.int i64 s.id),(3,.int i64 s.term)])->fb w vv lg 2 (gq m t)/\Kr s (gq m t):=fun m t e a O=>⟨(h.same e).send (by rw[a.2.1,a.2.2];exact O),a⟩
 have U:∀(m:D) (p:Int),decide (p<=(iS s.li s.lt s.le).1)=true->1<=p->(cD 0 m).q=5->(cD 4 m).q=s.pZ->(cD 5 m).q=s.ng->cD 13 m=.list s.sv->cD 14 m=.list s.sl->uH w (aC 46 m [(1,.int i64 s.id),(3,.int i64 s.term)]):=by intro m p c d y k g v l;have c:p<=s.li:=of_decide_eq_true c;show wZ w (aC 46 m _) s.term s.id (cD 4 m).q (cD 0 m).q;rw[y];show w.ll s.term≠[]/\0<(cD 4 m).q/\(cD 5 m).q=cZ 0 ((w.ll s.term).take (cD 4 m).q.toNat)/\Cm w s.term (cD 4 m).q.toNat (w.ll s.term)/\V3 (.agg [cD 13 m,cD 14 m]);rw[k,g,v,l,F,h.cm.2.1,h.cm.2.2];exact⟨E,by omega,h.lo.2.2.2,b.le (by have:=h.cm.1;omega),h.c2 (by omega)⟩
 have T:∀(m:D) (p:Int),¬decide (p<=(iS s.li s.lt s.le).1)=true->p<=lg.length+1->(cD 0 m).q=3->(cD 4 m).q=i64.wrap (p-1)->(cD 5 m).q=(jB s.li s.lt s.le (i64.wrap (p-1))).1->(cD 12 m).A=eJ s.li s.lt s.le p 8->(cD 6 m).q=s.bB->uH w (aC 46 m [(1,.int i64 s.id),(3,.int i64 s.term)]):=by
  intro m p c d y k g i W
  have c:s.li<p:=by have J:¬p<=s.li:=fun q=>c (decide_eq_true q);omega
  have X:=h.lo.1;rw[wrap64 (by omega) (by omega)]at k g;rw[h.term (by omega) (by omega)]at g;rw[show(8:Int)=((8:Nat):Int) from rfl,h.slice c d (by decide)]at i;show wZ w (aC 46 m _) s.term s.id (cD 4 m).q (cD 0 m).q;rw[y]
  show w.ll s.term≠[]/\0<=(cD 4 m).q/\(cD 5 m).q=cZ 0 ((w.ll s.term).take (cD 4 m).q.toNat)/\(cD 4 m).q.toNat+(cD 12 m).A.length<=(w.ll s.term).length/\
   (∀j e,(cD 12 m).A[j]?=some e->(w.ll s.term)[(cD 4 m).q.toNat+j]?=some e)/\Cm w s.term (cD 6 m).q.toNat (w.ll s.term)
  rw[k,g,i,W,F];refine⟨E,by omega,rfl,by rw[aA,ba];omega,fun j e f=>?_,b⟩;rw[aq]at f;split at f
  .rw[aD]at f;exact f
  cases f
 refine uV (P:=fun t=>fb w vv lg 2 t/\Kr s t) S R fun m n o G L e V=>?_;obtain⟨-,-,I,H⟩:=h.pe rfl _ (bQ L);unfold PS;split<;>rename_i B
 .exact A _ G (Tt e V) ⟨(congrArg RS.role e:),(congrArg RS.id e:),(congrArg RS.term e:)⟩ (U _ _ B I rfl rfl rfl rfl rfl)
 exact A _ _ rfl ⟨rfl,rfl,rfl⟩ (T _ _ B H rfl rfl rfl rfl rfl)
variable{C M K:Nat}{w w':Wd}{s t u:RS}{lg:Taf}{vv r:Int}{N:Int}{z:RS}{x:D}
def fb.bM{x:Int}(h:fb w vv lg r s)(c:Cm w s.term x.toNat lg):fb w vv lg r (en x s).2:=by
 unfold en;split
 .exact h
 rename_i f
 have d:s.bB<x:=by have d:¬x<=s.bB:=fun q=>f (decide_eq_true q);omega
 have k:=c.len;have g:=h.Yp;simp only[MX]at g;have m:=h.cm.1;have i:=h.lo.1;refine⟨h.id,h.ok,⟨h.sv.lo,h.sv.kp,(by show Cm w (w.tm s.id) x.toNat lg;rw[h.te];exact c),h.sv.ld,h.sv.cd⟩,h.te,h.lo,⟨by show s.li<=x;omega,h.cm.2⟩,h.c1,h.c2,h.rl,h.vt,h.vg,h.vs,h.pe,h.ms,fun e b=>?_⟩;rcases aM.1 (show e∈s.bM++eJ s.li s.lt s.le (i64.wrap (s.bB+1)) (i64.wrap (x-s.bB)) from b) with b|b
 .exact h.cs e b
 rw[wrap64 (by omega) (by omega),wrap64 (by omega) (by omega),show x-s.bB=((x-s.bB).toNat:Int) by omega,h.slice (by omega) (by omega) (by omega)]at b;obtain⟨j,a⟩:=aE b;rw[aq]at a;split at a
 .rw[aD]at a;have l:=(zX h.sv.lo.1 a).1;refine⟨s.term,lg,x.toNat,c,by omega,by omega,?_⟩;rw[show(ix e-1).toNat=(s.bB+1-1).toNat+j by omega];exact a
 cases a
def R5(s:RS):Taf:=
 let l:=[D.int i64 s.BW,.int i64 s.BV,.int i64 s.BU,.int i64 s.BT,.int i64 s.BS]
 l.take (i64.wrap (s.id-1)).toNat++ .int i64 (fM s.li s.lt s.le).1::(l.drop (i64.wrap (s.id-1)).toNat).drop 1
def EF(s:RS):Int:=pj (aC 2 (dR s) []) (.list (R5 s))
def PN:gS s=if((decide (EF s<=s.bB)||(jB s.li s.lt s.le (EF s)).2 !=0)||(jB s.li s.lt s.le (EF s)).1 !=s.term) then s
  else if(en (EF s) s).1&& !(jM (aC 2 (dR (en (EF s) s).2) []) (en (EF s) s).2.id) then kA (eR (en (EF s) s).2.term 0 (en (EF s) s).2) else(en (EF s) s).2:=by unfold gS nD;rfl
def fb.XX(h:fb w vv lg 2 s)(hi:1<=s.id/\s.id<=5)(A:s.bB<EF s)(l:(jB s.li s.lt s.le (EF s)).2=0)(f:(jB s.li s.lt s.le (EF s)).1=s.term):Cm w s.term (EF s).toNat lg:=by
 obtain⟨p,Q,D⟩:=h.ll;have j:vo (aC 2 (dR s) [])=[1,2,3]:=h.JC;have m:EF s=vn [1,2,3] (hR (.list (R5 s))) (hR (.list (R5 s))).length:=by unfold EF pj;rw[j]
 have R:=h.cm.1;have L:=h.lo.1;have c:=aam (J5 (by rw[<-m];omega:0<vn [1,2,3] (hR (.list (R5 s))) (hR (.list (R5 s))).length));rw[<-m]at c;have O:R5 s=R5 s:=rfl;generalize EF s=n at A l f c;obtain⟨y,k,-⟩:=iF l;rw[h.len]at k;rw[h.term y k]at f;refine .inr ⟨s.term,n.toNat,ar _,aU _,⟨c.mono fun v j=>?_,?_⟩,by rw[p];exact .self (by omega)⟩
 .obtain⟨E,e,b⟩:=Qs j;have d:=h.pe rfl;simp only[Bz,List.forall_mem_cons]at d;obtain⟨-,J,I,H,G,F,-⟩:=d;have B:(fM s.li s.lt s.le).1=w.ak s.id s.term:=by rw[D];exact h.len
  have hi:s.id=1\/s.id=2\/s.id=3\/s.id=4\/s.id=5:=by omega
  have g:v=1\/v=2\/v=3\/v=4\/v=5\/6<=v:=by omega
  unfold R5 at b e;rw[B]at b e;generalize s.id=i at hi b e;rcases hi with rfl|rfl|rfl|rfl|rfl<;>rcases g with rfl|rfl|rfl|rfl|rfl|P
  all_goals first
   |(have a:n<=(w.ak _ s.term:Int):=b;omega)
   |(have a:n<=s.BW:=b;omega)
   |(have a:n<=s.BV:=b;omega)
   |(have a:n<=s.BU:=b;omega)
   |(have a:n<=s.BT:=b;omega)
   |(have a:n<=s.BS:=b;omega)
   |(have q:v<=5:=e;omega)
 have o:n.toNat-1<lg.length:=by omega
 refine⟨lg[n.toNat-1],by rw[p];exact aS o,?_⟩;rw[<-kT (t:=0) (aS o),show n.toNat-1+1=n.toNat by omega];exact f
def fb.agree(h:fb w vv lg 2 s)(c:s.role=2)(hi:1<=s.id/\s.id<=5):fb w vv lg (gS s).role (gS s):=by
 rw[PN];split
 .rw[c];exact h
 rename_i d;simp only[bW,not_or,bne_iff_ne,ne_eq,fK,bk]at d;obtain⟨⟨g,f⟩,e⟩:=d;have b:=h.bM (h.XX hi (by omega) f e)
 have a:(en (EF s) s).2.role=2:=by unfold en;split<;>exact c
 generalize en (EF s) s=q at b a;split
 .unfold eR;rw[if_neg (by simp)];exact(b.r0 (y:=0)).same
 rw[a];exact b
variable{C M K:Nat}{w w':Wd}{s t u:RS}{lg:Taf}{vv r:Int}{N:Int}{z:RS}{x:D}
def fb.put{c:D}(h:fb w vv lg r s)(v:r=1/\Mj (w.gr s.term s.id)\/r=2)(l:∀q∈Bz s,0<=q.2.1/\q.2.1<=w.ak q.1 s.term/\1<=q.2.2/\q.2.2<=lg.length+2)(R:(cD 0 c).q≠2)(P:1<=s.term)(O:s.term<=MX)(X:(lg.length:Int)<MX):
  ∃w' j,By s.id w w'/\fb w' vv j 2 (jY c s).2/\(jY c s).1.2=0:=by
 have o:=h.last;have d:=h.len;obtain⟨L,W,J,I⟩:=h.lo
 have p:cZ 0 lg<=s.term:=by
  by_cases A:lg=[]
  .subst A;show(0:Int)<=_;omega
  obtain⟨e,Q,E⟩:=xA A;rw[E,<-h.te];exact(h.sv.lo.2.1 e (bQ Q)).1
 have g:mY s.li s.lt s.le s.term=0:=by unfold mY;rw[o,d,if_neg (by omega),if_neg (by omega)]
 have e1:tZ s.li s.lt s.le s.term (aC 27 c [])=vp s.li s.lt s.le s.term (aC 27 c []):=if_pos g;have T:pE s.li s.lt s.le s.term (aC 27 c [])=s.le++[vp s.li s.lt s.le s.term (aC 27 c [])]:=if_pos g
 have e:jY c s=((aC 29 (tZ s.li s.lt s.le s.term (aC 27 c [])) [],mY s.li s.lt s.le s.term),{fL {s with li:=s.li,lt:=s.lt,le:=pE s.li s.lt s.le s.term (aC 27 c [])} with dX:=s.dX++[aC 29 (tZ s.li s.lt s.le s.term (aC 27 c [])) []]}):=by unfold jY;exact if_pos (by rw[show(VI s.li s.lt s.le s.term (aC 27 c [])).1.2=mY s.li s.lt s.le s.term from rfl,g];rfl)
 rw[e,T,g]
 have i:lY (vp s.li s.lt s.le s.term (aC 27 c []))=false:=by show((cD 0 c).q==2)=false;simpa using R
 have f:ix (vp s.li s.lt s.le s.term (aC 27 c []))=lg.length+1:=by rw[<-d];rfl
 have a:tm (vp s.li s.lt s.le s.term (aC 27 c []))=s.term:=rfl;generalize vp s.li s.lt s.le s.term (aC 27 c [])=y at i f a
 obtain⟨w',S,B,f3,Z,Y,b,ok,F⟩:=Wo h.ok h.sv (by rw[h.te];exact v) (e:=y) (by rw[h.te];exact a) i (by rw[jS,iu];exact⟨h.sv.lo.1,by rw[f];omega,by rw[a];exact p,by rw[f];omega,by rw[a];exact O,rfl⟩) (by rw[h.te];exact P)
 refine⟨w',_,b,⟨h.id,ok,F,by rw[S];exact h.te,⟨L,?_,?_,?_⟩,h.cm,h.c1,h.c2,.inr (h.rl.resolve_left (by rcases v with⟨e,-⟩|e<;>rw[e] <;>decide)),by rw[B];exact h.vt,by rw[B];exact h.vg,fun k=>(by cases k),fun _ q g=>?_,fun m n=>(h.ms m n).mono b,fun m n=>(h.cs m n).mono b⟩,rfl⟩
 .show s.li<=((lg++[y]).length:Int);rw[ai];omega
 .show s.le++[y]=(lg++[y]).drop s.li.toNat;rw[List.drop_append_of_le_length (by omega),J]
 .show s.lt=cZ 0 ((lg++[y]).take s.li.toNat);rw[List.take_append_of_le_length (by omega)];exact I
 obtain⟨H,V,G,U⟩:=l q g;have:=(b.ak q.1 s.term).1;refine⟨H,?_,G,?_⟩
 .show q.2.1<=(w'.ak q.1 s.term:Int);omega
 rw[ai,aW];omega
def fb.round{B:Type}{x:Taf}{step:Int->RS->(Int×RS)⊕B}{ex:RS->B}{bad:B}{m:Int->RS->Nat}{Q:B->Prop}(j:x.length<=10/\∀y∈x,1<=y.q/\y.q<=5)(e:∀i t,step i t=if decide (i<(x.length:Int)) then .inl (i64.wrap (i+1),fy ((x.getD i.toNat .top).q) t) else .inr (ex t))(g:∀i t,m i t=x.length-i.toNat)(k:fb w vv lg 2 s)(o:∀t,fb w vv lg 2 t->Kr s t->Q (ex t)):
  Q (iz (fun a:Int×RS=>step a.1 a.2) bad (m 0 s+1) (0,s)):=by
 refine fZ (fun a:Int×RS=>0<=a.1/\a.1<=x.length/\fb w vv lg 2 a.2/\Kr s a.2) Q (fun a=>m a.1 a.2) ?_ _ _ ⟨ar 0,dp _,k,rfl,rfl,rfl⟩ (ca _);rintro⟨i,t⟩ ⟨q,p,f,d⟩;simp only at q p f d;obtain⟨G,l⟩:=j;rw[e];by_cases b:decide (i<(x.length:Int))=true
 .rw[if_pos b];rw[bk]at b;have c:i.toNat<x.length:=by omega
  have h:=l _ (aN c);have n:x.getD i.toNat .top=x[i.toNat]:=by rw[ae,aS c];rfl
  rw[n,wrap64 (by omega) (by omega)];obtain⟨F,E,A,v⟩:=f.mZ (x:=(x[i.toNat]).q) (by omega) h.2;exact⟨⟨by show 0<=i+1;omega,by show i+1<=_;omega,F,E.trans d.1,A.trans d.2.1,v.trans d.2.2⟩,by show m (i+1) _<m i t;rw[g,g];omega⟩
 rw[if_neg b];exact o t f d
def Rn:rB s=oh {s with role:=2,bG:=s.id,wait:=0,round:=0,reads:=[],GQ:=0,Bx:=i64.wrap ((fM s.li s.lt s.le).1+1),EN:=0,BW:=0,yC:=i64.wrap ((fM s.li s.lt s.le).1+1),EM:=0,BV:=0,yB:=i64.wrap ((fM s.li s.lt s.le).1+1),EL:=0,BU:=0,yA:=i64.wrap ((fM s.li s.lt s.le).1+1),EK:=0,BT:=0,yz:=i64.wrap ((fM s.li s.lt s.le).1+1),EJ:=0,BS:=0,yx:=i64.wrap ((fM s.li s.lt s.le).1+1),EI:=0}:=by unfold rB qd;rfl
def fb.lead(h:fb w vv lg 1 s)(k:cK C M s (K+12))(B:Mj (w.gr s.term s.id))(l:1<=s.term)(o:(lg.length:Int)<MX):∃w' a,By s.id w w'/\fb w' vv a (rB s).role (rB s):=by
 rw[Rn]
 have y:i64.wrap ((fM s.li s.lt s.le).1+1)=lg.length+1:=by rw[show(fM s.li s.lt s.le).1=lg.length from h.len];simp only[MX]at o;exact wrap64 (by omega) (by omega)
 rw[y]
 have E:∀t:RS,t={s with role:=2,bG:=s.id,wait:=0,round:=0,reads:=[],GQ:=0,Bx:=(lg.length:Int)+1,EN:=0,BW:=0,yC:=(lg.length:Int)+1,EM:=0,BV:=0,yB:=(lg.length:Int)+1,EL:=0,BU:=0,yA:=(lg.length:Int)+1,EK:=0,BT:=0,yz:=(lg.length:Int)+1,EJ:=0,BS:=0,yx:=(lg.length:Int)+1,EI:=0}->
   fb w vv lg 1 t/\cK C M t (K+12)/\t.role=2/\t.id=s.id/\t.term=s.term/\∀q∈Bz t,0<=q.2.1/\q.2.1<=w.ak q.1 t.term/\1<=q.2.2/\q.2.2<=lg.length+2:=by rintro t rfl;refine⟨⟨h.id,h.ok,h.sv,h.te,h.lo,h.cm,h.c1,h.c2,h.rl,h.vt,h.vg,h.vs,fun k=>(by cases k),h.ms,h.cs⟩,⟨k.may,k.uA,k.vj,k.rI,k.nm,k.ne,k.nc,k.nv,k.cf,k.cs,k.cl,k.tm,k.tx,rfl⟩,rfl,rfl,rfl,fun q d=>?_⟩;simp only[Bz,aH,cb,or_false]at d;rcases d with rfl|rfl|rfl|rfl|rfl|rfl<;>(refine⟨ar _,?_,?_,?_⟩<;>dsimp only<;>omega)
 obtain⟨p,g,m,i,j,n⟩:=E _ rfl;generalize ({s with role:=2,bG:=s.id,wait:=0,round:=0,reads:=[],GQ:=0,Bx:=(lg.length:Int)+1,EN:=0,BW:=0,yC:=(lg.length:Int)+1,EM:=0,BV:=0,yB:=(lg.length:Int)+1,EL:=0,BU:=0,yA:=(lg.length:Int)+1,EK:=0,BT:=0,yz:=(lg.length:Int)+1,EJ:=0,BS:=0,yx:=(lg.length:Int)+1,EI:=0}:RS)=t at p g m i j n;rw[<-j]at l;obtain⟨w',a,b,D,-⟩:=p.put (c:=aC 27 C4 [(0,.int i64 1)]) (.inl ⟨rfl,by rw[i,j];exact B⟩) n (by decide) l g.tx o;rw[i]at b;refine⟨w',a,b,?_⟩;unfold oh;dsimp only;have f:cK C M (jY (aC 27 C4 [(0,.int i64 1)]) t).2 (K+11):=g.put (by intro d;exact absurd d (by decide))
 have v:(jY (aC 27 C4 [(0,.int i64 1)]) t).2.role=2/\(jY (aC 27 C4 [(0,.int i64 1)]) t).2.id=t.id:=by unfold jY;dsimp only;split<;>exact⟨m,rfl⟩
 exact fb.round (Q:=fun t=>fb w' vv a t.role t) (gz (c:=aC 2 (dR _) []) (gL f)) (fun _ _=>rfl) (fun _ _=>rfl) D (fun u A e=>A.agree (e.1.trans v.1) (by rw[e.2.1];exact⟨f.uA,f.vj⟩))
def won{ys:Taf}{d:D}(c:V3 d)(h:ju (aC 2 d []) (.list ys)=true):Mj fun v=>∃y∈ys,y.q=v:=by
 have f:zm [1,2,3] (hR (.list ys))=true:=by unfold ju at h;rw[show vo (aC 2 d [])=[1,2,3] from c]at h;exact h
 refine(aam f).mono fun v b=>?_;obtain⟨y,a,e⟩:=bq.1 (show v∈ys.map D.q from b);exact⟨y,a,e⟩
def fb.E3{c:D}(h:fb w vv lg r s)(k:cK C M s (K+13))(Y:gF c=true)(E:V3 c)(F:s.id<=3)(H:s.term<MX)(Z:(lg.length:Int)<MX):∃w' A,By s.id w w'/\fb w' vv A (ks c s).role (ks c s):=by
 have U:=k.Dc H;have J:=k.tm;have B:IntKind.wrap i64 (s.term+1)=s.term+1:=wrap64 (by omega) (by simp only[MX]at H;omega);obtain⟨w',P,n,O,f4,L,b,ok,R⟩:=OT h.ok h.sv;rw[h.te]at P n O f4 L
 have o:fb w' vv lg 1 ({fL ({s with term:=i64.wrap (s.term+1),vote:=s.id}:RS) with role:=1,bG:=0,aX:=[.int i64 s.id]}:RS):=by
  rw[B];refine⟨h.id,ok,R,by rw[P];exact rQ,h.lo,h.cm,h.c1,h.c2,.inr F,fun c q=>?_,fun _=>n,fun _ v E=>?_,fun k=>(by cases k),fun m d=>(h.ms m d).mono b,fun m d=>(h.cs m d).mono b⟩
  .have i1:=k.uA;rcases L _ _ _ q with q|q
   .have T:s.term+1<=w.tm s.id:=(h.ok.gr _ _ _ q).1;rw[h.te]at T;omega
   exact⟨q.2.1,by show s.id≠0;omega⟩
  rw[ax.1 (show v∈[D.int i64 s.id] from E)];exact n
 unfold ks;dsimp only;split
 .rename_i X;have d:=won E X
  obtain⟨Q,p,b2,S⟩:=o.lead (U.le (by omega:K+12<=K+13)) (d.mono fun v q=>by obtain⟨y,V,rfl⟩:=q;exact o.vs rfl y V) (by show 1<=IntKind.wrap i64 (s.term+1);rw[B];omega) Z
  exact⟨Q,p,b.trans b2,S⟩
 refine⟨w',lg,b,?_⟩;generalize W:fV _ _=x;have G:x.length<=10:=by rw[<-W];exact(gz (c:=aC 2 c []) Y).1
 unfold kS;refine fZ (fun a:Int×RS=>0<=a.1/\a.1<=x.length/\fb w' vv lg 1 a.2/\a.2.role=1/\a.2.id=s.id/\a.2.term=s.term+1) (fun t=>fb w' vv lg t.role t) (fun a=>x.length-a.1.toNat) ?_ _ _ ⟨ar 0,dp _,o,rfl,rfl,B⟩ (ca _);rintro⟨i,t⟩ ⟨h0,J,l,j,g,f⟩;simp only at h0 J l j g f;unfold mf;by_cases e:decide (i<(x.length:Int))=true
 .rw[if_pos e];rw[bk]at e;dsimp only;have d:x.length-(i+1).toNat<x.length-i.toNat:=by omega
  rw[wrap64 (by omega) (by omega)];by_cases I:jM (aC 2 c []) (x.getD i.toNat .top).q=true
  .rw[if_pos I];refine⟨⟨by show 0<=i+1;omega,by show i+1<=_;omega,l.send ?_,j,g,f⟩,d⟩;show w'.gr t.term t.id t.id/\s.li+s.le.length=((w'.cl t.term t.id).length:Int)/\cZ s.lt s.le=cZ 0 (w'.cl t.term t.id);rw[g,f,O];exact⟨n,h.len,h.last⟩
  rw[if_neg I];exact⟨⟨by show 0<=i+1;omega,by show i+1<=_;omega,l,j,g,f⟩,d⟩
 rw[if_neg e];show fb w' vv lg t.role t;rw[j];exact l
variable{C M K:Nat}{w w':Wd}{s t u:RS}{lg:Taf}{vv r:Int}{N:Int}{z:RS}{x:D}
def fb.refuse(h:fb w vv lg r s):fb w vv lg r (lE x s):=by
 unfold lE;dsimp only
 repeat' split
 .exact h.E4 (.inl rfl) rfl
 .exact h.E4 (.inr (.inl rfl)) rfl
 .exact h.E4 (.inr (.inr rfl)) rfl
 exact h
def fb.vote(h:fb w vv lg r s)(H:1<=(cD 1 x).q)(B:r=s.role)(d:wZ w x s.term (cD 1 x).q (cD 4 x).q 1):∃w',By s.id w w'/\fb w' vv lg (nU x s).role (nU x s):=by
 obtain⟨j,A,y⟩:=d;subst B;unfold nU;dsimp only;generalize n:((((s.vote==0)||(s.vote==(cD 1 x).q))&&(s.role !=2))&&zS s.li s.lt s.le (cD 4 x).q (cD 5 x).q)=b;cases b with
 |false=>exact⟨w,.refl _ _,h.E4 (.inl rfl) rfl⟩
 |true=>
  simp only[aT,bW,beq_iff_eq,bne_iff_ne,ne_eq]at n;obtain⟨⟨F,E⟩,i⟩:=n;rw[if_pos rfl];by_cases a:s.vote=0
  .rw[if_pos (by rw[a];rfl)]
   have l:cZ 0 lg<cZ 0 (w.cl s.term (cD 1 x).q)\/cZ 0 lg=cZ 0 (w.cl s.term (cD 1 x).q)/\lg.length<=(w.cl s.term (cD 1 x).q).length:=by unfold zS Ds at i;rw[h.last,h.len,A,y]at i;simp only[bW,aT,bk]at i;omega
   rw[<-h.te]at j l;obtain⟨w',D,g,o,b,ok,p⟩:=OV h.ok h.sv j (fun c q=>absurd a (h.vt c (by rw[<-h.te];exact q)).2) l;rw[h.te]at g o
   have f:fb w' vv lg s.role (kA (fL ({s with vote:=(cD 1 x).q}:RS))):=by
    refine⟨h.id,ok,p,by rw[D];exact h.te,h.lo,h.cm,h.c1,h.c2,h.rl,fun c q=>?_,fun _=>g,fun k v a=>b.gr _ _ _ (h.vs k v a),fun k q G=>?_,fun m d=>(h.ms m d).mono b,fun m d=>(h.cs m d).mono b⟩
    .rcases o _ _ _ q with q|q
     .exact absurd a (h.vt c q).2
     exact⟨q.2.1,by show(cD 1 x).q≠0;omega⟩
    exact absurd k E
   exact⟨w',b,f.send (fun _=>g)⟩
  rw[if_neg (by simpa using a)];have e:s.vote=(cD 1 x).q:=F.resolve_left a;have f:fb w vv lg s.role (kA s):=h.same;exact⟨w,.refl _ _,f.send (fun _=>by have:=h.vg a;rw[e]at this;exact this)⟩
def fb.E2(h:fb w vv lg s.role s)(k:cK C M s (K+13))(n:(cD 7 x).W=false->w.gr s.term s.id (cD 1 x).q)(m:1<=s.term)(o:(lg.length:Int)<MX):∃w' e,By s.id w w'/\fb w' vv e (kO x s).role (kO x s):=by
 unfold kO;by_cases d:((s.role !=1)||(cD 7 x).W)=true
 .rw[if_pos d];exact⟨w,lg,.refl _ _,h⟩
 rw[if_neg d];simp only[bW,bne_iff_ne,ne_eq,not_or,fK,Bool.not_eq_true]at d;obtain⟨g,i⟩:=d
 have b:∀r,fb w vv lg r s->r=1->fb w vv lg r ({s with aX:=s.aX++[cD 1 x]}:RS):=by
  rintro r h rfl;refine⟨h.id,h.ok,h.sv,h.te,h.lo,h.cm,h.c1,h.c2,h.rl,h.vt,h.vg,fun _ v c=>?_,fun k=>(by cases k),h.ms,h.cs⟩;rcases aM.1 (show v∈s.aX++[cD 1 x] from c) with c|c
  .exact h.vs rfl v c
  rw[ax.1 c];exact n i
 have j:cK C M ({s with aX:=s.aX++[cD 1 x]}:RS) (K+12):=by have c:=k.nv;have a:=k.le (by omega:K+12<=K+13);refine⟨a.may,a.uA,a.vj,a.rI,a.nm,a.ne,a.nc,?_,a.cf,a.cs,a.cl,a.tm,a.tx,a.rd⟩;show(s.aX++[cD 1 x]).length+(K+12)<=_;rw[ai,aW];omega
 dsimp only;by_cases f:ju (aC 2 (dR ({s with aX:=s.aX++[cD 1 x]}:RS)) []) (D.list (s.aX++[cD 1 x]))=true
 .rw[if_pos f];have b:=b 1 (by rw[<-g];exact h) rfl;exact b.lead j ((won b.JC f).mono fun v q=>by obtain⟨y,l,rfl⟩:=q;exact b.vs rfl y l) m o
 rw[if_neg f];exact⟨w,lg,.refl _ _,b _ h g⟩
def D2{T k:Int}{A B:Taf}{n:Nat}(j:Lo w T A)(g:Lo w k B)(p:n<=A.length)(o:n<=B.length)(h:cZ 0 (A.take n)=cZ 0 (B.take n)):Ag n A B:=by
 rcases Nat.eq_zero_or_pos n with rfl|m
 .exact .zero
 have a:=aS (l:=A) (i:=n-1) (by omega);have b:=aS (l:=B) (i:=n-1) (by omega);have e:=kT (t:=0) a;have d:=kT (t:=0) b;have c:=j.2.2 _ _ a;have f:=g.2.2 _ _ b;rw[show n-1+1=n by omega]at e d c f;rw[<-e,h,d]at c;exact c.trans f.symm
def fb.acc{T:Int}{LL:Taf}(h:fb w vv lg r s)(g:Lo w T LL):∀(es:Taf) (k:Nat),s.li<=k->Ag k lg LL->(∀j e,es[j]?=some e->LL[k+j]?=some e)->k+es.length<=LL.length->
  (qb s.li s.lt s.le es=(0,s.le)/\Ag (k+es.length) lg LL)\/(∃f,0<f/\qb s.li s.lt s.le es=(f,(LL.take (k+es.length)).drop s.li.toNat)/\¬Ag (k+es.length) lg LL)
 |[],k,h1,h2,h3,h4=>.inl ⟨rfl,h2⟩
 |x::es,k,h1,h2,h3,h4=>by
  have d:LL[k]?=some x:=h3 0 x rfl;have m:=(zX g.1 d).1;rw[Int.zero_add]at m;have l:((k:Int)+1).toNat=k+1:=by omega
  have n:rO s.li s.lt s.le x=true↔Ag (k+1) lg LL:=by
   have i:=kT (t:=0) d;unfold rO;rw[aT,beq_iff_eq,beq_iff_eq,m];constructor
   .rintro⟨E,p⟩;obtain⟨B,o,-⟩:=iF E;rw[h.len]at o;have:=h.term B o;unfold jB at this;rw[this,l]at p;exact D2 h.sv.lo g (by omega) (by have:=(aO.1 d).1;omega) (p.trans i.symm)
   intro a;have:=h.term (k:=(k:Int)+1) (by omega) (by have:=a.1;omega);unfold jB at this;rw[this,<-i,<-a.take,l];exact⟨rfl,rfl⟩
  unfold qb;by_cases c:rO s.li s.lt s.le x=true
  .rw[if_pos c,show k+(x::es).length=k+1+es.length by rw[bg];omega];refine h.acc g es (k+1) (by omega) (n.1 c) (fun j e v=>?_) (by rw[bg]at h4;omega);rw[show k+1+j=k+(j+1) by omega];exact h3 (j+1) e v
  rw[if_neg c];obtain⟨H,G,q,F⟩:=h.lo;refine .inr ⟨ix x,(by omega),?_,fun a=>c (n.2 (a.le (by rw[bg];omega)))⟩;congr 1;have y:=h2.take
  have A:LL.take (k+(x::es).length)=lg.take k++x::es:=by
   rw[List.take_add,<-y];congr 1;refine dD fun j=>?_;rw[aq,aD];by_cases b:j<(x::es).length
   .rw[if_pos b,aS b];exact h3 j _ (aS b)
   rw[if_neg b,cC (by omega)]
  have I:(lg.take k).length=k:=by rw[aA];have:=h2.1;omega
  rw[A,List.drop_append_of_le_length (by omega),q,List.drop_take];congr 2;omega
variable{C M K:Nat}{w w':Wd}{s t u:RS}{lg:Taf}{vv r:Int}{N:Int}{z:RS}{x:D}
def fb.take{n:Nat}{lg':Taf}(h:fb w vv lg 0 u)(a:w.ll u.term≠[])(g:Ag n lg' (w.ll u.term))(f:lg'=lg\/lg'=(w.ll u.term).take n/\¬Ag n lg (w.ll u.term)):
  ∃w',By u.id w w'/\w'.ll=w.ll/\n<=w'.ak u.id u.term/\u.bB.toNat<=lg'.length/\lg'.take u.li.toNat=lg.take u.li.toNat/\∀le,le=lg'.drop u.li.toNat->fb w' vv lg' 0 {u with le:=le}:=by
 obtain⟨v,E,B,p⟩:=h.lo;have H:=h.cm.1;rw[<-h.te]at a g f;obtain⟨w',A,o,G,y,F,l,b,ok,c⟩:=JY h.ok h.sv (by decide) a g f;rw[h.te]at l;have j:=Cm.ll h.ok h.sv.cm a
 have i:lg'.take u.li.toNat=lg.take u.li.toNat:=by
  rcases f with rfl|⟨-,k⟩
  .rfl
  have:u.bB.toNat<n:=by
   rcases eH u.bB.toNat n with q|q
   .exact q
   exact absurd (j.le q) k
  exact((g.le (by omega)).trans (j.le (by omega:u.li.toNat<=_)).symm).take
 refine⟨w',b,y,l,c.cm.len,i,fun le e=>?_⟩;subst e;refine⟨h.id,ok,c,by rw[A];exact h.te,⟨v,?_,rfl,by rw[i];exact p⟩,h.cm,h.c1,h.c2,.inl rfl,by rw[o];exact h.vt,by rw[o];exact h.vg,fun k=>(by cases k),fun k=>(by cases k),fun m d=>(h.ms m d).mono b,fun m d=>(h.cs m d).mono b⟩;have:=c.cm.len;show u.li<=lg'.length;omega
def Cm.ag{T:Int}{n:Nat}{L L':Taf}(h:Cm w T n L)(a:Ag n L' L):Cm w T n L':=by
 rcases h with h|⟨f,m,e,d,c,b⟩
 .exact .inl h
 exact .inr ⟨f,m,e,d,c,a.trans b⟩
def Jl{x:Int}:Kr s (en x s).2:=by unfold en;split<;>exact⟨rfl,rfl,rfl⟩
def fb.append(h:fb w vv lg s.role s)(W:wZ w x s.term (cD 1 x).q (cD 4 x).q 3)(h8:(cD 12 x).A.length<=8):∃w' a,By s.id w w'/\fb w' vv a (jj x s).role (jj x s):=by
 obtain⟨d,m2,H,p,G,F⟩:=W;unfold jj;rcases qR (x:=aC 46 x []) (s:=s) with k|⟨u,k,-⟩
 .rw[k];exact⟨w,lg,.refl _ _,h⟩
 obtain⟨c,o,R,Q,-⟩:=h.vH k;rw[k,<-R];rw[<-Q]at d H p G F;dsimp only;rw[if_neg (by decide)];have Y:Ag u.bB.toNat lg (w.ll u.term):=Cm.ll c.ok (by have:=c.sv.cm;rw[c.te]at this;exact this) d;obtain⟨l1,l2,I,l4⟩:=c.lo;have c1:=c.cm.1;by_cases A:decide ((cD 4 x).q<u.bB)=true
 .rw[if_pos A];obtain⟨w',b,m,l,-,-,g⟩:=c.take d Y (.inl rfl);refine⟨w',lg,b,?_⟩;show fb w' vv lg u.role _;rw[o];exact(g u.le I).send (fun _=>by show u.bB<=(w'.ak u.id u.term:Int);omega)
 rw[if_neg A]
 have y:u.bB<=(cD 4 x).q:=by have y:¬(cD 4 x).q<u.bB:=fun q=>A (decide_eq_true q);omega
 have eo:vP u.li u.lt u.le (cD 4 x).q (cD 5 x).q (cD 12 x).A=(((iD u.li u.lt u.le (cD 4 x).q (cD 5 x).q (cD 12 x).A).1,jf u.li u.lt u.le (cD 4 x).q (cD 5 x).q (cD 12 x).A),u.li,u.lt,(iD u.li u.lt u.le (cD 4 x).q (cD 5 x).q (cD 12 x).A).2):=rfl;rw[eo];dsimp only;unfold iD;cases hk:jf u.li u.lt u.le (cD 4 x).q (cD 5 x).q (cD 12 x).A with
 |false=>
  rw[if_pos (by rfl),if_neg (by decide)];refine⟨w,lg,.refl _ _,?_⟩;show fb w vv lg u.role _;rw[o];refine fb.E4 c.same ?_ ?_
  .exact .inr (.inl rfl)
  rfl
 |true=>
  rw[if_neg (by decide),if_pos rfl];simp only[jf,aT,beq_iff_eq]at hk;obtain⟨⟨-,T⟩,L⟩:=hk;obtain⟨S,E,-⟩:=iF T;rw[c.len]at E;have J:=c.term S E;unfold jB at J;rw[J]at L;have B:=c.ok.ll u.term;have Z:=pN (by decide) B.1;simp only[MX]at Z;have ha:=D2 c.sv.lo B (by omega) (by omega) (L.trans H)
  have U:i64.wrap ((cD 4 x).q+((cD 12 x).A.length:Int))=((cD 4 x).q.toNat+(cD 12 x).A.length:Nat):=by rw[wrap64 (by omega) (by omega)];omega
  rw[U];generalize O:(cD 4 x).q.toNat+(cD 12 x).A.length=n at p
  have e:∀(w':Wd) (a:Taf) (t:RS),By u.id w w'->w'.ll=w.ll->fb w' vv a 0 t->Kr u t->Ag n a (w.ll u.term)->n<=w'.ak u.id u.term->∃w' a,By u.id w w'/\fb w' vv a (en (iN (cD 6 x).q n) t).2.role (gq (aC 46 oK [(0,D.int i64 4),(2,(cD 1 x)),(4,D.int i64 n),(8,(cD 8 x))]) (en (iN (cD 6 x).q n) t).2):=by
   intro w' a t b el V j ag ak;refine⟨w',a,b,?_⟩;have v:=Jl (s:=t) (x:=iN (cD 6 x).q n);rw[v.1,j.1,o];refine(V.bM ?_).send (fun _=>?_)
   .rw[j.2.2];have h1:=b.cm F (ar _) .refl;have P:(iN (cD 6 x).q n).toNat<=(cD 6 x).q.toNat/\(iN (cD 6 x).q n).toNat<=n:=by unfold iN;split<;>omega
    exact(h1.le P.1).ag (ag.le P.2)
   show(n:Int)<=(w'.ak (en _ t).2.id (en _ t).2.term:Int);rw[v.2.1,v.2.2,j.2.1,j.2.2];omega
  rcases c.acc B (cD 12 x).A (cD 4 x).q.toNat (by omega) ha G (by omega) with⟨a1,a2⟩|⟨f,f0,a1,a2⟩
  .rw[a1];rw[O]at a2;obtain⟨w',b,m,l,-,-,g⟩:=c.take d a2 (.inl rfl);rw[if_neg (by simp)];exact e w' lg _ b m (g u.le I) ⟨rfl,rfl,rfl⟩ a2 l
  rw[a1];rw[O]at a2⊢;have ag:Ag n ((w.ll u.term).take n) (w.ll u.term):=⟨by rw[aA];omega,p,fun i X=>by rw[aq,if_pos X]⟩;obtain⟨w',b,m,l,-,-,g⟩:=c.take d ag (.inr ⟨rfl,a2⟩);rw[if_pos (decide_eq_true f0)];exact e w' _ _ b m (g _ rfl).same ⟨rfl,rfl,rfl⟩ ag l
variable{C M K:Nat}{w w':Wd}{s t u:RS}{lg:Taf}{vv r:Int}{N:Int}{z:RS}{x:D}
def fb.SI(h:fb w vv lg 2 s)(k:∀q∈Bz t,0<=q.2.1/\q.2.1<=w.ak q.1 s.term/\1<=q.2.2/\q.2.2<=lg.length+1)(e:er t=er s):fb w vv lg 2 t:=by
 have e:jF t []=jF s []:=congrFun (congrArg jF e) _;simp only[jF,ah]at e;obtain⟨A,y,j,v,p,o,n,m,l,i,g,f,d,c,-,b,a⟩:=e;obtain⟨T,S,R,Q,P,O,L,J,I,H,G,F,E,D,B⟩:=h;constructor
 all_goals first|assumption|(simp only[A,y,j,v,p,o,n,m,l,i,g,f,d,c,b,a];assumption)|exact fun _=>by rw[j];exact k
def fb.has{a b:Int}(h:fb w vv lg 2 s)(B:s.role=2)(hi:1<=s.id/\s.id<=5)(p:0<=a)(o:a<=5)(G:b<=w.ak a s.term):fb w vv lg (tY a b s).role (tY a b s):=by
 have E:(fM s.li s.lt s.le).1=lg.length:=h.len
 have go:∀(t:RS) (c:Bool),t.role=2->t.id=s.id->fb w vv lg 2 t->fb w vv lg (if(((gS t).role==2)&&c)=true then fy a (gS t) else gS t).role (if(((gS t).role==2)&&c)=true then fy a (gS t) else gS t):=by
  intro t c tr v A;have l:=A.agree tr (by rw[v];exact hi);split
  .rename_i k;rw[aT,beq_iff_eq]at k;rw[k.1]at l;have j:=l.mZ p o;rw[j.2.1,k.1];exact j.1
  exact l
 have f:=h.pe rfl;have j:=(h.ok.ak a s.term).1;rw[h.ll.1]at j;have g:=h.Yp;simp only[MX]at g
 have up:∀m n:Int,0<=m/\m<=w.ak a s.term/\1<=n/\n<=lg.length+1->0<=ER m b lg.length/\ER m b lg.length<=w.ak a s.term/\1<=GV m n b lg.length/\GV m n b lg.length<=lg.length+1:=by
  rintro m n ⟨c1,c2,c3,c4⟩;unfold GV ER
  have d:0<=lL m (iN b lg.length)/\lL m (iN b lg.length)<=w.ak a s.term:=by
   unfold lL iN;repeat' split
   all_goals omega
  rw[wrap64 (by omega) (by omega)];refine⟨d.1,d.2,?_⟩;generalize lL m (iN b lg.length)=y at d;unfold lL;split<;>omega
 refine xB (P:=fun t=>fb w vv lg t.role t) p o fun m n t c D e F=>go t c ((congrArg RS.role e:).trans B) (congrArg RS.id e:) (h.SI (fun q i=>?_) e);rw[F,E]at i;rcases cX i with i|rfl
 .exact f q i
 exact up _ _ (f _ (bQ D))
def GL(a:s.reads=[]):fN x s={s with reads:=[]}:=by unfold fN kb;dsimp only;unfold iz ka;rw[if_neg (by rw[a];exact(by decide:¬decide ((0:Int)<(([]:Taf).length:Int))=true))];rfl
def fb.om(h:fb w vv lg r s)(a:s.reads=[]):fb w vv lg r (fN x s)/\Kr s (fN x s):=by rw[GL a];exact⟨h.same,rfl,rfl,rfl⟩
def fb.appended(h:fb w vv lg s.role s)(i:s.reads=[])(hi:1<=s.id/\s.id<=5)(l:0<=(cD 1 x).q)(k:(cD 1 x).q<=5)(A:(cD 7 x).W=false->(cD 4 x).q<=w.ak (cD 1 x).q s.term):fb w vv lg (hH x s).role (hH x s):=by
 obtain⟨a,c⟩:=h.om (x:=aC 46 x []) i;generalize E:fN (aC 46 x []) s=v at a c;rw[<-c.2.1]at hi;rw[<-c.2.2]at A;refine oD (P:=fun t=>fb w vv lg t.role t) E l k h (fun q m n t G e J=>?_) fun q I=>(q▸a:fb w vv lg 2 v).has (c.1.trans q) hi l k (A I);replace a:fb w vv lg 2 v:=q▸a;have H:(fM v.li v.lt v.le).1=lg.length:=a.len;have b:=a.pe rfl;have f:=a.Yp;simp only[MX]at f;have j:=(a.ok.ak (cD 1 x).q v.term).1;rw[a.ll.1]at j
 have F:fb w vv lg 2 t:=by
  refine a.SI (fun p g=>?_) e;rw[J]at g;rcases cX g with g|rfl
  .exact b p g
  obtain⟨D,B,O,L⟩:=b _ (bQ G);simp only at D B O L;refine⟨D,B,?_⟩;dsimp only[Jv];rw[H]
  have d:0<=iN (lL 0 (cD 4 x).q) lg.length/\iN (lL 0 (cD 4 x).q) lg.length<=lg.length:=by
   unfold lL iN;repeat' split
   all_goals omega
  generalize iN (lL 0 (cD 4 x).q) (lg.length:Int)=y at d;rw[wrap64 (by omega) (by omega),wrap64 (by omega) (by omega),wrap64 (by omega) (by omega)];unfold lL iN;repeat' split
  all_goals omega
 have o:=F.mZ l k;rw[o.2.1,show t.role=v.role from(congrArg RS.role e:),c.1,q];exact o.1
def fb.vL(h:fb w vv lg s.role s)(hi:1<=s.id/\s.id<=5)(d:0<=(cD 1 x).q)(c:(cD 1 x).q<=5)(i:(cD 7 x).W=false->(cD 10 x).q=0->(cD 4 x).q<=w.ak (cD 1 x).q s.term):fb w vv lg (iH x s).role (iH x s):=by have g:s.role=2->fb w vv lg 2 s:=fun q=>q▸h;refine pP (P:=fun t=>fb w vv lg t.role t) d c h (fun q a b=>(g q).has q hi d c (i a b)) fun q t e j=>?_;have f:=((g q).same (Tt e j)).mZ d c;rw[f.2.1,show t.role=s.role from(congrArg RS.role e:),q];exact f.1
variable{C M K:Nat}{w w':Wd}{s t u:RS}{lg:Taf}{vv r:Int}{N:Int}{z:RS}{x:D}
def fb.inst{i:Int}{lg':Taf}(h:fb w vv lg 0 u)(c:w.ll u.term≠[])(hi:0<i)(j:Ag i.toNat lg' (w.ll u.term))(v:lg'=lg\/lg'=(w.ll u.term).take i.toNat/\¬Ag i.toNat lg (w.ll u.term))(e:Cm w u.term i.toNat (w.ll u.term))(G:t.id=u.id/\t.term=u.term/\t.bB=i/\t.li=i/\t.pZ=i/\t.ng=t.lt/\t.lt=cZ 0 (lg'.take i.toNat)/\t.le=lg'.drop i.toNat/\t.fv=u.fv/\t.fl=u.fl/\t.vote=u.vote/\t.msgs=u.msgs/\t.bM=u.bM)(F:V3 (.agg [.list t.sv,.list t.sl])):
  ∃w',By u.id w w'/\i<=w'.ak u.id u.term/\fb w' vv lg' 0 t:=by
 obtain⟨g,l,E,B,P,O,L,J,I,p,f,o,n⟩:=G;rw[<-h.te]at c j v e;obtain⟨w',A,y,T,S,R,H,b,ok,q⟩:=JY h.ok h.sv (by decide) c j v;rw[h.te]at H;have d:=((b.cm e (ar _) .refl).ag j);have Q:=j.1;refine⟨w',b,by omega,g.trans h.id,ok,?_,by rw[g,l,A];exact h.te,?_,?_,by rw[I,p];exact h.c1,fun _=>F,.inl rfl,by rw[g,l,f,y];exact h.vt,by rw[g,l,f,y];exact h.vg,fun k=>(by cases k),fun k=>(by cases k),fun m a=>?_,fun m a=>?_⟩
 .rw[g,E];exact⟨q.lo,q.kp,by rw[A];exact d,fun k=>(by cases k),fun k=>(by cases k)⟩
 .rw[B];exact⟨by omega,by omega,J,L⟩
 .rw[B,E,P];exact⟨ar _,rfl,O⟩
 .rw[o]at a;exact(h.ms m a).mono b
 rw[n]at a;exact(h.cs m a).mono b
def fb.BX{u d:RS}{pd:Taf}(h:fb w vv lg 0 u)(hA:fb w vv lg 0 d)(B:u.role=0/\d.role=0)(a0:d.id=u.id)(hc:¬(cD 4 x).q<=u.bB)(hm:wZ w x u.term (cD 1 x).q (cD 4 x).q 5):∃w' c,By u.id w w'/\fb w' vv c (rR x u pd d).role (rR x u pd d):=by
 obtain⟨P,O,A,v,Y⟩:=hm;have c1:=h.cm.1;have R:=h.ok.ll u.term;have hb:=pN (by decide) R.1;have o:=v.len;unfold rR;dsimp only
 have H:∀(n:Nat) (y:Int),fb w vv lg 0 (gq (aC 46 oK [(0,D.int i64 6),(2,(cD 1 x)),(4,(cD 4 x)),(9,D.int i64 n),(10,D.int i64 (lL 1 y))]) d):=by intro n y;refine hA.send (fun _ q=>?_);have L:lL 1 y=0:=q;unfold lL at L;split at L<;>omega
 have I:∀m,(gq m d).role=0:=fun m=>B.2;split
 .refine⟨w,lg,.refl _ _,?_⟩;rw[I];exact H _ _
 rename_i g;split
 .refine⟨w,lg,.refl _ _,?_⟩;rw[I];exact H _ _
 obtain⟨n1,X⟩:=DV g;have Q:V3 (.agg [.list (cD 13 x).A,.list (cD 14 x).A]):=Y
 have j:∀(t:RS) (w':Wd) (c:Taf),By u.id w w'->t.role=0->t.id=u.id->t.term=u.term->(cD 4 x).q<=w'.ak u.id u.term->fb w' vv c 0 t->∃w' c,By u.id w w'/\fb w' vv c (gq (aC 46 oK [(0,D.int i64 6),(2,(cD 1 x)),(4,(cD 4 x))]) t).role (gq (aC 46 oK [(0,D.int i64 6),(2,(cD 1 x)),(4,(cD 4 x))]) t):=by intro t w' c b tr T S E e;refine⟨w',c,b,?_⟩;show fb w' vv c t.role _;rw[tr];refine e.send (fun _ _=>?_);show(cD 4 x).q<=(w'.ak t.id t.term:Int);rw[T,S];exact E
 split
 .rename_i e;simp only[aT,beq_iff_eq]at e;obtain⟨U,l⟩:=e;obtain⟨V,J,-⟩:=iF U;rw[h.len]at J;have f:=h.term V J;rw[f]at l
  have eC:iY u.li u.lt u.le (cD 4 x).q=(uq u.li u.le (cD 4 x).q,(cD 4 x).q,(cD 5 x).q,u.le.drop ((cD 4 x).q-u.li).toNat):=by
   have hl:=h.len;unfold iY iT;rw[if_neg (by omega)]
   have p:(gl u.li u.lt u.le (cD 4 x).q).1=(cD 5 x).q:=by unfold jB at f;rw[f];exact l
   rw[p]
  have E:=D2 h.sv.lo R (by omega) o (l.trans A);rw[eC];obtain⟨w',b,G,F⟩:=h.inst (i:=(cD 4 x).q) (lg':=lg) P O E (.inl rfl) v (t:=fL ({u with il:=(D.ptr [cD 4 x,cD 5 x,cD 13 x,cD 14 x,.list pd]),pZ:=(cD 4 x).q,ng:=(cD 5 x).q,sv:=(cD 13 x).A,sl:=(cD 14 x).A,gN:=pd,bB:=(cD 4 x).q,nW:=0,qc:=0,lW:=0,wV:=0,lV:=0,fR:=[],li:=(cD 4 x).q,lt:=(cD 5 x).q,le:=u.le.drop ((cD 4 x).q-u.li).toNat}:RS)) ⟨rfl,rfl,rfl,rfl,rfl,rfl,l.symm,(by obtain⟨l1,l2,Z,l4⟩:=h.lo;show u.le.drop ((cD 4 x).q-u.li).toNat=lg.drop (cD 4 x).q.toNat;rw[Z,List.drop_drop];congr 1;omega),rfl,rfl,rfl,rfl,rfl⟩ Q;exact j _ w' lg b B.1 rfl rfl G F
 rename_i e
 have W:¬Ag (cD 4 x).q.toNat lg (w.ll u.term):=by intro a;have:=a.1;have f:=h.term (k:=(cD 4 x).q) (by omega) (by omega);apply e;rw[f,a.take,<-A];simp
 have ag:Ag (cD 4 x).q.toNat ((w.ll u.term).take (cD 4 x).q.toNat) (w.ll u.term):=⟨by rw[aA];omega,o,fun i o=>by rw[aq,if_pos o]⟩;rw[X];obtain⟨w',b,G,F⟩:=h.inst (i:=(cD 4 x).q) P O ag (.inr ⟨rfl,W⟩) v (t:=fL ({u with il:=(D.ptr [cD 4 x,cD 5 x,cD 13 x,cD 14 x,.list pd]),pZ:=(cD 4 x).q,ng:=(cD 5 x).q,sv:=(cD 13 x).A,sl:=(cD 14 x).A,gN:=pd,bB:=(cD 4 x).q,nW:=0,qc:=0,lW:=0,wV:=0,lV:=0,fR:=[],li:=(cD 4 x).q,lt:=(cD 5 x).q,le:=[]}:RS)) ⟨rfl,rfl,rfl,rfl,rfl,rfl,(by rw[List.take_take,Nat.min_self];exact A),(by rw[bL (by rw[aA];omega)];rfl),rfl,rfl,rfl,rfl,rfl⟩ Q;exact j _ w' _ b B.1 rfl rfl G F
def fb.snap(h:fb w vv lg s.role s)(e:wZ w x s.term (cD 1 x).q (cD 4 x).q 5):∃w' g,By s.id w w'/\fb w' vv g (nV x s).role (nV x s):=by
 unfold nV;rcases qR (x:=aC 46 x []) (s:=s) with f|⟨u,f,-⟩
 .rw[f];exact⟨w,lg,.refl _ _,h⟩
 obtain⟨a,c,l,k,-⟩:=h.vH f;rw[f,<-l];rw[<-k]at e;dsimp only;rw[if_neg (by decide)];split
 .obtain⟨j,v,p,o,n⟩:=e;have i:Ag u.bB.toNat lg (w.ll u.term):=Cm.ll a.ok (by have:=a.sv.cm;rw[a.te]at this;exact this) j;have D:=a.cm.1;have y:=a.lo.1;obtain⟨w',b,B,A,-,-,m⟩:=a.take j i (.inl rfl);refine⟨w',lg,b,?_⟩;show fb w' vv lg u.role _;rw[c];exact(m u.le a.lo.2.2.1).send (fun _ _=>by show u.bB<=(w'.ak u.id u.term:Int);omega)
 rename_i i;have d:¬(cD 4 x).q<=u.bB:=fun q=>i (decide_eq_true q)
 repeat' split
 .exact a.BX a.same ⟨c,c⟩ rfl d e
 .exact a.BX a.same ⟨c,c⟩ rfl d e
 .exact a.BX a.same ⟨c,c⟩ rfl d e
 exact a.BX a ⟨c,c⟩ rfl d e
variable{C M K:Nat}{w w':Wd}{s t u:RS}{lg:Taf}{vv r:Int}{N:Int}{z:RS}{x:D}
def SG(w:Wd)(s:RS)(y:D×RS):Prop:=∃w' a,By s.id w w'/\fb w' s.id a y.2.role y.2/\(∀m∈(cD 5 y.1).A,uH w' m)/\∀e∈(cD 6 y.1).A,Ce w' e
def SG.done(b:By s.id w w')(h:fb w' s.id lg t.role t):SG w s (aC 8 (bR t).1 [],(bR t).2):=
 ⟨w',lg,b,⟨h.id,h.ok,h.sv,h.te,h.lo,h.cm,h.c1,h.c2,h.rl,h.vt,h.vg,h.vs,h.pe,fun m a=>(by cases a),fun m a=>(by cases a)⟩,h.ms,h.cs⟩
def SG.ite{c:Prop}[Decidable c]{a b:D×RS}(e:c->SG w s a)(d:¬c->SG w s b):SG w s (if c then a else b):=by
 split
 .exact e (by assumption)
 exact d (by assumption)
def Gj:(lE x s).role=s.role:=by
 unfold lE;dsimp only
 repeat' split
 all_goals rfl
def Qz{x:Int}(h:fb w s.id lg s.role s)(k:cK C M s (K+13))(v:(lg.length:Int)<MX):SG w s (jz x s):=by
 unfold jz;dsimp only;have m:∀t:RS,jJ t=jJ s->t.role=s.role->SG w s (aC 8 (bR t).1 [],(bR t).2):=fun t e er=>.done (.refl _ _) (by rw[er];exact h.same e)
 have j:∀t:RS,jJ t=jJ s->BF s t->jM (aC 2 (dR t) []) t.id=true->t.term<1099511627776->t.id=s.id->SG w s (aC 8 (bR (ks (aC 2 (dR t) []) t)).1 [],(bR (ks (aC 2 (dR t) []) t)).2):=by
  intro t e n i q E;have d:=h.same e
  have l:t.id<=3:=by unfold jM at i;rw[show vo (aC 2 (dR t) [])=[1,2,3] from d.JC]at i;have:=of_decide_eq_true i;simp only[aH,cb,or_false]at this;omega
  obtain⟨w',o,b,B⟩:=d.E3 (c:=aC 2 (dR t) []) (k.same n) (gL (k.same n)) d.JC l q v;rw[E]at b;exact .done b B
 have a:s.role=2->SG w s (og (fV (aC 2 (dR ({s with wait:=0}:RS)) []) ({s with wait:=0}:RS)) 0 ({s with wait:=0}:RS)):=by
  intro f;have A:cK C M ({s with wait:=0}:RS) (K+13):=k.same iR;have y:fb w s.id lg 2 ({s with wait:=0}:RS):=by rw[f]at h;exact h.same
  exact fb.round (Q:=fun t:D×RS=>SG w s t) (gz (c:=aC 2 (dR _) []) (gL A)) (fun _ _=>rfl) (fun _ _=>rfl) y (fun t d p=>.done (.refl _ _) (by rw[p.1,show(({s with wait:=0}:RS)).role=2 from f];exact d))
 generalize og (fV (aC 2 (dR ({s with wait:=0}:RS)) []) ({s with wait:=0}:RS)) 0 ({s with wait:=0}:RS)=L at a⊢;refine SG.ite (fun f=>SG.ite (fun _=>a (by simpa using f)) fun _=>m _ rfl rfl) fun _=>?_
 repeat' (first|with_reducible refine SG.ite (fun g=>?_) (fun _=>?_))
 all_goals first
  |exact m _ rfl rfl
  |(simp only[aT,bk]at g;(with_reducible refine j _ ?_ ?_ g.1 g.2 ?_);rfl;exact iR;rfl)
def QA(h:fb w s.id lg s.role s)(k:cK C M s (K+28))(V:uH w x)(W:(cD 12 x).A.length<=8)(F:(lg.length:Int)<MX):SG w s (jo x s):=by
 unfold jo Qg yF;have R:SG w s (aC 8 (bR s).1 [],(bR s).2):=.done (.refl _ _) h;refine SG.ite (fun _=>R) fun U=>SG.ite (fun _=>R) fun i=>?_
 have L:(cD 2 x).q=s.id/\ny (cD 1 x).q 1 5=true/\ny (cD 3 x).q 1 1099511627776=true:=by simp only[Bool.not_eq_true,Bool.or_eq_false_iff,Bool.not_eq_false',aT,beq_iff_eq]at i;exact⟨i.1.1.1.1.1,i.1.1.1.2,i.1.1.2⟩
 obtain⟨H,l,B⟩:=L;simp only[ny,aT,bk]at l B
 have o:∀(m:Wd) (d:Taf) (t:RS),By s.id w m->t.id=s.id->fb m s.id d t.role t->cK C M t (K+28)->(cD 3 x).q=t.term->(d.length:Int)<MX->
   ∀f:RS->RS,((cD 0 x).q=1/\f=nU (aC 46 x [])\/(cD 0 x).q=2/\f=kO (aC 46 x [])\/(cD 0 x).q=3/\f=jj (aC 46 x [])\/(cD 0 x).q=4/\f=hH (aC 46 x [])\/(cD 0 x).q=5/\f=nV (aC 46 x [])\/(cD 0 x).q=6/\f=iH (aC 46 x [])\/f=id)->SG w s (aC 8 (bR (f t)).1 [],(bR (f t)).2):=by
  intro m d t b Q g E S F f O;have c:=V.mono b;unfold uH at c;rw[S]at c;have j:1<=t.id/\t.id<=5:=⟨E.uA,E.vj⟩
  have go:(∃w' v,By t.id m w'/\fb w' s.id v (f t).role (f t))->SG w s (aC 8 (bR (f t)).1 [],(bR (f t)).2):=by rintro⟨w',v,G,P⟩;rw[Q]at G;exact .done (b.trans G) P
  rcases O with⟨hk,rfl⟩|⟨hk,rfl⟩|⟨hk,rfl⟩|⟨hk,rfl⟩|⟨hk,rfl⟩|⟨hk,rfl⟩|rfl
  .rw[hk]at c;obtain⟨w',G,P⟩:=g.vote (x:=aC 46 x []) l.1 rfl c;exact go ⟨w',d,G,P⟩
  .rw[hk]at c;have A:(cD 7 x).W=false->m.gr t.term (cD 2 x).q (cD 1 x).q:=c;rw[H,<-Q]at A;exact go (g.E2 (x:=aC 46 x []) (E.le (by omega:K+13<=K+28)) A (by omega) F)
  .rw[hk]at c;exact go (g.append (x:=aC 46 x []) c W)
  .rw[hk]at c;exact go ⟨m,d,.refl _ _,g.appended (x:=aC 46 x []) E.rd j (by show 0<=(cD 1 x).q;omega) l.2 c⟩
  .rw[hk]at c;exact go (g.snap (x:=aC 46 x []) c)
  .rw[hk]at c;exact go ⟨m,d,.refl _ _,g.vL (x:=aC 46 x []) j (by show 0<=(cD 1 x).q;omega) l.2 c⟩
  exact go ⟨m,d,.refl _ _,g⟩
 have n:∀t:RS,(∀f:RS->RS,((cD 0 x).q=1/\f=nU (aC 46 x [])\/(cD 0 x).q=2/\f=kO (aC 46 x [])\/(cD 0 x).q=3/\f=jj (aC 46 x [])\/(cD 0 x).q=4/\f=hH (aC 46 x [])\/(cD 0 x).q=5/\f=nV (aC 46 x [])\/(cD 0 x).q=6/\f=iH (aC 46 x [])\/f=id)->SG w s (aC 8 (bR (f t)).1 [],(bR (f t)).2))->
   SG w s (if((cD 0 x).q==1)=true then(aC 8 (bR (nU (aC 46 x []) t)).1 [],(bR (nU (aC 46 x []) t)).2) else if((cD 0 x).q==2)=true then(aC 8 (bR (kO (aC 46 x []) t)).1 [],(bR (kO (aC 46 x []) t)).2) else if((cD 0 x).q==3)=true then(aC 8 (bR (jj (aC 46 x []) t)).1 [],(bR (jj (aC 46 x []) t)).2) else if((cD 0 x).q==4)=true then(aC 8 (bR (hH (aC 46 x []) t)).1 [],(bR (hH (aC 46 x []) t)).2) else if((cD 0 x).q==5)=true then(aC 8 (bR (nV (aC 46 x []) t)).1 [],(bR (nV (aC 46 x []) t)).2) else if((cD 0 x).q==6)=true then(aC 8 (bR (iH (aC 46 x []) t)).1 [],(bR (iH (aC 46 x []) t)).2) else(aC 8 (bR t).1 [],(bR t).2)):=by intro t a;refine SG.ite (fun e=>a _ (.inl ⟨eq_of_beq e,rfl⟩)) fun _=>SG.ite (fun e=>a _ (.inr (.inl ⟨eq_of_beq e,rfl⟩))) fun _=>SG.ite (fun e=>a _ (.inr (.inr (.inl ⟨eq_of_beq e,rfl⟩)))) fun _=>SG.ite (fun e=>a _ (.inr (.inr (.inr (.inl ⟨eq_of_beq e,rfl⟩))))) fun _=>SG.ite (fun e=>a _ (.inr (.inr (.inr (.inr (.inl ⟨eq_of_beq e,rfl⟩)))))) fun _=>SG.ite (fun e=>a _ (.inr (.inr (.inr (.inr (.inr (.inl ⟨eq_of_beq e,rfl⟩))))))) fun _=>a _ (.inr (.inr (.inr (.inr (.inr (.inr rfl))))))
 refine SG.ite (fun p=>?_) fun p=>SG.ite (fun _=>.done (.refl _ _) (by rw[Gj];exact h.refuse)) fun J=>?_
 .have O:cK C M (eR (cD 3 x).q 0 s) (K+28):=k.follow (by omega) B.2;obtain⟨w',b,I⟩:=h.follow (x:=(cD 3 x).q) (y:=0);have e:eR (cD 3 x).q 0 s={fL ({s with term:=(cD 3 x).q,vote:=0}:RS) with role:=0,bG:=0,aX:=[],reads:=[]}:=if_pos p;have T:(eR (cD 3 x).q 0 s).role=0:=by rw[e]
  have j:(eR (cD 3 x).q 0 s).id=s.id:=by rw[e];rfl
  have g:(cD 3 x).q=(eR (cD 3 x).q 0 s).term:=by rw[e];rfl
  have I:fb w' s.id lg (eR (cD 3 x).q 0 s).role (eR (cD 3 x).q 0 s):=by rw[T];exact I
  refine SG.ite (fun q=>absurd (of_decide_eq_true q) (by omega)) fun _=>n _ (o w' lg _ b j I O g F)
 have Y:¬(cD 3 x).q>s.term:=fun q=>p (decide_eq_true q);have X:¬(cD 3 x).q<s.term:=fun q=>J (decide_eq_true q);exact n _ (o w lg s (.refl _ _) rfl h k (by omega) F)
def QB(h:fb w s.id lg s.role s)(k:cK C M s (K+20))(d:(cD 0 x).q≠2)(U:(lg.length:Int)<MX):SG w s ((dH x s).1.2.2,(dH x s).2):=by
 unfold dH;dsimp only;by_cases v:(wT (aC 27 x []) s !=0)=true
 .rw[if_pos v];exact .done (.refl _ _) h
 rw[if_neg v];have g:wT (aC 27 x []) s=0:=by simpa using v
 have J:s.role=2:=by
  unfold wT at g;split at g
  .cases g
  rename_i e;simpa using e
 have G:fb w s.id lg 2 s:=by rw[<-J];exact h
 have p:1<=s.term:=h.ok.pos s.term (by rw[G.ll.1];exact G.ll.2.1);have F:cK C M (jY (aC 27 x []) s).2 (K+19):=k.put (DN g);obtain⟨w',i,b,L,T⟩:=G.put (c:=aC 27 x []) (.inr rfl) (fun q v=>by have:=G.pe rfl q v;exact⟨this.1,this.2.1,this.2.2.1,by omega⟩) d p k.tx U
 have I:Kr s (jY (aC 27 x []) s).2:=by unfold jY;dsimp only;split<;>exact⟨rfl,rfl,rfl⟩
 rw[if_neg (by rw[T];decide)];have f:=gz (c:=aC 2 (dR (jY (aC 27 x []) s).2) []) (s:=(jY (aC 27 x []) s).2) (gL F);generalize jY (aC 27 x []) s=jr at F L f I;generalize fV (aC 2 (dR jr.2) []) jr.2=l at f;obtain⟨hl,H⟩:=f;unfold mW;refine fZ (fun a:Int×RS=>0<=a.1/\a.1<=l.length/\fb w' s.id i 2 a.2/\Kr jr.2 a.2) (fun y:(D×Int×D)×RS=>SG w s (y.1.2.2,y.2)) (fun a=>l.length-a.1.toNat) ?_ _ _ ⟨ar 0,dp _,L,rfl,rfl,rfl⟩ (ca _);rintro⟨j,t⟩ ⟨W,V,p,m⟩;simp only at W V p m;unfold mV;dsimp only;by_cases o:decide (j<(l.length:Int))=true
 .rw[if_pos o];rw[bk]at o;have A:j.toNat<l.length:=by omega
  have Q:=H _ (aN A);have S:l.getD j.toNat .top=l[j.toNat]:=by rw[ae,aS A];rfl
  rw[S,wrap64 (by omega) (by omega)];generalize (l[j.toNat]).q=n at Q;have O:l.length-(j+1).toNat<l.length-j.toNat:=by omega
  have E:∀n,1<=n->n<=5->(0<=j+1/\j+1<=(l.length:Int)/\fb w' s.id i 2 (fy n t)/\Kr jr.2 (fy n t))/\l.length-(j+1).toNat<l.length-j.toNat:=by intro n n0 P;obtain⟨f1,Z,Y,X⟩:=p.mZ (x:=n) (by omega) P;exact⟨⟨by omega,by omega,f1,Z.trans m.1,Y.trans m.2.1,X.trans m.2.2⟩,O⟩
  have B:(0<=j+1/\j+1<=(l.length:Int)/\fb w' s.id i 2 t/\Kr jr.2 t)/\l.length-(j+1).toNat<l.length-j.toNat:=⟨⟨by omega,by omega,p,m⟩,O⟩;have R:n=1\/n=2\/n=3\/n=4\/n=5:=by omega
  rcases R with rfl|rfl|rfl|rfl|rfl<;>(repeat (first|rw[if_pos (by decide)] |rw[if_neg (by decide)]))
  all_goals first
   |(by_cases d:(t.yC==(cD 0 jr.1.1).q)=true
     .rw[if_pos d];exact E 1 (by decide) (by decide)
     rw[if_neg d];exact B)
   |(by_cases d:(t.yB==(cD 0 jr.1.1).q)=true
     .rw[if_pos d];exact E 2 (by decide) (by decide)
     rw[if_neg d];exact B)
   |(by_cases d:(t.yA==(cD 0 jr.1.1).q)=true
     .rw[if_pos d];exact E 3 (by decide) (by decide)
     rw[if_neg d];exact B)
   |(by_cases d:(t.yz==(cD 0 jr.1.1).q)=true
     .rw[if_pos d];exact E 4 (by decide) (by decide)
     rw[if_neg d];exact B)
   |(by_cases d:(t.yx==(cD 0 jr.1.1).q)=true
     .rw[if_pos d];exact E 5 (by decide) (by decide)
     rw[if_neg d];exact B)
 rw[if_neg o];exact .done b (p.agree (m.1.trans (I.1.trans J)) (by rw[m.2.1];exact⟨F.uA,F.vj⟩))
def QC{i:Int}{y:Taf}(h:fb w s.id lg s.role s):SG w s ((eG i y s).1.2,(eG i y s).2):=by
 unfold eG;dsimp only;by_cases d:((decide (((y:Taf).length:Int)<1))||(decide (((y:Taf).length:Int)>1048576)))=true
 .rw[if_pos d];exact .done (.refl _ _) h
 rw[if_neg d];by_cases b:decide (i>s.bB)=true
 .rw[if_pos b];exact .done (.refl _ _) h
 rw[if_neg b];by_cases a:decide (i<=(iS s.li s.lt s.le).1)=true
 .rw[if_pos a];exact .done (.refl _ _) h
 rw[if_neg a];have p:¬i>s.bB:=fun q=>b (decide_eq_true q);have o:¬i<=s.li:=fun q=>a (decide_eq_true q);obtain⟨n,m,f,l⟩:=h.lo;have B:=h.cm.1;have A:=h.sv.cm.len;have g:=h.Yp;simp only[MX]at g;have e:=h.term (k:=i) (by omega) (by omega);have v:=h.len
 have j:iY s.li s.lt s.le i=(0,i,cZ 0 (lg.take i.toNat),s.le.drop (i-s.li).toNat):=by have c:gl s.li s.lt s.le i=(cZ 0 (lg.take i.toNat),0):=e;unfold iY uq iT;rw[if_neg (by omega),if_neg (by omega),c]
 rw[j,e];refine SG.done (t:=fL _) (.refl _ _) ⟨h.id,h.ok,h.sv,h.te,⟨by show 0<=i;omega,by show i<=_;omega,?_,rfl⟩,⟨by show i<=s.bB;omega,rfl,rfl⟩,h.c1,fun _=>h.aaG (x:=i) (by omega),h.rl,h.vt,h.vg,h.vs,h.pe,h.ms,h.cs⟩;show s.le.drop (i-s.li).toNat=lg.drop i.toNat;rw[f,List.drop_drop];congr 1;omega
end Go.Proofs.Ytjhmkaninmgilaa
namespace Go.dF
open Go Go.RowKit
section
variable{P:Tap}{a:Act}{w:Tam}{dst:Tak}{ty:Tba}{pos:String}{af:Tbd Edge}{gd:Tao (Nat×Bool)}
def J8(a:Act)(d t:Nat)(v:Tan):(a.put (some d) v).tmps[t]?=if d=t then(if d<a.tmps.size then some v else none) else a.tmps[t]? :=by simp only[Act.put,Array.getElem?_setIfInBounds]
def O2{a:Act}{d n:Nat}{v:Tan}(h:a.tmps.size=n)(b:d<n):(a.put (some d) v).tmps[d]?=some v:=by rw[J8,if_pos rfl,if_pos (by omega)]
def Li{a:Act}{d t:Nat}{v:Tan}(h:d≠t):(a.put (some d) v).tmps[t]?=a.tmps[t]? :=by rw[J8,if_neg h]
def PC{a:Act}{t:Nat}{v:Tan}(h:a.tmps[t]?=some v):a.eval (.tmp t)=v:=by simp[Act.eval,h]
def Bu{t:Tba}{f off b o:Nat}{x:Tbb}(h:(lF P t f).map (fun y=>(y.1.offset,decide (0<y.2)))=some (off,true))(c:a.eval x=.pointer (some ⟨b,o,none⟩)):
  (execOp a.eval ⟨dst,.fieldAddr t x f,ty,pos,af,gd⟩).run P w=.ok (.value (.pointer (some ⟨b,o+off,none⟩))) w:=by
 cases hf:lF P t f with
 |none=>rw[hf]at h;cases h
 |some y=>
  obtain⟨fl,n⟩:=y;rw[hf]at h;simp only[aV,aa,ah,bk]at h;obtain⟨rfl,d⟩:=h;obtain⟨n,rfl⟩:∃m,n=m+1:=⟨n-1,by omega⟩;unfold execOp;simp only[c];rw[bw,lf hf b o];rfl
def Jg{t:Tba}{x:Tbb}{b:Addr}{v:Tan}(f:jd P t=false)(d:(P.underlying t).isSome=true)(c:a.eval x=.pointer (some b))(e:w.cell? b=some v):
  (execOp a.eval ⟨dst,.load t x,ty,pos,af,gd⟩).run P w=.ok (.value v) w:=by unfold execOp;simp only[c];rw[bw,nr f d e];rfl
def Jf{t:Tba}{x:Tbb}{b off n:Nat}{vs:Tac}(d:iy P t=some n)(g:jd P t=true)(c:a.eval x=.pointer (some ⟨b,off,none⟩))(e:vs.length=n)(f:∀(j:Nat) v,vs[j]?=some v->w.cell? ⟨b,off+j,none⟩=some v):
  (execOp a.eval ⟨dst,.load t x,ty,pos,af,gd⟩).run P w=.ok (.value (.agg vs.toArray)) w:=by unfold execOp;simp only[c];rw[bw,jW d g e f];rfl
def LY{x:Tbb}:(execOp a.eval ⟨dst,.move x,ty,pos,af,gd⟩).run P w=.ok (.value (a.eval x)) w:=by unfold execOp;rfl
def GF{x:Tbb}:(execOp a.eval ⟨dst,.assign x,ty,pos,af,gd⟩).run P w=.ok (.value (a.eval x)) w:=by unfold execOp;rfl
def Je{t:Tba}{x y:Tbb}{b off:Nat}{cur:Tbd Tan}{T:Tba}{vs:Tac}(j:iy P t=some vs.length)(h:a.eval x=.pointer (some ⟨b,off,none⟩))(g:(a.eval y).cells=vs.toArray)(e:w.heap[b]?=some (.cells cur T (0,0)))(f:off+vs.length<=cur.size)(d:∀v∈vs,v.oneCell'=true):
  (execOp a.eval ⟨dst,.store t x y,ty,pos,af,gd⟩).run P w=.ok .skip (w.setRow b (cur.toList.take off++vs++cur.toList.drop (off+vs.length)).toArray):=by have c:=run_storeCells_at P b off T vs 0 cur w e (by omega) d;simp only[dO]at c;have k:=hC (P:=P) (w:=w) j;unfold execOp;simp only[h,Instr.storeAt,Instr.sureAddr];simp[storeVar,k,g];simp at c;rw[c];rfl
def PB{t t2:Tba}{x y:Tbb}{k:IntKind}{m n:Int}(c:a.eval x=.int k m)(b:a.eval y=.int k n):(execOp a.eval ⟨dst,.binOp .add t x y t2,ty,pos,af,gd⟩).run P w=.ok (.value (.int k (k.wrap (m+n)))) w:=by unfold execOp;simp[c,b,eqGuard,binOp,Op.intArith]
def PA{t el:Tba}{x:Tbb}{A:Tao Addr}{n c:Nat}(d:P.underlying t=some (.slice el))(b:a.eval x=.slice A n c):(execOp a.eval ⟨dst,.call {callee:=.builtin .len,args:=#[x],argTypes:=#[t]},ty,pos,af,gd⟩).run P w=.ok (.value (.int i64 n)) w:=by unfold execOp;simp only[resolve,invoke,builtin];simp[Builtin.len_,b,run_underlying d,goInt]
def Jh{t:Tba}{n:Nat}(h:((P.info? t).bind (·.zero)).map (fun z=>z.cells.size)=some n):
  ∃b:Tbd Tan,b.size=n/\(execOp a.eval ⟨dst,.alloc t,ty,pos,af,gd⟩).run P w=.ok (.value (.pointer (some ⟨w.heap.size,0,none⟩))) (w.alloc (.cells b t)):=by
 cases hi:P.info? t with
 |none=>rw[hi]at h;cases h
 |some it=>
  cases hz:it.zero with
  |none=>rw[hi]at h;simp[hz]at h
  |some z=>
   rw[hi]at h;simp[hz]at h;refine⟨z.cells,h,?_⟩;unfold execOp;simp only[Instr.alloc];simp[zeroValue,typeInfo,hi,hz,newVar,newRow]
def Pz{t:Tba}{x:Tbb}{b:Bool}(c:a.eval x=.bool b):(execOp a.eval ⟨dst,.unOp .not t x,ty,pos,af,gd⟩).run P w=.ok (.value (.bool (!b))) w:=by unfold execOp;simp[c,Op.unary]
def L0{k:Nat}{args:Tbd Tbb}{ts:Tbd Tba}{vs:Tac}(c:∀(args:Tbd Tan) (w:Tam),(callFunc k args).run P w=.ok (.enter k args) w)(b:args.map a.eval=vs.toArray):
  (execOp a.eval ⟨dst,.call {callee:=.value (.func k),args,argTypes:=ts},ty,pos,af,gd⟩).run P w=.ok (.enter k vs.toArray) w:=by unfold execOp;have:=c vs.toArray w;simpa [resolve,Act.eval,Deferred.ofValue,invoke,b]using this
variable{ops:Tad}{Q:Iv}{rest:Tah}{i:Nat}{o:Tbc}
variable{S:Tae}{fuel:Nat}{lX:Tbd Bool}
end
def kN(id:Nat):Code->Tad
 |.region i ops _=>if i=id then ops else #[]
 |.seq a b| .cond _ a b=>if(kN id a).size=0 then kN id b else kN id a
 |.block _ c| .loop c| .scope c=>kN id c
 |_=> #[]
def AX{l:Tac}{off:Nat}{v:Tan}(h:off<l.length):l.take off++[v]++l.drop (off+1)=l.set off v:=by rw[List.set_eq_take_append_cons_drop,if_pos h];simp
section
variable{P:Tap}{ops:Tad}{Q:Iv}{S:Tae}
def nZ(P:Tap)(ops:Tad)(Q:Iv)(S:Tae)(L:Nat):Nat->Tbd Bool->Act->Tae
 |0,lX,a,w=>Region.ready .any ops lX=[]/\Q .normal a w
 |fuel+1,lX,a,w=>
  (Region.ready .any ops lX=[]->Q .normal a w)/\
  ∀i∈Region.ready .any ops lX,wpOp P ops Q i (fun c b=>(i≠L->S b)/\nZ P ops Q S L fuel (lX.setIfInBounds i true) c b) a w
def oq{L:Nat}:∀(c:Nat) (b:Tbd Bool) (a:Act) (w:Tam),nZ P ops Q S L c b a w->wpAny P .any ops Q c b a w
 |0,_,_,_,h=>h
 |c+1,_,_,_,h=>⟨h.1,fun i e=>wpOp_mono (fun g d f=>oq c _ g d f.2) (h.2 i e)⟩
def qV{L i:Nat}{t:Tbc}{v:Tan}(hi:ops[i]?=some t)(X:i≠L)(Z:∀oL,ops[L]?=some oL->∃e∈oL.after,Region.binds .any e=true/\e.on=i)(r:∀(j:Nat) (o:Tbc) C b,ops[j]?=some o->o.op≠ .select C b)(Y:∀c a w,Q (.panic c) (a.put t.dst v) w->Q (.panic c) a w):
  ∀(g:Nat) (d:Tbd Bool) (a:Act) (w:Tam),
   (∀j q,ops[j]?=some q->j≠i->d.getD j true=false->(∀e∈q.after,Region.binds .any e=true->e.on≠i)->t.apart ops q=true)->
   i∈Region.ready .any ops d->YieldsIf P ops S t v a->S w->
   nZ P ops Q S L g (d.setIfInBounds i true) (a.put t.dst v) w->nZ P ops Q S L (g+1) d a w:=by
 intro g
 induction g with
 |zero=>
  intro d a w _ u D B H;refine⟨fun h=>(by rw[h]at u;cases u),fun j E=>?_⟩;by_cases f:j=i
  .subst f;exact D.wpOp hi B ⟨fun _=>B,H⟩
  have:=ready_mono E f;rw[H.1]at this;cases this
 |succ g ih=>
  intro d a w m u D B H;refine⟨fun h=>(by rw[h]at u;cases u),fun j E=>?_⟩;by_cases f:j=i
  .subst f;exact D.wpOp hi B ⟨fun _=>B,H⟩
  have x:=H.2 j (ready_mono E f);obtain⟨s,q,n,A⟩:=mem_ready.1 E
  have l:∀e∈q.after,Region.binds .any e=true->e.on≠i:=fun e O R N=>by
   have x:=A e O R;have U:=(mem_ready.1 u).1;rw[N]at x;rcases eH i d.size with T|T
   .simp[T]at U x;rw[U]at x;cases x
   simp[Array.getElem?_eq_none T]at x
  have M:j≠L:=by rintro rfl;obtain⟨e,O,R,G⟩:=Z q n;exact l e O R G
  have h2:=wpOp_putIf n (m j q n f s l) (fun C b=>r i t C b hi) (fun C b=>r j q C b n) Y D x
  have p:∀k ok,ops[k]?=some ok->k≠i->(d.setIfInBounds j true).getD k true=false->
    (∀e∈ok.after,Region.binds .any e=true->e.on≠i)->t.apart ops ok=true:=fun k ok W K y I=>by
   refine m k ok W K ?_ I;by_cases z:j=k
   .subst z;exact s
   rw[getD_set_ne true z]at y;exact y
  refine wpOp_mono (fun a' V F=>⟨fun J=>F.2.1 J,ih (d.setIfInBounds j true) a' V p (ready_mono u (Ne.symm f)) F.1 (F.2.1 M) ?_⟩) h2;rw[Array.setIfInBounds_comm _ _ f];exact F.2.2
def mF(P:Tap)(ops:Tad)(Q:Iv)(S:Tae)(n0:Nat):Nat->Nat->Act->Tae
 |0,_,a,w=>Q .normal a w
 |f+1,i,a,w=>match ops[i]? with
  |none=>False
  |some o=>if i<n0 then S w/\∃v,YieldsIf P ops S o v a/\mF P ops Q S n0 f (i+1) (a.put o.dst v) w
   else wpOp P ops Q i (fun c b=>(f≠0->S b)/\mF P ops Q S n0 f (i+1) c b) a w
def hU(n i:Nat):Tbd Bool:=((List.range n).map fun j=>decide (j<i)).toArray
def tOk(ops:Tad)(n0:Nat):Bool:=
 decide (n0<=ops.size)&&Region.noSelect ops&&(List.range ops.size).all fun i=>
  if i<n0 then Region.free .any ops (hU ops.size i) i&&(Region.ready .any ops (hU ops.size i)).contains i&&
   (decide (n0=ops.size)||match ops[ops.size-1]? with|some oL=>oL.after.toList.any fun e=>Region.binds .any e&&e.on==i|none=>false)
  else Region.ready .any ops (hU ops.size i)==[i]
def qS{n i:Nat}(hi:i<n):(hU n i).setIfInBounds i true=hU n (i+1):=by
 apply Array.ext
 .simp[hU]
 intro j b c;simp only[hU,Array.size_setIfInBounds,bV,ao,fi]at b;rw[Array.getElem_setIfInBounds (by simpa [hU]using b)];by_cases a:i=j
 .subst a;simp[hU]
 rw[if_neg a];simp only[hU,List.getElem_toArray,List.getElem_map,List.getElem_range];congr 1;exact propext ⟨fun h=>by omega,fun h=>by omega⟩
def yh(n:Nat):Array.replicate n false=hU n 0:=by
 apply Array.ext
 .simp[hU]
 intro j b a;simp[hU]
def Ac{n0:Nat}(k:tOk ops n0=true)(E:∀c a d v w,Q (.panic c) (a.put d v) w->Q (.panic c) a w):
  ∀(f i:Nat) (a:Act) (w:Tam),i+f=ops.size->mF P ops Q S n0 f i a w->nZ P ops Q S (if n0=ops.size then ops.size else ops.size-1) f (hU ops.size i) a w
 |0,i,a,w,hif,h=>by
  refine⟨?_,h⟩;have:i=ops.size:=by omega
  subst this;rw[fm];intro j s;obtain⟨u,N,z,_⟩:=mem_ready.1 s;have D:j<ops.size:=(aP.1 z).1;simp[hU,D]at u
 |f+1,i,a,w,hif,h=>by
  have m:=k;unfold tOk at k;simp only[aT,bk,bY,cI]at k;obtain⟨⟨I,B⟩,q⟩:=k;have t:i<ops.size:=by omega
  have p:=q i t;unfold mF at h;have A:ops[i]?=some ops[i]:=dz t;rw[A]at h;simp only at h;by_cases o:i<n0
  .rw[if_pos o]at h p;obtain⟨L,v,H,r⟩:=h;simp only[aT]at p;obtain⟨⟨n,g⟩,b⟩:=p;refine qV A (by split<;>omega) ?_ (Region.noSelect_spec B) (fun c a w=>E c a _ _ w) f (hU ops.size i) a w (Region.free_spec A n) (by simpa using g) H L ?_
   .intro oL l;by_cases x:n0=ops.size
    .rw[if_pos x]at l;simp at l
    rw[if_neg x]at l;rw[l]at b;simp only[bW,bk,List.any_eq_true,aT,beq_iff_eq]at b;obtain⟨e,J,K,y⟩:=b.resolve_left x;exact⟨e,by simpa using J,K,y⟩
   rw[qS t];exact Ac m E f (i+1) _ w (by omega) r
  rw[if_neg o]at h p;have r:Region.ready .any ops (hU ops.size i)=[i]:=by simpa using p
  refine⟨fun u=>(by rw[r]at u;cases u),fun j s=>?_⟩;rw[r,ax]at s;subst s;refine wpOp_mono (fun M G F=>⟨fun C=>F.1 (by split at C<;>omega),?_⟩) h;rw[qS t];exact Ac m E f (j+1) M G (by omega) F.2
def Ab{n0:Nat}:∀(f i:Nat) (a:Act) (w:Tam),i+f=ops.size->mF P ops Q S n0 f i a w->wpOps P ops Q (List.range' i f) a w
 |0,i,a,w,_,h=>h
 |f+1,i,a,w,hif,h=>by
  have l:i<ops.size:=by omega
  have g:ops[i]?=some ops[i]:=dz l;unfold mF at h;rw[g]at h;simp only at h;rw[List.range'_succ]
  have d:wpOp P ops Q i (fun e c=>wpOps P ops Q (List.range' (i+1) f) e c) a w:=by
   by_cases b:i<n0
   .rw[if_pos b]at h;obtain⟨m,v,j,k⟩:=h;exact j.wpOp g m (Ab f (i+1) _ w (by omega) k)
   rw[if_neg b]at h;exact wpOp_mono (fun e c n=>Ab f (i+1) e c (by omega) n.2) h
  rw[wpOps_cons];exact d
end
structure vm(w w':Tam):Prop where
 heap:w'.heap=w.heap
 os:w'.os=w.os
 tape:w'.tape=w.tape
 output:w'.output=w.output
def vm.refl(w:Tam):vm w w:=⟨rfl,rfl,rfl,rfl⟩
def vm.drew(w:Tam):vm w {w with drawn:=w.drawn+1}:=⟨rfl,rfl,rfl,rfl⟩
def vm.cell{w w':Tam}(h:vm w w')(ad:Addr):w'.cell? ad=w.cell? ad:=by simp only[World.cell?,h.heap]
def SX(X:Tai)(w w':Tam):Prop:=w.heap.size<=w'.heap.size/\∀b,b<w.heap.size->¬X b->w'.heap[b]?=w.heap[b]?
def SX.refl(X:Tai)(w:Tam):SX X w w:=⟨aU _,fun _ _ _=>rfl⟩
def QP(Q:Iv):Prop:=∀c a d v w,Q (.panic c) (a.put d v) w->Q (.panic c) a w
def aB(_:Nat):Prop:=False
def Kn(n:Nat)(a:Act)(m:Tab):Prop:=a.tmps.size=n/\a.defers=[]/\∀t v,lk m t=some v->a.tmps[t]?=some v
def K0(m:Tab):Tab->Prop
 |[]=>True
 |p::r=>lk m p.1=some p.2/\K0 m r
def K0.get{m:Tab}:∀{l:Tab},K0 m l->∀p∈l,lk m p.1=some p.2
 |[],_,p,b=>by cases b
 |q::r,h,p,b=>by
  rcases aH.1 b with rfl|b
  .exact h.1
  exact K0.get h.2 p b
def Kn.put{n:Nat}{a:Act}{m:Tab}(h:Kn n a m)(d:Nat)(v:Tan)(f:d<n):Kn n (a.put (some d) v) ((d,v)::m):=by
 refine⟨by simp[Act.put,h.1],h.2.1,fun t u b=>?_⟩;simp only[lk]at b;split at b
 .rename_i c;injection b with b;subst b;have:d=t:=(by simpa using c:t=d).symm;subst this;exact O2 h.1 f
 rename_i c;rw[Li (fun e=>c (by simp[e]))];exact h.2.2 t u b
def Kn.sub{n:Nat}{a:Act}{m l:Tab}(h:Kn n a m)(c:K0 m l):Kn n a l:=
 ⟨h.1,h.2.1,fun t v b=>h.2.2 t v (c.get (t,v) (iL b))⟩
def Kn.sb{n:Nat}{a:Act}{m l:Tab}(h:Kn n a m)(b:K0 m l:=by repeat constructor):Kn n a l:=h.sub b
def mD(m:Tab):Tbb->Tao Tan
 |.tmp t=>lk m t
 |.const v=>some v
 |.global g=>some (.pointer (some ⟨g,0,none⟩))
 |.func f=>some (.func (.func f) #[] #[])
def Kn.op{n:Nat}{a:Act}{m:Tab}(h:Kn n a m){x:Tbb}{v:Tan}(b:mD m x=some v):a.eval x=v:=by
 cases x with
 |tmp t=>exact PC (h.2.2 t v b)
 |const u=>injection b with b
 |global g=>injection b with b
 |func f=>injection b with b
abbrev OK:=Tak×Op×Tao (Nat×Bool)
def PU(o:Tbc):OK:=(o.dst,o.op,o.guard)
def bJ(ops:Tad):List OK:=ops.toList.map PU
def rq(L:List OK)(m:Tab):Tao (Nat×Bool)->Tao Bool
 |none=>some true
 |some (j,b)=>match (L[j]?).bind (·.1) with
  |some t=>match lk m t with
   |some (.bool c)=>some (c==b)
   |_=>none
  |none=>none
def Kn.gd{n:Nat}{a:Act}{m:Tab}{ops:Tad}{o:Tbc}{b:Bool}(h:Kn n a m)(e:rq (bJ ops) m o.guard=some b):Region.wanted o (yielded ops a.tmps)=b:=by
 unfold Region.wanted;cases hgd:o.guard with
 |none=>rw[hgd]at e;injection e
 |some jb=>
  obtain⟨j,k⟩:=jb;rw[hgd]at e;simp only[rq]at e
  have f:((bJ ops)[j]?).bind (·.1)=(ops[j]?).bind (·.dst):=by
   unfold bJ;rw[ab];cases ho:ops[j]? with
   |none=>simp[ho]
   |some o=>simp[ho,PU]
  rw[f]at e;cases ho:(ops[j]?).bind (·.dst) with
  |none=>rw[ho]at e;cases e
  |some t=>
   rw[ho]at e;simp only at e;split at e
   .rename_i c g;injection e with e;have:=h.2.2 t _ g;simp only[yielded,ho,cq,this];rw[<-e];cases c<;>cases k<;>rfl
   cases e
section
variable{P:Tap}{ops:Tad}{Q:Iv}{S:Tae}{n n0 i d:Nat}{a:Act}{w:Tam}{m:Tab}{gd:Tao (Nat×Bool)}{L r:List OK}
def TL(P:Tap)(ops:Tad)(Q:Iv)(S:Tae)(n0:Nat)(L r:List OK)(i:Nat)(a:Act)(w:Tam):Prop:=bJ ops=L->L.drop i=r->mF P ops Q S n0 r.length i a w
def jy{id:Nat}{b:Bool}(n0:Nat)(X:Tai)(j:P.follows .mixedOrders=true)(l:QP Q)(f:bJ ops=L)(k:b=true->tOk ops n0=true)(h:∀e,vm w e->TL P ops Q (SX X e) n0 L L 0 a e):(Code.region id ops b).wp P Q a w:=by
 have c:L.length=ops.size:=by rw[<-f];simp[bJ]
 cases b with
 |true=>
  refine wp_region_any j ?_;have g:=Ac (k rfl) l ops.size 0 a _ (by omega) (c▸h _ (vm.drew w) f rfl);rw[<-yh]at g;exact oq _ _ _ _ g
 |false=>
  refine wp_region ?_;rw[List.range_eq_range'];exact Ab ops.size 0 a w (by omega) (c▸h w (vm.refl w) f rfl)
def tl{x:OK}(g:bJ ops=L)(c:L.drop i=x::r):(∃o,ops[i]?=some o/\PU o=x)/\L.drop (i+1)=r:=by
 have b:L[i]?=some x:=by have:=congrArg (fun l=>l[0]?) c;simpa using this
 refine⟨?_,?_⟩
 .rw[<-g]at b;unfold bJ at b;rw[ab,dn]at b;obtain⟨o,f,e⟩:=b;exact⟨o,by simpa using f,e⟩
 have:=congrArg (List.drop 1) c;simpa using this
def ay(h:Q .normal a w):TL P ops Q S n0 L [] i a w:=fun _ _=>h
def qt{op:Op}{v:Tan}(k:Kn n a m)(p:S w)(H:rq L m gd=some true)(E:d<n)(D:∀c b f j,S j->(execOp a.eval ⟨some d,op,c,b,f,gd⟩).run P j=.ok (.value v) j)(h:∀F,Kn n F ((d,v)::m)->TL P ops Q S n0 L r (i+1) F w):TL P ops Q S n0 L ((some d,op,gd)::r) i a w:=by
 intro g G;obtain⟨⟨o,B,s⟩,e⟩:=tl g G;obtain⟨I,l,c,b,f,q⟩:=o;simp only[PU,ah]at s;obtain⟨rfl,rfl,rfl⟩:=s;have A:=k.gd (ops:=ops) (o:=⟨some d,l,c,b,f,q⟩) (by rw[g];exact H);show mF P ops Q S n0 (r.length+1) i a w;unfold mF;rw[B];simp only;by_cases C:i<n0
 .rw[if_pos C];exact⟨p,v,.inl ⟨A,D c b f⟩,h _ (k.put d v E) g e⟩
 rw[if_neg C];exact(YieldsIf.wpOp (S:=S) B (.inl ⟨A,D c b f⟩) p ⟨fun _=>p,h _ (k.put d v E) g e⟩)
def aeR{op:Op}(k:Kn n a m)(g:S w)(E:rq L m gd=some false)(A:d<n)(h:∀B,Kn n B ((d,undef)::m)->TL P ops Q S n0 L r (i+1) B w):TL P ops Q S n0 L ((some d,op,gd)::r) i a w:=by
 intro c D;obtain⟨⟨o,q,l⟩,b⟩:=tl c D;obtain⟨F,f,C,e,G,j⟩:=o;simp only[PU,ah]at l;obtain⟨rfl,rfl,rfl⟩:=l;have p:=k.gd (ops:=ops) (o:=⟨some d,f,C,e,G,j⟩) (by rw[c];exact E);show mF P ops Q S n0 (r.length+1) i a w;unfold mF;rw[q];simp only;by_cases s:i<n0
 .rw[if_pos s];exact⟨g,undef,.inr ⟨p,rfl⟩,h _ (k.put d undef A) c b⟩
 rw[if_neg s];exact(YieldsIf.wpOp (S:=S) q (.inr ⟨p,rfl⟩) g ⟨fun _=>g,h _ (k.put d undef A) c b⟩)
def nk{op:Op}(k:Kn n a m)(hi:n0<=i)(D:rq L m gd=some true)(G:d<n)(F:∀f b g,∃v c,(execOp a.eval ⟨some d,op,f,b,g,gd⟩).run P w=.ok (.value v) c/\(r≠[]->S c)/\∀A,Kn n A ((d,v)::m)->TL P ops Q S n0 L r (i+1) A c):TL P ops Q S n0 L ((some d,op,gd)::r) i a w:=by intro l C;obtain⟨⟨o,s,q⟩,j⟩:=tl l C;obtain⟨K,h,f,b,g,p⟩:=o;simp only[PU,ah]at q;obtain⟨rfl,rfl,rfl⟩:=q;have B:=k.gd (ops:=ops) (o:=⟨some d,h,f,b,g,p⟩) (by rw[l];exact D);obtain⟨v,c,J,I,H⟩:=F f b g;show mF P ops Q S n0 (r.length+1) i a w;unfold mF;rw[s];simp only;rw[if_neg (by omega)];unfold wpOp;rw[s];simp only;rw[if_pos B];refine .inl ?_;rw[Oper.wp,J];exact⟨fun E=>I (fun e=>E (by rw[e];rfl)),H _ (k.put d v G) l j⟩
def aeS{op:Op}{w':Tam}(k:Kn n a m)(hi:n0<=i)(D:rq L m gd=some true)(F:∀c b f,(execOp a.eval ⟨none,op,c,b,f,gd⟩).run P w=.ok .skip w')(G:r≠[]->S w')(h:∀A,Kn n A m->TL P ops Q S n0 L r (i+1) A w'):TL P ops Q S n0 L ((none,op,gd)::r) i a w:=by intro l C;obtain⟨⟨o,s,q⟩,j⟩:=tl l C;obtain⟨H,g,c,b,f,p⟩:=o;simp only[PU,ah]at q;obtain⟨rfl,rfl,rfl⟩:=q;have B:=k.gd (ops:=ops) (o:=⟨none,g,c,b,f,p⟩) (by rw[l];exact D);show mF P ops Q S n0 (r.length+1) i a w;unfold mF;rw[s];simp only;rw[if_neg (by omega)];unfold wpOp;rw[s];simp only;rw[if_pos B];refine .inl ?_;rw[Oper.wp,F c b f];exact⟨fun E=>G (fun e=>E (by rw[e];rfl)),h _ k l j⟩
def gV{c:Nat}{args:Tbd Tbb}{ts:Tbd Tba}{vs:Tac}{R:Ending->Tae}(k:Kn n a m)(hi:n0<=i)(K:rq L m gd=some true)(O:d<n)(s:∀(args:Tbd Tan) (w:Tam),(callFunc c args).run P w=.ok (.enter c args) w)(H:args.toList.map (mD m)=vs.map some)(T:Calls P c vs.toArray w R)(h:∀e b,R e b->∃v,e=.returned v/\(r≠[]->S b)/\∀D,Kn n D ((d,v)::m)->TL P ops Q S n0 L r (i+1) D b):TL P ops Q S n0 L ((some d,.call {callee:=.value (.func c),args:=args,argTypes:=ts},gd)::r) i a w:=by
 intro q J;obtain⟨⟨o,C,B⟩,p⟩:=tl q J;obtain⟨V,F,E,g,W,A⟩:=o;simp only[PU,ah]at B;obtain⟨rfl,rfl,rfl⟩:=B;have G:=k.gd (ops:=ops) (o:=⟨some d,.call {callee:=.value (.func c),args:=args,argTypes:=ts},E,g,W,A⟩) (by rw[q];exact K)
 have f:args.map a.eval=vs.toArray:=by
  apply dI;rw[Array.toList_map]
  have j:∀(l:List Tbb) (us:Tac),l.map (mD m)=us.map some->l.map a.eval=us:=by
   intro l
   induction l with
   |nil=>intro us h;cases us with|nil=>rfl|cons=>cases h
   |cons x l ih=>
    intro us h;cases us with
    |nil=>cases h
    |cons u us=>
     simp only[cM,eI]at h;rw[cM,k.op h.1,ih us h.2]
  simpa using j args.toList vs H
 show mF P ops Q S n0 (r.length+1) i a w;unfold mF;rw[C];simp only;rw[if_neg (by omega)];unfold wpOp;rw[C];simp only;rw[if_pos G];refine .inl ?_;rw[Oper.wp,L0 s f];refine T.mono fun e b N=>?_;obtain⟨v,rfl,I,U⟩:=h e b N;exact⟨fun M=>I (fun e=>M (by rw[e];rfl)),U _ (k.put d v O) q p⟩
variable{x y z:Tbb}{t t2:Tba}{v u:Tan}
def Qx(k:Kn n a m)(g:S w)(e:rq L m gd=some true)(f:d<n)(c:mD m x=some v)(h:∀b,Kn n b ((d,v)::m)->TL P ops Q S n0 L r (i+1) b w):TL P ops Q S n0 L ((some d,.move x,gd)::r) i a w:=
 qt k g e f (fun _ _ _ j _=>by rw[LY,k.op c]) h
def xl(k:Kn n a m)(g:S w)(e:rq L m gd=some true)(f:d<n)(c:mD m x=some v)(h:∀b,Kn n b ((d,v)::m)->TL P ops Q S n0 L r (i+1) b w):TL P ops Q S n0 L ((some d,.assign x,gd)::r) i a w:=
 qt k g e f (fun _ _ _ j _=>by rw[GF,k.op c]) h
def Wj{b:Addr}(k:Kn n a m)(j:S w)(f:rq L m gd=some true)(g:d<n)(e:mD m x=some (.pointer (some b)))(h:∀c,Kn n c ((d,.pointer (some b))::m)->TL P ops Q S n0 L r (i+1) c w):TL P ops Q S n0 L ((some d,.nilCheck x,gd)::r) i a w:=
 qt k j f g (fun _ _ _ l _=>by have:=k.op e;unfold execOp;simp only[this];rfl) h
def aaL{b o off fl:Nat}(k:Kn n a m)(l:S w)(f:rq L m gd=some true)(j:d<n)(e:mD m x=some (.pointer (some ⟨b,o,none⟩)))(g:(lF P t fl).map (fun y=>(y.1.offset,decide (0<y.2)))=some (off,true))(h:∀c,Kn n c ((d,.pointer (some ⟨b,o+off,none⟩))::m)->TL P ops Q S n0 L r (i+1) c w):TL P ops Q S n0 L ((some d,.fieldAddr t x fl,gd)::r) i a w:=
 qt k l f j (fun _ _ _ p _=>Bu g (k.op e)) h
def ky{c:Addr}(k:Kn n a m)(s:S w)(l:rq L m gd=some true)(o:d<n)(f:mD m x=some (.pointer (some c)))(q:jd P t=false)(g:(P.underlying t).isSome=true)(p:∀b,S b->b.cell? c=some v)(h:∀e,Kn n e ((d,v)::m)->TL P ops Q S n0 L r (i+1) e w):TL P ops Q S n0 L ((some d,.load t x,gd)::r) i a w:=
 qt k s l o (fun _ _ _ b j=>Jg q g (k.op f) (p b j)) h
def Wk{b off nn:Nat}{vs:Tac}(k:Kn n a m)(B:S w)(p:rq L m gd=some true)(q:d<n)(f:mD m x=some (.pointer (some ⟨b,off,none⟩)))(l:iy P t=some nn)(A:jd P t=true)(o:vs.length=nn)(s:∀c,S c->∀(j:Nat) v,vs[j]?=some v->c.cell? ⟨b,off+j,none⟩=some v)(h:∀e,Kn n e ((d,.agg vs.toArray)::m)->TL P ops Q S n0 L r (i+1) e w):TL P ops Q S n0 L ((some d,.load t x,gd)::r) i a w:=
 qt k B p q (fun _ _ _ c g=>Jf l A (k.op f) o (s c g)) h
def oR{el:Tba}{b off nn j sz:Nat}{kk:IntKind}{c:Int}(k:Kn n a m)(C:S w)(A:rq L m gd=some true)(B:d<n)(q:mD m x=some (.slice (some ⟨b,off,none⟩) nn j))(p:mD m y=some (.int kk c))(s:P.underlying t=some (.slice el))(g:iy P el=some sz)(F:0<=c)(E:c<nn)(h:∀l,Kn n l ((d,.pointer (some ⟨b,off+c.toNat*sz,none⟩))::m)->TL P ops Q S n0 L r (i+1) l w):TL P ops Q S n0 L ((some d,.indexAddr t x y,gd)::r) i a w:=by refine qt k C A B (fun _ _ _ o _=>?_) h;have f:=k.op q;have e:=k.op p;have D:=hC (P:=P) (w:=o) g;unfold execOp;simp only[f,e,Instr.indexAt,asIntOf];simp[run_underlying s,F,E,D,fT]
def slB(P:Tap)(t:Tba):Bool:=match P.underlying t with
 |some (.slice _)=>true
 |_=>false
def Hi{A:Tao Addr}{nn c:Nat}(k:Kn n a m)(o:S w)(g:rq L m gd=some true)(l:d<n)(f:mD m x=some (.slice A nn c))(b:slB P t=true)(h:∀e,Kn n e ((d,.int i64 nn)::m)->TL P ops Q S n0 L r (i+1) e w):TL P ops Q S n0 L ((some d,.call {callee:=.builtin .len,args:=#[x],argTypes:=#[t]},gd)::r) i a w:=by
 unfold slB at b;split at b
 .rename_i q j;exact qt k o g l (fun _ _ _ p _=>PA j (k.op f)) h
 cases b
def Qw{c:Bool}(k:Kn n a m)(p:S w)(l:rq L m gd=some true)(o:d<n)(j:mD m x=some (.bool c))(g:mD m (if c then y else z)=some v)(h:∀f,Kn n f ((d,v)::m)->TL P ops Q S n0 L r (i+1) f w):TL P ops Q S n0 L ((some d,.pick x y z,gd)::r) i a w:=by
 refine qt k p l o (fun _ _ _ q _=>?_) h;have e:=k.op j;have b:=k.op g;unfold execOp;cases c
 .simp only[aj,if_false]at b;simp[e,b,asBool]
 simp only[if_true]at b;simp[e,b,asBool]
def qy{c:Bool}(k:Kn n a m)(j:S w)(f:rq L m gd=some true)(g:d<n)(e:mD m x=some (.bool c))(h:∀b,Kn n b ((d,.bool (!c))::m)->TL P ops Q S n0 L r (i+1) b w):TL P ops Q S n0 L ((some d,.unOp .not t x,gd)::r) i a w:=
 qt k j f g (fun _ _ _ l _=>Pz (k.op e)) h
def Hd:BinOp->Int->Int->Tao Bool
 |.lss,m,n=>some (decide (m<n))
 |.leq,m,n=>some (decide (m<=n))
 |.gtr,m,n=>some (decide (m>n))
 |.geq,m,n=>some (decide (m≥n))
 |.eql,m,n=>some (m==n)
 |.neq,m,n=>some (m !=n)
 |_,_,_=>none
def Wl{b:BinOp}{kk:IntKind}{p q:Int}{c:Bool}(k:Kn n a m)(s:S w)(l:rq L m gd=some true)(o:d<n)(j:mD m x=some (.int kk p))(g:mD m y=some (.int kk q))(e:Hd b p q=some c)(h:∀f,Kn n f ((d,.bool c)::m)->TL P ops Q S n0 L r (i+1) f w):TL P ops Q S n0 L ((some d,.binOp b t x y t2,gd)::r) i a w:=by refine qt k s l o (fun _ _ _ C _=>?_) h;have B:=k.op j;have A:=k.op g;unfold execOp;cases b<;>simp only[Hd,aa,reduceCtorEq]at e<;>subst e<;>simp[B,A,eqGuard,binOp,Op.intCmp]
def iK{kk:IntKind}{p q s:Int}(k:Kn n a m)(l:S w)(f:rq L m gd=some true)(g:d<n)(e:mD m x=some (.int kk p))(c:mD m y=some (.int kk q))(j:kk.wrap (p+q)=s)(h:∀b,Kn n b ((d,.int kk s)::m)->TL P ops Q S n0 L r (i+1) b w):TL P ops Q S n0 L ((some d,.binOp .add t x y t2,gd)::r) i a w:=by subst j;exact qt k l f g (fun _ _ _ o _=>PB (k.op e) (k.op c)) h
end
end Go.dF
