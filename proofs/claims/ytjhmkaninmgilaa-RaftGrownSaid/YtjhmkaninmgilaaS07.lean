/- Part 7 of the proof of RaftGrown; no condition. -/
import Derived.Test.YtjhmkaninmgilaaS06
import Derived.Test.YtjhmkaninmgilaaS05
import Derived.Test.YtjhmkaninmgilaaS04
import Derived.Test.YtjhmkaninmgilaaS03
import Derived.OrdersHeld
import Derived.Deep.LoopGhost
set_option linter.defProp false
set_option linter.unusedVariables false
set_option linter.unusedSimpArgs false
set_option maxHeartbeats 4000000
open Go.IntKind (i64)
namespace Go.Proofs.Ytjhmkaninmgilaa
open Go Go.RowKit Go.dG Go.Proofs
def agC(x:D)(s:RS):Prop:=
 ((true=true->gn s.li s.lt s.le=true))/\(
 let a:=(fW s.li s.lt s.le)
 ((((cD 0 x).J==1)=true->
  ((true=true->Ok s 1))/\(
  True)))/\((((cD 0 x).J==1)=false->
  ((((cD 0 x).J==3)=true->
   ((true=true->Ok s 1))/\(
   True)))/\((((cD 0 x).J==3)=false->
   ((((cD 0 x).J==5)=true->
    ((true=true->Ok s 1))/\(
    True)))/\(True))))))
def Q8(x:D)(s:RS)(hs:dr (.Y eV) (encS s))(h:Ok s 1):agC x s:=by
 (repeat' (first|exact trivial|apply And.intro|intro _))
 all_goals first|exact h.may|exact h
def c42:bn Try.prog 42 s42 (pre 42) (cB 42):=by refine zO UN Try.func42 (v:=ZJ) ?_;intro d h b;obtain⟨x,_,rfl,c,a⟩:=aA.1 h;have hs:=a;obtain⟨s,rfl⟩:=fP a;refine zH oi ij dK (y:=qq x s) (zE (Q8 x s hs b))
def UJ:jf Try.prog pre cB VR:=aN c42 UN
def agB(x:D)(s:RS):Prop:=
 (((((((s.vote==0)||(s.vote==(cD 1 x).J))&&(s.role !=2))==true)&&true)=true->gn s.li s.lt s.le=true))/\(
 let a:=(HU s.li s.lt s.le (cD 4 x).J (cD 5 x).J)
 ((((((s.vote==0)||(s.vote==(cD 1 x).J))&&(s.role !=2))&&a)=true->
  (((s.vote==0)=true->
   (True)/\(
   let c:=gI ({s with vote:=(cD 1 x).J}:RS)
   (True)/\(
   let b:=ib c
   ((true=true->Ok b 1))/\(
   True)))))/\(((s.vote==0)=false->
   (True)/\(
   let d:=ib s
   ((true=true->Ok d 1))/\(
   True))))))/\((((((s.vote==0)||(s.vote==(cD 1 x).J))&&(s.role !=2))&&a)=false->
  ((true=true->Ok s 1))/\(
  True))))
def Q7(x:D)(s:RS)(hs:dr (.Y eV) (encS s))(h:Ok s 1):agB x s:=by
 (repeat' (first|exact trivial|apply And.intro|intro _))
 all_goals first|exact h.may|exact h|exact h.same jh
def c43:bn Try.prog 43 s43 (pre 43) (cB 43):=by refine zO UJ Try.func43 (v:=ZI) ?_;intro d h b;obtain⟨x,_,rfl,c,a⟩:=aA.1 h;have hs:=a;obtain⟨s,rfl⟩:=fP a;refine zH oi ij dK (y:=xP x s) (zE (Q7 x s hs b))
def UI:jf Try.prog pre cB VQ:=aN c43 UJ
def agA(x:D)(s:RS):Prop:=
 (True)/\((((s.role !=1)||(cD 7 x).Z)=false->
  (true=true->((s.aT++([(cD 1 x)]:Tah)):Tah).length<=maxLen/\((s.aT++([(cD 1 x)]:Tah)):Tah).length*8<=140737488355328)/\(
  ((true=true->Ok ({s with aT:=(s.aT++([(cD 1 x)]:Tah))}:RS) 0))/\(
  let b:=(dU ({s with aT:=(s.aT++([(cD 1 x)]:Tah))}:RS))
  (True)/\(
  let a:=(lO (aE 2 b []) (D.list (s.aT++([(cD 1 x)]:Tah))))
  ((a=true->
   ((true=true->Ok ({s with aT:=(s.aT++([(cD 1 x)]:Tah))}:RS) 13))/\(
   True)))/\(True))))))
def Q6(x:D)(s:RS)(hs:dr (.Y eV) (encS s))(h:Ok s 15):agA x s:=by
 have d:=h.nv
 have b:∀k,k+1<=15->Ok ({s with aT:=s.aT++[cD 1 x]}:RS) k:=fun k c=>
  have a:=h.le c
  ⟨a.may,a.yM,a.yL,by have:=a.tM;show s.le.length+k<=_;omega,by have:=a.nm;show s.msgs.length+k<=_;omega,by have:=a.ne;show s.dB.length+k<=_;omega,by have:=a.nc;have:=D1 k;show s.aW.length+G k<=_;omega,by have:=a.nv;show(s.aT++[cD 1 x]).length+k<=_;rw[ah,ba];omega,a.cf,a.cs,a.cl,a.tm,a.tx,a.rd⟩
 refine⟨trivial,fun _=>⟨fun _=>?_,fun _=>b 0 (by omega),trivial,fun _=>⟨fun _=>b 13 (by omega),trivial⟩,trivial⟩⟩;show(s.aT++[cD 1 x]).length<=maxLen/\(s.aT++[cD 1 x]).length*8<=_;rw[ah,ba];simp only[maxLen];omega
def c44:bn Try.prog 44 s44 (pre 44) (cB 44):=by refine zO UI Try.func44 (v:=ZH) ?_;intro d h b;obtain⟨x,_,rfl,c,a⟩:=aA.1 h;have hs:=a;obtain⟨s,rfl⟩:=fP a;refine zH oi ij dK (y:=rE x s) (zE (Q6 x s hs b))
def UH:jf Try.prog pre cB VP:=aN c44 UI
def c75:bn Try.prog 75 YD (pre 75) (cB 75):=by refine zO UH Try.func75 (v:=Zm) ?_;intro d h c;obtain⟨x,_,rfl,b,a⟩:=aA.1 h;have hs:=a;obtain⟨s,rfl⟩:=fP a;refine zH T9 JB (false,dK) (y:=gJ x s) zK
def Uh:jf Try.prog pre cB Z1:=aN c75 UH
def aho:bn Try.prog 65 aaz (pre 65) (cB 65):=by
 refine zO Uh Try.func65 (v:=SJ) ?_;intro C h b;obtain⟨_,_,rfl,⟨f,rfl,o⟩,_,_,rfl,⟨m,rfl,k⟩,_,_,rfl,⟨i,rfl,w⟩,_,_,rfl,⟨t,rfl,u⟩,_,_,rfl,⟨l,rfl,a,x⟩,rfl⟩:=h;have p:cB 65 [.int i64 f,.int i64 m,.int i64 i,.int i64 t,.list l]=.fa [.list (fG i l f m),rb i t l]:=rfl;simp[SJ,fc,ep,dZ,cF,eh,dw,fb,fg,ff,fJ,den,U.den,B.den,fy,aV,cO,ez,ev,ew,fA,bR,cK,pre,p,rb];replace b:okB i t=true:=b;rw[tV]at o k;obtain⟨s,j,_,_⟩:=jL.1 b;have c:=a.1;have e:=a.2;rw[nT]at e;simp only[maxLen,MX]at c j⊢;refine⟨?_,fun A z=>?_⟩
 .intro h;unfold fG;by_cases d:m<1\/f<=i
  .rw[if_pos d]
  rw[if_neg d];have r:=h.resolve_left d;rw[wrap64 (n:=f-i) (by omega) (by omega),wrap64 (by omega) (by omega)]at r;rw[bQ (by omega)];simp
 rw[wrap64 (n:=f-i) (by omega) (by omega),wrap64 (n:=f-i-1) (by omega) (by omega)];intro y;rw[wrap64 (n:=(l.length:Int)-(f-i-1)) (by omega) (by omega)];have g:fG i l f m=(l.drop (f-i-1).toNat).take m.toNat:=by unfold fG;rw[if_neg (by omega)]
 refine⟨fun q=>?_,fun q=>?_⟩
 .rw[wrap64 (n:=f-i-1+m) (by omega) (by omega)];refine⟨by omega,⟨by omega,aY (aw 320 (by omega)) e⟩,?_⟩;rw[g,List.drop_take];congr 1;omega
 refine⟨by omega,⟨by omega,aY (aw 320 (by omega)) e⟩,?_⟩;rw[g,dz (by rw[bh];omega)]
def O0:jf Try.prog pre cB MF:=aN aho Uh
def agz(x:D)(s:RS):Prop:=
 (True)/\(
 let ln:=gJ (aE 46 x []) s
 (True)/\(((!ln.1)=false->
  ((decide ((cD 4 x).J<ln.2.bH)=true->
   ((true=true->Ok ln.2 1))/\(
   True)))/\((decide ((cD 4 x).J<ln.2.bH)=false->
   ((true=true->gn ln.2.li ln.2.lt ln.2.le=true/\ln.2.le.length<4294967296/\(cD 12 x).V.length<4294967296))/\(
   let np:=oK ln.2.li ln.2.lt ln.2.le (cD 4 x).J (cD 5 x).J (cD 12 x).V
   (((!np.1.2)=true->
    ((true=true->gn np.2.1 np.2.2.1 np.2.2.2=true))/\(
    let e:=(fW np.2.1 np.2.2.1 np.2.2.2)
    ((true=true->Ok ({ln.2 with li:=np.2.1,lt:=np.2.2.1,le:=np.2.2.2}:RS) 1))/\(
    True))))/\(((!np.1.2)=false->
    ((decide (np.1.1>0)=true->
     (True)/\(
     let a:=gI ({ln.2 with li:=np.2.1,lt:=np.2.2.1,le:=np.2.2.2}:RS)
     ((true=true->okB a.li a.lt=true))/\(
     let b:=fi a.li a.lt a.le np.1.1 (i64.wrap ((cD 4 x).J+(((cD 12 x).V:Tah).length:Int)))
     ((true=true->Ok ({a with dB:=b}:RS) 1))/\(
     let c:=gK (jy (cD 6 x).J (i64.wrap ((cD 4 x).J+(((cD 12 x).V:Tah).length:Int)))) ({a with dB:=b}:RS)
     ((true=true->Ok c.2 1))/\(
     True))))))/\((decide (np.1.1>0)=false->
     ((true=true->Ok ({ln.2 with li:=np.2.1,lt:=np.2.2.1,le:=np.2.2.2}:RS) 1))/\(
     let d:=gK (jy (cD 6 x).J (i64.wrap ((cD 4 x).J+(((cD 12 x).V:Tah).length:Int)))) ({ln.2 with li:=np.2.1,lt:=np.2.2.1,le:=np.2.2.2}:RS)
     ((true=true->Ok d.2 1))/\(
     True))))))))))))
def Q5(x:D)(s:RS)(hs:dr (.Y eV) (encS s))(h:Ok s (4+(cD 12 x).V.length)/\(cD 12 x).V.length<=2147483648/\eF (cD 12 x).V=true):agz x s:=by
 obtain⟨h,d,c⟩:=h;have b:Ok (gJ (aE 46 x []) s).2 (4+(cD 12 x).V.length):=h.Ct;refine⟨trivial,?_⟩;intro ln;change Ok ln.2 _ at b
 clear_value ln
 have a:=cP.accept (k:=4) (pi:=(cD 4 x).J) (pt:=(cD 5 x).J) b c;have e:=b.tM;refine⟨trivial,fun _=>⟨fun _=>⟨fun _=>b.le (by omega),trivial⟩,fun _=>⟨fun _=>⟨b.may,by omega,by omega⟩,?_⟩⟩⟩
 (repeat' (first|exact trivial|apply And.intro|intro _))
 all_goals first
  |exact a.may
  |exact a.Mr
  |exact a.le (by omega)
  |exact(cP.dB a).le (by omega)
  |exact cP.aW ((cP.dB a).le (by omega))
  |exact cP.aW (a.le (by omega))
def c45:bn Try.prog 45 s45 (pre 45) (cB 45):=by refine zO O0 Try.func45 (v:=ZG) ?_;intro d h b;obtain⟨x,_,rfl,c,a⟩:=aA.1 h;have hs:=a;obtain⟨s,rfl⟩:=fP a;refine zH oi ij dK (y:=kW x s) (zE (Q5 x s hs b))
def UG:jf Try.prog pre cB VO:=aN c45 O0
def agp(x:D)(s:RS):Prop:=
 ((true=true->Ok s 0))/\(
 let a:=(dU s)
 VC.E0 cB pre ij (fun _ _ l=>jN x s a (l.getD 0 .top).V (l.getD 1 .top).J (qY (l.drop 2))) [] (VC.lp 67 Vw) (fy (fun i=>([x]++encS s).getD i .top) 57 (a)))
def ac7(x:D)(s:RS)(e:D)(d:Tah)(a:Int)(b:RS):Prop:=
 ((decide (a<(s.reads.length:Int))=true->
  (true=true->((decide (0<=a))&&(decide (a<(s.reads.length:Int))))=true)/\(
  ((((decide ((cD 8 x).J≥((cD 2 ((s.reads).getD (a:Int).toNat .top)).J)))&&(decide ((cD 8 x).J<=b.round)))=true->
   False))/\((((decide ((cD 8 x).J≥((cD 2 ((s.reads).getD (a:Int).toNat .top)).J)))&&(decide ((cD 8 x).J<=b.round)))=false->
   (True)/\(
   let c:=(lO (aE 2 e []) (cD 3 ((s.reads).getD (a:Int).toNat .top)))
   ((c=true->
    (true=true->((b.rF++([aE 2 ((s.reads).getD (a:Int).toNat .top) []]:Tah)):Tah).length<=maxLen/\((b.rF++([aE 2 ((s.reads).getD (a:Int).toNat .top) []]:Tah)):Tah).length*16<=140737488355328)/\(
    True)))/\((c=false->
    (true=true->((d++([aE 4 ((s.reads).getD (a:Int).toNat .top) []]:Tah)):Tah).length<=maxLen/\((d++([aE 4 ((s.reads).getD (a:Int).toNat .top) []]:Tah)):Tah).length*48<=140737488355328)/\(
    True)))))))))/\(True)
def QT(x:D)(s:RS)(hs:dr (.Y eV) (encS s))(h:Ok s 0):agp x s:=by
 refine⟨fun _=>h,?_⟩;intro b
 clear_value b
 have e:=h.rd;refine VC.jk 67 (by kernel_rfl) ?_;refine VC.hH (Φ:=cB) (Pre:=pre) (triv:=triv) (v0:=67) (decL:=fun l=>((l.getD 0 .top).V,(l.getD 1 .top).J,qY (l.drop 2))) (encL:=fun a:Tah×Int×RS=>([D.list a.1,D.int i64 a.2.1]++Hc a.2.2)) (dec:=oi) (enc:=ij) (lp:=fun _ _ _ _=>dK) (bad:=.inr dK) (bd:=dK) (by kernel_rfl) (fun a:Tah×Int×RS=>jM x s b a.1 a.2.1 a.2.2) (fun a:Tah×Int×RS=>0<=a.2.1) (fun a:Tah×Int×RS=>wB x s b a.1 a.2.1 a.2.2) ([],0,s) kf (by kernel_rfl) ?Sv (fun a=>rfl) ?Sy (by kernel_rfl) (fun a d=>by kernel_rfl) (fun a=>by kernel_rfl) (fun a=>by kernel_rfl) (fun a d g=>zE (β:=ac7 x s b a.1 a.2.1 a.2.2) ?E6) (by kernel_rfl)
 .exact aJ 0
 .rintro⟨l,j,t⟩ f;replace f:0<=j:=f;unfold jM;rw[if_neg (by rw[e,bg];simp only[fC];omega)];trivial
 obtain⟨l,j,t⟩:=a;replace d:0<=j:=d;refine⟨fun c=>?_,trivial⟩;rw[e,bg]at c;simp only[fC]at c;omega
def c77:bn Try.prog 77 np (pre 77) (cB 77):=by refine hU (given:=[(4,{boxes:=yY})]) mix UG Try.func77 rfl (by kernel_rfl) (v:=Vw) (by kernel_rfl) ?_;intro e h c;obtain⟨x,_,rfl,d,b⟩:=aA.1 h;have hs:=b;obtain⟨s,rfl⟩:=fP b;refine zL oi ij dK (fun _ _ l=>(let a:=(dU s);jN x s a (l.getD 0 .top).V (l.getD 1 .top).J (qY (l.drop 2)))) (y:=gx x s) (zE (QT x s hs c))
def Uf:jf Try.prog pre cB VF:=aN c77 UG
@[irreducible] def xT (i l:Int) (t:RS) (q:RS->Int):Prop:=
 (true=true->Ok t 1)/\(((((jn t).role==2)&&(decide (q (jn t)<=l)))=true->(true=true->Ok (jn t) 1/\(0:Int)<=i/\i<=5)/\True)/\True)
def ago(x:Int)(y:Int)(s:RS):Prop:=
 (true=true->gn s.li s.lt s.le=true)/\(
 let l:=(fW s.li s.lt s.le).1
 I0 x (xT 0 l {s with Ki:=wK s.Ki y l,Dn:=wO s.Ki s.Dn y l,I3:=0} RS.Dn) (xT 1 l {s with EU:=wK s.EU y l,BM:=wO s.EU s.BM y l,I2:=0} RS.BM) (xT 2 l {s with uZ:=wK s.uZ y l,rl:=wO s.uZ s.rl y l,Dm:=0} RS.rl) (xT 3 l {s with uY:=wK s.uY y l,rk:=wO s.uY s.rk y l,Dl:=0} RS.rk) (xT 4 l {s with uX:=wK s.uX y l,rh:=wO s.uX s.rh y l,Dk:=0} RS.rh) (xT 5 l {s with uW:=wK s.uW y l,rf:=wO s.uW s.rf y l,Dj:=0} RS.rf))
def Pp{s t:RS}{i l:Int}{q:RS->Int}(h:Ok s 2)(e:er t=er s)(c:0<=i)(b:i<=5):xT i l t q:=by unfold xT;have a:=h.same (kV e);exact⟨fun _=>a.le (by omega),fun _=>⟨fun _=>⟨cP.agree (k:=1) a,c,b⟩,trivial⟩,trivial⟩
def QS(x:Int)(y:Int)(s:RS)(d:kL i64 x)(c:kL i64 y)(hs:dr (.Y eV) (encS s))(h:Ok s 2/\0<=x/\x<=5):ago x y s:=by obtain⟨h,b,a⟩:=h;refine⟨fun _=>h.may,z8 b a ?_ ?_ ?_ ?_ ?_ ?_⟩<;>exact Pp h rfl (by decide) (by decide)
def c78:bn Try.prog 78 s78 (pre 78) (cB 78):=by refine hU (given:=[(1,{drop:=[4006001]})]) mix Uf Try.func78 rfl (by kernel_rfl) (v:=Zl) (by kernel_rfl) ?_;intro f h d;obtain⟨_,_,rfl,⟨x,rfl,c⟩,e⟩:=aA.1 h;obtain⟨_,_,rfl,⟨y,rfl,b⟩,a⟩:=aA.1 e;have hs:=a;obtain⟨s,rfl⟩:=fP a;refine zH oi ij dK (y:=mL x y s) (zE (QS x y s c b hs d))
def Ue:jf Try.prog pre cB VE:=aN c78 Uf
@[irreducible] def xV (i:Int) (u t:RS) (b:Bool):Prop:=
 (b=true->(true=true->gn u.li u.lt u.le=true)/\((true=true->Ok t 1/\(0:Int)<=i/\i<=5)/\True))/\(b=false->(true=true->Ok u 2/\(0:Int)<=i/\i<=5)/\True)
def agy(x:D)(s:RS):Prop:=
 ((((s.role !=2)==false)&&true)=true->Ok s 0)/\((True)/\(((s.role !=2)||(!(jv (cD 1 x).J s)))=false->
  (true=true->Ok s 0)/\(
  let u:=gx (aE 46 x []) s
  I0 (cD 1 x).J (xV 0 u {u with Dn:=zC u.Ki u.Dn (cD 4 x).J u} (cD 7 x).Z) (xV 1 u {u with BM:=zC u.EU u.BM (cD 4 x).J u} (cD 7 x).Z) (xV 2 u {u with rl:=zC u.uZ u.rl (cD 4 x).J u} (cD 7 x).Z) (xV 3 u {u with rk:=zC u.uY u.rk (cD 4 x).J u} (cD 7 x).Z) (xV 4 u {u with rh:=zC u.uX u.rh (cD 4 x).J u} (cD 7 x).Z) (xV 5 u {u with rf:=zC u.uW u.rf (cD 4 x).J u} (cD 7 x).Z))))
def Ps{u t:RS}{i:Int}{b:Bool}(h:Ok u 4)(e:er t=er u)(c:0<=i)(a:i<=5):xV i u t b:=by unfold xV;exact⟨fun _=>⟨fun _=>h.may,fun _=>⟨cP.alike h (by omega) (kV e),c,a⟩,trivial⟩,fun _=>⟨fun _=>⟨h.le (by omega),c,a⟩,trivial⟩⟩
def Q4(x:D)(s:RS)(hs:dr (.Y eV) (encS s))(h:Ok s 4/\0<=(cD 1 x).J/\(cD 1 x).J<=5):agy x s:=by obtain⟨h,c,b⟩:=h;refine⟨fun _=>h.le (by omega),trivial,fun _=>⟨fun _=>h.le (by omega),?_⟩⟩;have a:Ok (gx (aE 46 x []) s) 4:=h.rY;refine z8 c b ?_ ?_ ?_ ?_ ?_ ?_<;>exact Ps a rfl (by decide) (by decide)
def c46:bn Try.prog 46 s46 (pre 46) (cB 46):=by refine hU (given:=[(3,{drop:=[5106003]})]) mix Ue Try.func46 rfl (by kernel_rfl) (v:=ZF) (by kernel_rfl) ?_;intro d h b;obtain⟨x,_,rfl,c,a⟩:=aA.1 h;have hs:=a;obtain⟨s,rfl⟩:=fP a;refine zH oi ij dK (y:=gk x s) (zE (Q4 x s hs b))
def UF:jf Try.prog pre cB VN:=aN c46 Ue
@[irreducible] def xU (i:Int) (t:RS):Prop:=(true=true->Ok t 1/\(0:Int)<=i/\i<=5)/\True
def agx(x:D)(s:RS):Prop:=
 ((((s.role !=2)==false)&&true)=true->Ok s 0)/\((True)/\(((s.role !=2)||(!(jv (cD 1 x).J s)))=false->
  (((!(cD 7 x).Z)&&((cD 10 x).J==0))=true->(true=true->Ok s 2/\(0:Int)<=(cD 1 x).J/\((cD 1 x).J:Int)<=5)/\True)/\(((!(cD 7 x).Z)&&((cD 10 x).J==0))=false->
   (((cD 4 x).J==s.wR)=true->I0 (cD 1 x).J (xU 0 {s with I3:=ig (cD 9 x).J s}) (xU 1 {s with I2:=ig (cD 9 x).J s}) (xU 2 {s with Dm:=ig (cD 9 x).J s}) (xU 3 {s with Dl:=ig (cD 9 x).J s}) (xU 4 {s with Dk:=ig (cD 9 x).J s}) (xU 5 {s with Dj:=ig (cD 9 x).J s}))/\True)))
def Pq{s t:RS}{i:Int}(h:Ok s 4)(e:er t=er s)(b:0<=i)(a:i<=5):xU i t:=by unfold xU;exact⟨fun _=>⟨cP.alike h (by omega) (kV e),b,a⟩,trivial⟩
def Q1(x:D)(s:RS)(hs:dr (.Y eV) (encS s))(h:Ok s 4/\0<=(cD 1 x).J/\(cD 1 x).J<=5):agx x s:=by obtain⟨h,b,a⟩:=h;refine⟨fun _=>h.le (by omega),trivial,fun _=>⟨fun _=>⟨fun _=>⟨h.le (by omega),b,a⟩,trivial⟩,fun _=>⟨fun _=>z8 b a ?_ ?_ ?_ ?_ ?_ ?_,trivial⟩⟩⟩<;>exact Pq h rfl (by decide) (by decide)
def c48:bn Try.prog 48 s48 (pre 48) (cB 48):=by refine hU (given:=[(5,{drop:=[5106003]})]) mix UF Try.func48 rfl (by kernel_rfl) (v:=ZD) (by kernel_rfl) ?_;intro d h b;obtain⟨x,_,rfl,c,a⟩:=aA.1 h;have hs:=a;obtain⟨s,rfl⟩:=fP a;refine zH oi ij dK (y:=mq x s) (zE (Q1 x s hs b))
def UD:jf Try.prog pre cB aak:=aN c48 UF
def c27:bn Try.prog 27 s27 (pre 27) (cB 27):=by refine zF UD Try.func27 (v:=afN) ?_;intro c h a;obtain⟨_,_,rfl,⟨_,rfl,_,_,rfl,⟨i,rfl,_⟩,_,_,rfl,⟨t,rfl,_⟩,_,_,rfl,⟨v,rfl,_,_⟩,_,_,rfl,⟨l,rfl,_,_⟩,_,_,rfl,⟨b,rfl,_,_⟩,rfl⟩,rfl⟩:=h;refine zH id id .top (y:=Wt _) zK
def UW:jf Try.prog pre cB VY:=aN c27 UD
def ahc:∀k q,lk Jz k=some q->∃A t,q.nn=some (A,t)/\QB Try.prog k A (pre k) (cB k):=by
 intro k q h;unfold Jz lk lk at h;split at h
 .rename_i H;subst H;injection h with h;subst h;refine⟨_,_,rfl,cnw,?_⟩;intro N g w S K J E Q M j f B C;injection g with g;subst g;have I:=List.length_eq_zero_iff.1 j.len;subst I;simp only[List.flatten_nil,aX]at f B C;obtain⟨x,r,rfl,P,o⟩:=aA.1 f;obtain⟨y,r,rfl,O,o⟩:=aA.1 o;obtain rfl:=dk.1 o;have s:=j.args
  match E,s with
  | [u,v],s=>
   obtain⟨G,F,_⟩:=s;refine(cnl.calls rfl w S [u,v] [x,y] j.lt rfl ?_ f ⟨B,C⟩).mono ?_
   .intro i z d a m
    match i with
    |0=>injection a with a;injection m with m;subst a m;exact G
    |1=>injection a with a;injection m with m;subst a m;exact F
    |n+2=>cases a
   rintro e D ⟨z,S',τ',rfl,hb,_,_,_,mM,_⟩;refine⟨?_,hb⟩;rcases mM with⟨c,p,hq⟩|⟨p,_⟩
   .injection p with p;subst p;obtain⟨L,b,l⟩:=hq;injection b with b;subst b;have o:bV D S' z .gv:=l.1;rw[o.rT]
   exact absurd rfl p
 cases h
@[irreducible] def Cl (x:D) (u:RS) (pd:Tah) (t:RS):Prop:=
 (True)/\(
 let n:=(lE (cD 4 x).J (cD 5 x).J)
 (((cD 0 n).iL=true->
  (True)/\((true=true->Ok t 1)/\True))/\((cD 0 n).iL=false->
  (True)/\(
  let g:=(gp (D.agg [(cD 13 x),(cD 14 x)]))
  ((((((pd.length:Int) !=(cD 10 x).J)||(decide ((cD 10 x).J<1)))&&true)||(!g))=true->
   (true=true->Ok t 1)/\True)/\((((((pd.length:Int) !=(cD 10 x).J)||(decide ((cD 10 x).J<1)))&&true)||(!g))=false->
   (True)/\(
   let f:=(qv (D.agg [(cD 13 x),(cD 14 x)]))
   (true=true->gn u.li u.lt u.le=true)/\(
   let y:=(ny u.li u.lt u.le (cD 4 x).J);let o:=(Wt (D.agg [(cD 4 x),(cD 5 x),(cD 0 f),(cD 1 f),D.list pd]));let v:RS:={u with il:=(D.ptr [(cD 0 o),(cD 1 o),(cD 2 o),(cD 3 o),(cD 4 o)]),wR:=(cD 4 x).J,vi:=(cD 5 x).J,sv:=(cD 0 f).V,sl:=(cD 1 f).V,iI:=pd,bH:=(cD 4 x).J,pJ:=0,ru:=0,nI:=0,zI:=0,nH:=0,fK:=[]}
   (((y.2==0)&&(y.1==(cD 5 x).J))=true->
    (true=true->gn u.li u.lt u.le=true)/\(
    let c:=pP u.li u.lt u.le (cD 4 x).J
    (True)/\((True)/\((true=true->Ok (gI {v with li:=c.2.1,lt:=c.2.2.1,le:=c.2.2.2}) 1)/\True))))/\(((y.2==0)&&(y.1==(cD 5 x).J))=false->
    (True)/\((True)/\((true=true->Ok (gI {v with li:=((cD 0 (cD 1 n)).J),lt:=((cD 1 (cD 1 n)).J),le:=((cD 2 (cD 1 n)).V)}) 1)/\True))))))))))
def aaF(x:D)(s:RS):Prop:=
 (True)/\(
 let u:=(gJ (aE 46 x []) s).2;let k:=fun p:Tah=>(((cD 9 x).J==(p.length:Int))&&(decide (((cD 15 x).V.length:Int)<=(i64.wrap ((cD 10 x).J-(p.length:Int))))))&&nY (cD 10 x).J 1 1048576;let t:RS:={u with pJ:=(cD 3 x).J,ru:=(cD 1 x).J,nI:=(cD 4 x).J,zI:=(cD 5 x).J,nH:=(cD 10 x).J}
 (True)/\(((!(gJ (aE 46 x []) s).1)=false->
  (decide ((cD 4 x).J<=u.bH)=true->(true=true->Ok u 1)/\True)/\(decide ((cD 4 x).J<=u.bH)=false->
   (((!(((((u.pJ==(cD 3 x).J)&&(u.ru==(cD 1 x).J))&&(u.nI==(cD 4 x).J))&&(u.zI==(cD 5 x).J))&&(u.nH==(cD 10 x).J)))||((cD 9 x).J==0))=true->
    (True)/\(k []=true->(true=true->([]++(cD 15 x).V).length<=maxLen/\([]++(cD 15 x).V).length*1<=140737488355328)/\Cl x u ([]++(cD 15 x).V) {t with fK:=[]++(cD 15 x).V})/\(k []=false->Cl x u [] {t with fK:=[]}))/\(((!(((((u.pJ==(cD 3 x).J)&&(u.ru==(cD 1 x).J))&&(u.nI==(cD 4 x).J))&&(u.zI==(cD 5 x).J))&&(u.nH==(cD 10 x).J)))||((cD 9 x).J==0))=false->
    (True)/\(k u.fK=true->(true=true->(u.fK++(cD 15 x).V).length<=maxLen/\(u.fK++(cD 15 x).V).length*1<=140737488355328)/\Cl x u (u.fK++(cD 15 x).V) {u with fK:=u.fK++(cD 15 x).V})/\(k u.fK=false->Cl x u u.fK u))))))
def Pr{x:D}{u t:RS}{p:Tah}(e:Ok u 2)(j:Dx u t):Cl x u p t:=by
 have m:∀(t:RS) (c:Int),(t.li,t.lt,t.le)=jR u.li u.lt u.le c->gp (.agg [.list t.sv,.list t.sl])=true->(t.id=u.id/\t.msgs=u.msgs/\t.dB=u.dB/\t.aW=u.aW/\t.aT=u.aT/\t.fv=u.fv/\t.fl=u.fl/\t.term=u.term/\t.reads=u.reads)->Ok (gI t) 1:=fun t c h g f=>cP.saved (e.SY (by omega) h g f);have l:∀(t:RS) (i n:Int),¬(cD 0 (lE i n)).iL=true->(t.li,t.lt,t.le)=((cD 0 (cD 1 (lE i n))).J,(cD 1 (cD 1 (lE i n))).J,(cD 2 (cD 1 (lE i n))).V)->gp (.agg [.list t.sv,.list t.sl])=true->(t.id=u.id/\t.msgs=u.msgs/\t.dB=u.dB/\t.aW=u.aW/\t.aT=u.aT/\t.fv=u.fv/\t.fl=u.fl/\t.term=u.term/\t.reads=u.reads)->Ok (gI t) 1:=fun t i n o h g f=>cP.saved (e.SW (by omega) o h g f);have d:∀a b:Bool,(a|| !b)=false->b=true:=by intro a b;cases a<;>cases b<;>simp
 unfold Cl
 (repeat' (first|exact trivial|apply And.intro|intro _))
 all_goals first
  |exact e.may
  |exact(e.same j).le (by omega)
  |(refine m _ (cD 4 x).J ?_ ?_ ?_;exact rfl;exact d _ _ ‹(_|| !_)=false›;exact⟨rfl,rfl,rfl,rfl,rfl,rfl,rfl,rfl,rfl⟩)
  |(refine l _ (cD 4 x).J (cD 5 x).J ?_ ?_ ?_ ?_;exact(fun k=>absurd (‹D.iL _=false›.symm.trans k) (by decide));exact rfl;exact d _ _ ‹(_|| !_)=false›;exact⟨rfl,rfl,rfl,rfl,rfl,rfl,rfl,rfl,rfl⟩)
def Q3(x:D)(s:RS)(hs:dr (.Y eV) (encS s))(h:Ok s 2):aaF x s:=by
 have d:Ok (gJ (aE 46 x []) s).2 2:=h.Ct;have c:(gJ (aE 46 x []) s).2.fK.length<=140737488355328:=aY (GG _ s) (K5 hs);unfold aaF;generalize gJ (aE 46 x []) s=ln at d c
 have b:∀(p e:Tah),p.length<=140737488355328->((e.length:Int)<=IntKind.wrap i64 ((cD 10 x).J-(p.length:Int)))->nY (cD 10 x).J 1 1048576=true->(p++e).length<=maxLen/\(p++e).length*1<=140737488355328:=by intro p e c g f;simp only[nY,aP,bg]at f;rw[wrap64 (by omega) (by omega)]at g;simp only[ah,maxLen];omega
 (repeat' (first|exact trivial|apply And.intro|intro _))
 all_goals first
  |(with_reducible exact d.le (by omega))
  |(refine Pr d ?_;exact jh)
  |(rename_i a _
    replace a:(((_&&_)&&_)=true):=a;simp only[aP,bg]at a
    first
      |exact(b [] _ (aB _) a.1.2 a.2).1
      |exact(b [] _ (aB _) a.1.2 a.2).2
      |exact(b _ _ c a.1.2 a.2).1
      |exact(b _ _ c a.1.2 a.2).2)
def c47:bn Try.prog 47 s47 (pre 47) (cB 47):=by refine Gw (given:=[(21,{drop:=[9000000010]})]) (et:=Jz) mix UW ahc Try.func47 rfl (by kernel_rfl) (v:=ZE) (by kernel_rfl) ?_;intro d h b;obtain⟨x,_,rfl,c,a⟩:=aA.1 h;have hs:=a;obtain⟨s,rfl⟩:=fP a;refine zH oi ij dK (y:=xQ x s) (zE (Q3 x s hs b))
def UE:jf Try.prog pre cB VM:=aN c47 UW
@[irreducible] def Jo (x:D) (t:RS):Prop:=
 (decide ((cD 3 x).J<t.term)=true->(true=true->Ok t 1)/\True)/\(decide ((cD 3 x).J<t.term)=false->
  (((cD 0 x).J==1)=true->(true=true->Ok t 1)/\True)/\(((cD 0 x).J==1)=false->
  (((cD 0 x).J==2)=true->(true=true->Ok t 15)/\True)/\(((cD 0 x).J==2)=false->
  (((cD 0 x).J==3)=true->(true=true->Ok t (4+(cD 12 (aE 46 x [])).V.length)/\(cD 12 (aE 46 x [])).V.length<=2147483648/\eF (cD 12 (aE 46 x [])).V=true)/\True)/\(((cD 0 x).J==3)=false->
  (((cD 0 x).J==4)=true->(true=true->Ok t 4/\0<=(cD 1 (aE 46 x [])).J/\(cD 1 (aE 46 x [])).J<=5)/\True)/\(((cD 0 x).J==4)=false->
  (((cD 0 x).J==5)=true->(true=true->Ok t 2)/\True)/\(((cD 0 x).J==5)=false->
  (((cD 0 x).J==6)=true->(true=true->Ok t 4/\0<=(cD 1 (aE 46 x [])).J/\(cD 1 (aE 46 x [])).J<=5)/\True)/\True))))))
def agK(x:D)(s:RS):Prop:=
 (True)/\((True)/\((((decide ((((cD 12 x).V:Tah).length:Int)>0)==true)&&((decide ((cD 5 x).J>(cD 3 x).J)==false)&&true))=true->((decide (0<=(i64.wrap ((((cD 12 x).V:Tah).length:Int)-1))))&&(decide ((i64.wrap ((((cD 12 x).V:Tah).length:Int)-1))<(((cD 12 x).V:Tah).length:Int))))=true)/\(
 (True)/\((True)/\((((decide ((cD 5 x).J>(cD 3 x).J))||((decide ((((cD 12 x).V:Tah).length:Int)>0))&&(decide (((cD 1 (((cD 12 x).V).getD ((i64.wrap ((((cD 12 x).V:Tah).length:Int)-1)):Int).toNat .top)).J)>(cD 3 x).J))))||(!eF (cD 12 x).V))=false->
  (True)/\((((!(((((cD 2 x).J==s.id)&&((cD 1 x).J !=s.id))&&nY (cD 1 x).J 1 5)&&nY (cD 3 x).J 1 1099511627776))||(decide ((cD 0 x).J<1)))||(decide ((cD 0 x).J>6)))=false->
   (decide ((cD 3 x).J>s.term)=true->(True)/\Jo x (fQ (cD 3 x).J 0 s))/\(decide ((cD 3 x).J>s.term)=false->Jo x s)))))))
def Rh(x:D)(s:RS)(hs:dr (.Y eV) (encS s))(h:Ok s (20+(cD 12 x).V.length)/\(cD 12 x).V.length<=2147483648):agK x s:=by
 obtain⟨h,l⟩:=h;refine⟨trivial,trivial,fun j=>?_,trivial,trivial,fun e=>⟨trivial,fun b=>?_⟩⟩
 .simp only[aP,beq_iff_eq,bg]at j;have p:0<(cD 12 x).V.length:=by have:=j.1;omega
  show(decide (0<=IntKind.wrap i64 (((cD 12 x).V.length:Int)-1))&&decide (IntKind.wrap i64 (((cD 12 x).V.length:Int)-1)<((cD 12 x).V.length:Int)))=true;rw[wrap64 (by omega) (by omega),aP,bg,bg];omega
 have g:eF (cD 12 x).V=true:=vQ (by rw[e];simp)
 have f:nY (cD 1 x).J 1 5=true/\nY (cD 3 x).J 1 1099511627776=true:=by simp only[Bool.or_eq_false_iff,Bool.not_eq_false',aP]at b;exact⟨b.1.1.1.2,b.1.1.2⟩
 obtain⟨d,c⟩:=f;simp only[nY,aP,bg]at d c;have m:Ok (fQ (cD 3 x).J 0 s) (20+(cD 12 x).V.length):=h.follow (by omega) c.2;have o:0<=(cD 1 (aE 46 x [])).J:=by show 0<=(cD 1 x).J;omega
 have n:(cD 1 (aE 46 x [])).J<=5:=d.2
 have a:∀t:RS,Ok t (20+(cD 12 x).V.length)->Jo x t:=by
  intro t k;have i:(cD 12 (aE 46 x [])).V=(cD 12 x).V:=rfl;unfold Jo
  (repeat' (first|exact trivial|apply And.intro|intro _))
  all_goals first
   |exact o
   |exact n
   |exact l
   |exact g
   |exact k.le (by first|omega|(rw[i];omega))
 exact⟨fun _=>⟨trivial,a _ m⟩,fun _=>a _ h⟩
def c17:bn Try.prog 17 s17 (pre 17) (cB 17):=by refine zO UE Try.func17 (v:=ZW) ?_;intro d h b;obtain⟨x,_,rfl,c,a⟩:=aA.1 h;have hs:=a;obtain⟨s,rfl⟩:=fP a;refine zH Qz E9 (.top,dK) (y:=iX x s) (zE (Rh x s hs b))
def U3:jf Try.prog pre cB VZ:=aN c17 UE
def agM(x:Int)(s:RS):Prop:=
 (((s.role==2)=true->
  ((decide ((i64.wrap (s.wait+1))≥2)=true->
   ((true=true->Ok ({s with wait:=0}:RS) 0))/\(
   let c:=(dU ({s with wait:=0}:RS))
   ((true=true->Ok ({s with wait:=0}:RS) 0/\gp (aE 2 c [])=true))/\(
   let g:=(gq (aE 2 c []) ({s with wait:=0}:RS))
   VC.E0 cB pre E9 (fun _ _ l=>pN g (l.getD 0 .top).J (qY (l.drop 1))) [] (VC.lp 84 VD) (fy (fy (fun i=>([D.int i64 x]++encS s).getD i .top) 80 (c)) 81 (D.list g))))))/\(True)))/\(((s.role==2)=false->
  (((s.end_==0)=true->
   ((decide (x<0)=true->
    (true=true->(10 !=0)=true)/\(
    ((decide ((i64.wrap (s.wait+1))≥(i64.wrap (10+((i64.wrap (0-(i64.wrap (x+1)))).tmod 10))))=true->
     (True)/\(
     let a:=ib ({s with wait:=(i64.wrap (s.wait+1)),end_:=(i64.wrap (10+((i64.wrap (0-(i64.wrap (x+1)))).tmod 10)))}:RS)
     ((true=true->Ok a 0))/\(
     let d:=(dU a)
     (True)/\(
     let h:=(jo (aE 2 d []) a.id)
     (((h&&(decide (a.term<1099511627776)))=true->
      ((true=true->Ok a 14/\gp (aE 2 d [])=true/\a.term<MX))/\(
      True)))/\(True))))))/\(True))))/\((decide (x<0)=false->
    (true=true->(10 !=0)=true)/\(
    ((decide ((i64.wrap (s.wait+1))≥(i64.wrap (10+(x.tmod 10))))=true->
     (True)/\(
     let b:=ib ({s with wait:=(i64.wrap (s.wait+1)),end_:=(i64.wrap (10+(x.tmod 10)))}:RS)
     ((true=true->Ok b 0))/\(
     let e:=(dU b)
     (True)/\(
     let j:=(jo (aE 2 e []) b.id)
     (((j&&(decide (b.term<1099511627776)))=true->
      ((true=true->Ok b 14/\gp (aE 2 e [])=true/\b.term<MX))/\(
      True)))/\(True))))))/\(True))))))/\(((s.end_==0)=false->
   ((decide ((i64.wrap (s.wait+1))≥s.end_)=true->
    (True)/\(
    let ET:=ib ({s with wait:=(i64.wrap (s.wait+1))}:RS)
    ((true=true->Ok ET 0))/\(
    let f:=(dU ET)
    (True)/\(
    let k:=(jo (aE 2 f []) ET.id)
    (((k&&(decide (ET.term<1099511627776)))=true->
     ((true=true->Ok ET 14/\gp (aE 2 f [])=true/\ET.term<MX))/\(
     True)))/\(True))))))/\(True)))))
def adi(b:Tah)(a:Int)(c:RS):Prop:=
 ((decide (a<((b:Tah).length:Int))=true->
  (true=true->((decide (0<=a))&&(decide (a<((b:Tah).length:Int))))=true)/\(
  ((true=true->Ok c 1/\(0:Int)<=((((b).getD (a:Int).toNat .top)).J)/\(((((b).getD (a:Int).toNat .top)).J):Int)<=5))/\(
  True))))/\(True)
def Rj(x:Int)(s:RS)(C:kL i64 x)(hs:dr (.Y eV) (encS s))(h:Ok s 20):agM x s:=by
 have o:Ok ({s with wait:=0}:RS) 20:=h.same jh;refine⟨fun _=>⟨fun _=>⟨fun _=>o.le (by omega),?_⟩,trivial⟩,fun _=>?_⟩
 .intro f;have m:gp (aE 2 f [])=true:=iQ o
  clear_value f
  refine⟨fun _=>⟨o.le (by omega),m⟩,?_⟩;intro b;have e:=iy (c:=aE 2 f []) (s:={s with wait:=0}) m;change b.length<=10/\∀y∈b,1<=y.J/\y.J<=5 at e
  clear_value b
  obtain⟨E,A⟩:=e
  have u:∀i:Int,0<=i->i<b.length->1<=(b.getD i.toNat .top).J/\(b.getD i.toNat .top).J<=5:=by
   intro i F g;have j:i.toNat<b.length:=by omega
   rw[ag,aR j];exact A _ (aF j)
  refine VC.jk 84 (by kernel_rfl) ?_;refine VC.hH (Φ:=cB) (Pre:=pre) (triv:=triv) (v0:=84) (decL:=fun l=>((l.getD 0 .top).J,qY (l.drop 1))) (encL:=fun a:Int×RS=>([D.int i64 a.1]++Hc a.2)) (dec:=Qz) (enc:=E9) (lp:=fun _ _ _ _=>(.top,dK)) (bad:=.inr (.top,dK)) (bd:=(.top,dK)) (by kernel_rfl) (fun a:Int×RS=>AH b a.1 a.2) (fun a:Int×RS=>0<=a.1/\a.1<=b.length/\Ok a.2 (1+(10-a.1.toNat))) (fun a:Int×RS=>FH b a.1 a.2) (0,{s with wait:=0}) kf (by kernel_rfl) ?Sv (fun a=>rfl) ?Sy (by kernel_rfl) (fun a v=>by kernel_rfl) (fun a=>by kernel_rfl) (fun a=>by kernel_rfl) (fun a v z=>zE (β:=adi b a.1 a.2) ?E6) (by kernel_rfl)
  .exact⟨aJ 0,eB _,o.le (by show 1+(10-0)<=_;omega)⟩
  .rintro⟨i,t⟩ ⟨g,p,n⟩;simp only at g p n;unfold AH;by_cases d:decide (i<(b.length:Int))=true
   .rw[if_pos d];rw[bg]at d;have w:IntKind.wrap i64 (i+1)=i+1:=wrap64 (by omega) (by omega);dsimp only;rw[w];obtain⟨B,q⟩:=u i g d;refine⟨⟨by show 0<=i+1;omega,by show i+1<=_;omega,?_⟩,by show b.length-(i+1).toNat<b.length-i.toNat;omega⟩;exact cP.lD (n.le (by show 1+(10-(i+1).toNat)+1<=_;omega)) (by omega) q
   rw[if_neg d];trivial
  obtain⟨i,t⟩:=a;obtain⟨g,p,n⟩:=v;simp only at g p n;refine⟨fun d=>?_,trivial⟩;rw[bg]at d;obtain⟨B,q⟩:=u i g d;refine⟨fun _=>?_,fun _=>⟨n.le (by omega),by show 0<=(b.getD i.toNat .top).J;omega,q⟩,trivial⟩;rw[aP,bg,bg];exact⟨g,d⟩
 (repeat' (first|exact trivial|apply And.intro|intro _))
 all_goals first
  |rfl
  |(refine cP.alike h (by omega) ?_;exact jh)
  |(refine iQ (k:=20) (cP.alike h (by omega) ?_);exact jh)
  |(rename_i r _;simp only[aP,bg]at r;exact r.2)
def c15:bn Try.prog 15 s15 (pre 15) (cB 15):=by refine hU (given:=[(6,{boxes:=yY})]) mix U3 Try.func15 rfl (by kernel_rfl) (v:=VD) (by kernel_rfl) ?_;intro f h e;obtain⟨_,_,rfl,⟨x,rfl,d⟩,c⟩:=aA.1 h;have hs:=c;obtain⟨s,rfl⟩:=fP c;refine zL Qz E9 (.top,dK) (fun _ _ l=>(let b:=(dU ({s with wait:=0}:RS));let a:=(gq (aE 2 b []) ({s with wait:=0}:RS));pN a (l.getD 0 .top).J (qY (l.drop 1)))) (y:=gX x s) (zE (Rj x s d hs e))
def adS:jf Try.prog pre cB aax:=aN c15 U3
def JU{x:D}{s:RS}(h:yO x s=0):(cD 0 x).J=2->gp (.agg [cD 25 x,cD 26 x])=true:=by
 intro c;unfold yO at h;split at h
 .cases h
 split at h
 .cases h
 split at h
 .rename_i b;rw[c]at b;cases b
 dsimp only at h;split at h
 .cases h
 split at h
 .cases h
 rename_i a;rw[cI,Bool.not_eq_false]at a;unfold zv G8 at a;simp only[aP]at a;exact a.1.2
noncomputable def MD:VC:=og Try.prog aax [(8,{boxes:=yY}),(10,{drop:=[4006011]})] s16 Try.f16
attribute [irreducible] MD
def agL(x:D)(s:RS):Prop:=
 ((true=true->Ok s 0))/\(
 let c:=(yO (aE 27 x []) s)
 (True)/\(((c !=0)=false->
  ((true=true->Ok s 1))/\(
  let jX:=oc (aE 27 x []) s
  (True)/\(((jX.1.2 !=0)=false->
   ((true=true->Ok jX.2 0))/\(
   let a:=(dU jX.2)
   ((true=true->Ok jX.2 0/\gp (aE 2 a [])=true))/\(
   let b:=(gq (aE 2 a []) jX.2)
   VC.E0 cB pre DW (fun _ _ l=>kH jX b (l.getD 0 .top).J (qY (l.drop 1))) [] (VC.lp 82 MD) (fy (fy (fy (fy (fun i=>([x]++encS s).getD i .top) 61 (D.int i64 c)) 67 (JA jX)) 78 (a)) 79 (D.list b))))))))))
@[irreducible] def xX (i n:Int) (q:RS->Int) (t:RS):Prop:=((q t==n)=true->(true=true->Ok t 1/\(0:Int)<=i/\i<=5)/\True)/\True
def adh(jX:(D×Int)×RS)(c:Tah)(b:Int)(a:RS):Prop:=
 (decide (b<((c:Tah).length:Int))=true->
  (true=true->((decide (0<=b))&&(decide (b<((c:Tah).length:Int))))=true)/\
  I0 ((((c).getD (b:Int).toNat .top)).J) (xX 0 ((cD 0 jX.1.1).J) RS.Dn a) (xX 1 ((cD 0 jX.1.1).J) RS.BM a) (xX 2 ((cD 0 jX.1.1).J) RS.rl a) (xX 3 ((cD 0 jX.1.1).J) RS.rk a) (xX 4 ((cD 0 jX.1.1).J) RS.rh a) (xX 5 ((cD 0 jX.1.1).J) RS.rf a))/\(decide (b<((c:Tah).length:Int))=false->
  (true=true->Ok a 1)/\True)
def Pu{i n:Int}{q:RS->Int}{t:RS}(h:Ok t 1)(b:0<=i)(a:i<=5):xX i n q t:=by unfold xX;exact⟨fun _=>⟨fun _=>⟨h,b,a⟩,trivial⟩,trivial⟩
def Ri(x:D)(s:RS)(hs:dr (.Y eV) (encS s))(h:Ok s 20):agL x s:=by
 refine⟨fun _=>h.le (by omega),?_⟩;intro o;have p:o=yO (aE 27 x []) s:=rfl
 clear_value o
 refine⟨trivial,fun E=>⟨fun _=>h.le (by omega),?_⟩⟩;intro jX;have u:Ok jX.2 12:=cP.put (k:=12) (h.le (by omega)) (JU (s:=s) (by rw[<-p];simpa using E))
 clear_value jX
 refine⟨trivial,fun I=>⟨fun _=>u.le (by omega),?_⟩⟩;intro m;have r:gp (aE 2 m [])=true:=iQ u
 clear_value m
 refine⟨fun _=>⟨u.le (by omega),r⟩,?_⟩;intro b;have j:=iy (c:=aE 2 m []) (s:=jX.2) r;change b.length<=10/\∀y∈b,1<=y.J/\y.J<=5 at j
 clear_value b
 obtain⟨J,H⟩:=j
 have z:∀i:Int,0<=i->i<b.length->1<=(b.getD i.toNat .top).J/\(b.getD i.toNat .top).J<=5:=by
  intro i K n;have q:i.toNat<b.length:=by omega
  rw[ag,aR q];exact H _ (aF q)
 refine VC.jk 82 (by kernel_rfl) ?_;refine VC.hH (Φ:=cB) (Pre:=pre) (triv:=triv) (v0:=82) (decL:=fun l=>((l.getD 0 .top).J,qY (l.drop 1))) (encL:=fun a:Int×RS=>([D.int i64 a.1]++Hc a.2)) (dec:=OY) (enc:=DW) (lp:=fun _ _ _ _=>((.top,0,.top),dK)) (bad:=.inr ((.top,0,.top),dK)) (bd:=((.top,0,.top),dK)) (by kernel_rfl) (fun a:Int×RS=>ir jX b a.1 a.2) (fun a:Int×RS=>0<=a.1/\a.1<=b.length/\Ok a.2 (1+(10-a.1.toNat))) (fun a:Int×RS=>r6 jX b a.1 a.2) (0,jX.2) kf (by kernel_rfl) ?Sv (fun a=>rfl) ?Sy (by kernel_rfl) (fun a A=>by kernel_rfl) (fun a=>by kernel_rfl) (fun a=>by kernel_rfl) (fun a A G=>zE (β:=adh jX b a.1 a.2) ?E6) (by kernel_rfl)
 .exact⟨aJ 0,eB _,u.le (by show 1+(10-0)<=_;omega)⟩
 .rintro⟨i,t⟩ ⟨n,w,f⟩;simp only at n w f;unfold ir;by_cases e:decide (i<(b.length:Int))=true
  .rw[if_pos e];rw[bg]at e;have F:IntKind.wrap i64 (i+1)=i+1:=wrap64 (by omega) (by omega);dsimp only;rw[F];obtain⟨C,B⟩:=z i n e;have v:(b.getD i.toNat .top).J=1\/(b.getD i.toNat .top).J=2\/(b.getD i.toNat .top).J=3\/(b.getD i.toNat .top).J=4\/(b.getD i.toNat .top).J=5:=by omega
   rcases v with d|d|d|d|d
   .rw[if_neg (by rw[d];decide),if_pos (by rw[d];rfl)];by_cases g:(t.BM==((cD 0 jX.1.1).J))=true
    .rw[if_pos g];refine⟨⟨by show 0<=i+1;omega,by show i+1<=_;omega,?_⟩,by show b.length-(i+1).toNat<b.length-i.toNat;omega⟩;show Ok (fx 1 t) (1+(10-(i+1).toNat));exact cP.lD (f.le (by show 1+(10-(i+1).toNat)+1<=_;omega)) (by decide) (by decide)
    rw[if_neg g];exact⟨⟨by show 0<=i+1;omega,by show i+1<=_;omega,f.le (by show 1+(10-(i+1).toNat)<=_;omega)⟩,by show b.length-(i+1).toNat<b.length-i.toNat;omega⟩
   .rw[if_neg (by rw[d];decide),if_neg (by rw[d];decide),if_pos (by rw[d];rfl)];by_cases g:(t.rl==((cD 0 jX.1.1).J))=true
    .rw[if_pos g];refine⟨⟨by show 0<=i+1;omega,by show i+1<=_;omega,?_⟩,by show b.length-(i+1).toNat<b.length-i.toNat;omega⟩;show Ok (fx 2 t) (1+(10-(i+1).toNat));exact cP.lD (f.le (by show 1+(10-(i+1).toNat)+1<=_;omega)) (by decide) (by decide)
    rw[if_neg g];exact⟨⟨by show 0<=i+1;omega,by show i+1<=_;omega,f.le (by show 1+(10-(i+1).toNat)<=_;omega)⟩,by show b.length-(i+1).toNat<b.length-i.toNat;omega⟩
   .rw[if_neg (by rw[d];decide),if_neg (by rw[d];decide),if_neg (by rw[d];decide),if_pos (by rw[d];rfl)];by_cases g:(t.rk==((cD 0 jX.1.1).J))=true
    .rw[if_pos g];refine⟨⟨by show 0<=i+1;omega,by show i+1<=_;omega,?_⟩,by show b.length-(i+1).toNat<b.length-i.toNat;omega⟩;show Ok (fx 3 t) (1+(10-(i+1).toNat));exact cP.lD (f.le (by show 1+(10-(i+1).toNat)+1<=_;omega)) (by decide) (by decide)
    rw[if_neg g];exact⟨⟨by show 0<=i+1;omega,by show i+1<=_;omega,f.le (by show 1+(10-(i+1).toNat)<=_;omega)⟩,by show b.length-(i+1).toNat<b.length-i.toNat;omega⟩
   .rw[if_neg (by rw[d];decide),if_neg (by rw[d];decide),if_neg (by rw[d];decide),if_neg (by rw[d];decide),if_pos (by rw[d];rfl)];by_cases g:(t.rh==((cD 0 jX.1.1).J))=true
    .rw[if_pos g];refine⟨⟨by show 0<=i+1;omega,by show i+1<=_;omega,?_⟩,by show b.length-(i+1).toNat<b.length-i.toNat;omega⟩;show Ok (fx 4 t) (1+(10-(i+1).toNat));exact cP.lD (f.le (by show 1+(10-(i+1).toNat)+1<=_;omega)) (by decide) (by decide)
    rw[if_neg g];exact⟨⟨by show 0<=i+1;omega,by show i+1<=_;omega,f.le (by show 1+(10-(i+1).toNat)<=_;omega)⟩,by show b.length-(i+1).toNat<b.length-i.toNat;omega⟩
   rw[if_neg (by rw[d];decide),if_neg (by rw[d];decide),if_neg (by rw[d];decide),if_neg (by rw[d];decide),if_neg (by rw[d];decide),if_pos (by rw[d];rfl)];by_cases g:(t.rf==((cD 0 jX.1.1).J))=true
   .rw[if_pos g];refine⟨⟨by show 0<=i+1;omega,by show i+1<=_;omega,?_⟩,by show b.length-(i+1).toNat<b.length-i.toNat;omega⟩;show Ok (fx 5 t) (1+(10-(i+1).toNat));exact cP.lD (f.le (by show 1+(10-(i+1).toNat)+1<=_;omega)) (by decide) (by decide)
   rw[if_neg g];exact⟨⟨by show 0<=i+1;omega,by show i+1<=_;omega,f.le (by show 1+(10-(i+1).toNat)<=_;omega)⟩,by show b.length-(i+1).toNat<b.length-i.toNat;omega⟩
  rw[if_neg e];trivial
 obtain⟨i,t⟩:=a;obtain⟨n,w,f⟩:=A;simp only at n w f;refine⟨fun e=>?_,fun _=>⟨fun _=>f.le (by omega),trivial⟩⟩;rw[bg]at e;obtain⟨C,B⟩:=z i n e;refine⟨fun _=>by rw[aP,bg,bg];exact⟨n,e⟩,?_⟩;refine z8 (fm (by decide) C) B ?_ ?_ ?_ ?_ ?_ ?_<;>exact Pu (f.le (by omega)) (by decide) (by decide)
def c16:bn Try.prog 16 s16 (fun a=>Ok (hP (a.drop 1)) 20) (fun a=>DW (bD (a.getD 0 .top) (hP (a.drop 1)))):=by refine hU (given:=[(8,{boxes:=yY}),(10,{drop:=[4006011]})]) mix adS Try.func16 rfl (by kernel_rfl) (v:=MD) (by kernel_rfl) ?_;intro a h f;obtain⟨x,_,rfl,g,d⟩:=aA.1 h;have hs:=d;obtain⟨s,rfl⟩:=fP d;refine zL OY DW ((.top,0,.top),dK) (fun _ _ l=>(let e:=(yO (aE 27 x []) s);let jX:=oc (aE 27 x []) s;let c:=(dU jX.2);let b:=(gq (aE 2 c []) jX.2);kH jX b (l.getD 0 .top).J (qY (l.drop 1)))) (y:=bD x s) (zE (Ri x s hs f))
variable{C M K:Nat}{N:Int}{z s t:RS}{x:D}
def Good(C M K:Nat)(N:Int)(z:RS)(y:D×RS):Prop:=∃t,Inv z N t/\cP C M t K/\y=((bk t).1,(bk t).2)
def Good.done(h:Inv z N t)(k:cP C M t K):Good C M K N z (aE 8 (bk t).1 [],(bk t).2):=⟨t,h,k,rfl⟩
def Good.ite{c:Prop}[Decidable c]{a b:D×RS}(e:c->Good C M K N z a)(d:¬c->Good C M K N z b):Good C M K N z (if c then a else b):=by
 split
 .exact e (by assumption)
 exact d (by assumption)
def Good.mono{y:D×RS}{N':Int}{K':Nat}(h:Good C M K N z y)(d:N<=N')(e:K'<=K):Good C M K' N' z y:=let ⟨t,a,b,c⟩:=h;⟨t,a.mono d,b.le e,c⟩
def Bs.inv(h:Bs N s)(i:Idle s):Inv s N s:=
 ⟨h,.inl ⟨i.snap,rfl,rfl,rfl,rfl,rfl,(by rw[i.Mx];rfl)⟩,fun _=>⟨i.Mx,i.snap,rfl,rfl⟩,(by rw[i.msgs];intro m a;cases a),(by rw[i.mI];intro m a;cases a)⟩
def Inv.after(h:Inv z N t):Bs N (bk t).2:=⟨h.hd,h.zz,h.mI,h.gz,h.Qc,h.Vd,h.tL,h.top,h.pos⟩
def RP{l:Tah}{n:Nat}(h:l.length=n):aE n (.agg l) []=.agg l:=by
 unfold aE;congr 1;refine eH fun j=>?_;rw[ab];by_cases a:j<n
 .rw[cN a];show some (l.getD j .top)=l[j]?;rw[ag,aR (by omega)];rfl
 rw[cM (by rw[dW];omega),cM (by omega)];rfl
def Lv{x:Int}(h:Bs N s)(i:Idle s)(k:cP C M s (K+13)):Good C M K (N+1) s (gX x s):=by
 have hs:=h.inv i;have j:N<=N+1:=by omega
 unfold gX;dsimp only;have n:∀t:RS,Inv s N t->Dx s t->Good C M K (N+1) s (aE 8 (bk t).1 [],(bk t).2):=fun t b e=>.done (b.mono j) ((k.same e).le (by omega));have d:∀t:RS,Inv s N t->Dx s t->t.il=.gv->t.term<1099511627776->Good C M K (N+1) s (aE 8 (bk (lG (aE 2 (dU t) []) t)).1 [],(bk (lG (aE 2 (dU t) []) t)).2):=fun t b e o g=>.done (b.MG (k.same e) (iQ (k.same e)) g o) ((k.same e).MG (iQ (k.same e)) g)
 have a:Good C M K (N+1) s (pN (gq (aE 2 (dU ({s with wait:=0}:RS)) []) ({s with wait:=0}:RS)) 0 ({s with wait:=0}:RS)):=by have l:cP C M ({s with wait:=0}:RS) (K+13):=k.same jh;exact C0 (K:=K) (Q:=fun t:D×RS=>Good C M K (N+1) s t) (iy (c:=aE 2 (dU _) []) (iQ l)) (fun _ _=>rfl) (fun _ _=>rfl) ⟨hs.same,l.le (by omega)⟩ (fun t b m=>.done (b.mono j) m)
 generalize pN (gq (aE 2 (dU ({s with wait:=0}:RS)) []) ({s with wait:=0}:RS)) 0 ({s with wait:=0}:RS)=L at a⊢
 repeat' (first|exact a|with_reducible refine Good.ite (fun f=>?_) (fun _=>?_))
 all_goals first
  |((with_reducible refine n _ ?_ ?_);exact hs.same;exact jh)
  |(simp only[aP,bg]at f;(with_reducible refine d _ ?_ ?_ ?_ f.2);exact hs.same;exact jh;exact i.snap)
def Lw(h:Bs N s)(i:Idle s)(k:cP C M s (K+28))(o:mj N x)(P:Has iC x):Good C M K (N+1) s (iX x s):=by
 have hs:=h.inv i;have c:N<=N+1:=by omega
 have V:=o.n8;unfold iX Kr zG;refine Good.ite (fun _=>.done (hs.mono c) (k.le (by omega))) (fun d=>?_);have y:eF (cD 12 x).V=true:=vQ d
 have q:(cD 5 x).J<=(cD 3 x).J/\(decide (((cD 12 x).V.length:Int)>0)&&decide ((cD 1 ((cD 12 x).V.getD (i64.wrap (((cD 12 x).V.length:Int)-1)).toNat .top)).J>(cD 3 x).J))=false:=by simp only[Bool.not_eq_true,Bool.or_eq_false_iff]at d;exact⟨by have:=d.1.1;simpa using this,d.1.2⟩
 refine Good.ite (fun _=>.done (hs.mono c) (k.le (by omega))) (fun m=>?_)
 have L:nY (cD 1 x).J 1 5=true/\nY (cD 3 x).J 1 1099511627776=true:=by simp only[Bool.not_eq_true,Bool.or_eq_false_iff,Bool.not_eq_false',aP]at m;exact⟨m.1.1.1.2,m.1.1.2⟩
 obtain⟨v,u⟩:=L;simp only[nY,aP,bg]at v u;have B:0<=(cD 1 (aE 46 x [])).J:=by show 0<=(cD 1 x).J;omega
 have E:(cD 1 (aE 46 x [])).J<=5:=v.2
 have F:Has iC (aE 46 x []):=by
  obtain⟨l,rfl,S⟩:=eA.1 P;have J:l.length=46:=by rw[gh S,Ty.dT];rfl
  rw[RP J];exact P
 have H:mj N (aE 46 x []):=⟨o.n8,o.tN,o.snp,o.pos⟩
 have g:∀t:RS,Inv s N t->cP C M t (K+28)->t.il=.gv->t.dB=[]->¬(cD 3 x).J<t.term->¬(cD 3 x).J>t.term->
   ∀f:RS->RS,(f=xP (aE 46 x [])\/f=rE (aE 46 x [])\/f=kW (aE 46 x [])\/f=gk (aE 46 x [])\/(f=xQ (aE 46 x [])/\((cD 0 x).J==5)=true)\/f=mq (aE 46 x [])\/f=id)->Good C M K (N+1) s (aE 8 (bk (f t)).1 [],(bk (f t)).2):=by
  intro t j b G Q X W f D;have U:(cD 3 x).J=t.term:=by omega
  have A:(cD 5 x).J<=t.term:=by omega
  rcases D with rfl|rfl|rfl|rfl|⟨rfl,O⟩|rfl|rfl
  .exact .done ((j.vote B (by simp only[MX];omega)).mono c) (cP.vote (b.le (by omega)))
  .exact .done (j.MC (b.le (by omega:K+13<=K+28)) G) (cP.MC (b.le (by omega)))
  .refine .done ((j.append (x:=aE 46 x []) (K:=K) (b.le (by show K+3+(cD 12 x).V.length<=_;omega)) y H G Q (fun p R=>?_) A).mono c) (cP.append (x:=aE 46 x []) (b.le (by show K+3+(cD 12 x).V.length<=_;omega)) y);have:=q.2;rw[U]at this;exact Lq this (by omega) R
  .exact .done ((j.appended (b.le (by omega:K+2<=K+28)) B E).mono c) (cP.appended (b.le (by omega)) B E)
  .exact .done ((j.snap (x:=aE 46 x []) b G Q A (o.snp (eq_of_beq O)) F).mono c) (cP.snap (b.le (by omega)))
  .exact .done ((j.D4 (b.le (by omega:K+2<=K+28)) B E).mono c) (cP.D4 (b.le (by omega)) B E)
  exact .done (j.mono c) (b.le (by omega))
 have D:cP C M (fQ (cD 3 x).J 0 s) (K+28):=k.follow (by omega) u.2;have r:Inv s N (fQ (cD 3 x).J 0 s):=hs.follow
 have w:(fQ (cD 3 x).J 0 s).il=.gv/\(fQ (cD 3 x).J 0 s).dB=[]:=by
  unfold fQ;split
  .exact⟨i.snap,i.Mx⟩
  exact⟨i.snap,i.Mx⟩
 refine Good.ite (fun n=>?_) (fun n=>?_)
 .have T:(fQ (cD 3 x).J 0 s).term=(cD 3 x).J:=by unfold fQ;rw[if_pos n];rfl
  have a:=g _ r D w.1 w.2 (by omega) (by omega);refine Good.ite (fun _=>.done (r.refuse.mono c) (cP.refuse (D.le (by omega)))) fun _=>?_;refine Good.ite (fun _=>a _ (.inl rfl)) fun _=>Good.ite (fun _=>a _ (.inr (.inl rfl))) fun _=>Good.ite (fun _=>a _ (.inr (.inr (.inl rfl)))) fun _=>Good.ite (fun _=>a _ (.inr (.inr (.inr (.inl rfl))))) fun _=>Good.ite (fun e=>a _ (.inr (.inr (.inr (.inr (.inl ⟨rfl,e⟩)))))) fun _=>Good.ite (fun _=>a _ (.inr (.inr (.inr (.inr (.inr (.inl rfl))))))) fun _=>a _ (.inr (.inr (.inr (.inr (.inr (.inr rfl))))))
 refine Good.ite (fun _=>.done (hs.refuse.mono c) (cP.refuse (k.le (by omega)))) fun I=>?_;have a:=g _ hs k i.snap i.Mx (by simpa using I) (by simpa using n);refine Good.ite (fun _=>a _ (.inl rfl)) fun _=>Good.ite (fun _=>a _ (.inr (.inl rfl))) fun _=>Good.ite (fun _=>a _ (.inr (.inr (.inl rfl)))) fun _=>Good.ite (fun _=>a _ (.inr (.inr (.inr (.inl rfl))))) fun _=>Good.ite (fun e=>a _ (.inr (.inr (.inr (.inr (.inl ⟨rfl,e⟩)))))) fun _=>Good.ite (fun _=>a _ (.inr (.inr (.inr (.inr (.inr (.inl rfl))))))) fun _=>a _ (.inr (.inr (.inr (.inr (.inr (.inr rfl))))))
def Lx(h:Bs N s)(i:Idle s)(k:cP C M s (K+20)):Good C M K (N+1) s ((bD x s).1.2.2,(bD x s).2):=by
 have hs:=h.inv i;have J:N<=N+1:=by omega
 unfold bD;dsimp only;by_cases v:(yO (aE 27 x []) s !=0)=true
 .rw[if_pos v];exact .done (hs.mono J) (k.le (by omega))
 rw[if_neg v];have u:yO (aE 27 x []) s=0:=by simpa using v
 have q:cP C M (oc (aE 27 x []) s).2 (K+19):=k.put (JU u);have w:Inv s (N+1) (oc (aE 27 x []) s).2:=hs.put k i.snap;by_cases g:((oc (aE 27 x []) s).1.2 !=0)=true
 .rw[if_pos g];exact .done w (q.le (by omega))
 rw[if_neg g];have d:=iy (c:=aE 2 (dU (oc (aE 27 x []) s).2) []) (s:=(oc (aE 27 x []) s).2) (iQ q);generalize oc (aE 27 x []) s=jX at q w d;generalize gq (aE 2 (dU jX.2) []) jX.2=l at d;obtain⟨P,F⟩:=d;unfold kH;refine gO (fun a:Int×RS=>0<=a.1/\a.1<=l.length/\Inv s (N+1) a.2/\cP C M a.2 (K+1+(10-a.1.toNat))) (fun y:(D×Int×D)×RS=>Good C M K (N+1) s (y.1.2.2,y.2)) (fun a=>l.length-a.1.toNat) ?_ _ _ ⟨aJ 0,eB _,w,q.le (by show K+1+(10-0)<=_;omega)⟩ (du _);intro a I;revert I;generalize a.2=t;generalize a.1=j;rintro⟨R,Q,r,f⟩;unfold ir;dsimp only;by_cases e:decide (j<(l.length:Int))=true
 .rw[if_pos e];rw[bg]at e;have m:j.toNat<l.length:=by omega
  have E:=F _ (aF m);have H:l.getD j.toNat .top=l[j.toNat]:=by rw[ag,aR m];rfl
  rw[H,wrap64 (by omega) (by omega)];generalize (l[j.toNat]).J=n at E;have B:l.length-(j+1).toNat<l.length-j.toNat:=by omega
  have L:cP C M t (K+1+(10-(j+1).toNat)):=f.le (by omega);have p:∀n,1<=n->n<=5->(0<=j+1/\j+1<=(l.length:Int)/\Inv s (N+1) (fx n t)/\cP C M (fx n t) (K+1+(10-(j+1).toNat)))/\l.length-(j+1).toNat<l.length-j.toNat:=fun n O A=>⟨⟨by omega,by omega,r.lD f (by omega) A,cP.lD (f.le (by omega)) (by omega) A⟩,B⟩;have o:(0<=j+1/\j+1<=(l.length:Int)/\Inv s (N+1) t/\cP C M t (K+1+(10-(j+1).toNat)))/\l.length-(j+1).toNat<l.length-j.toNat:=⟨⟨by omega,by omega,r,L⟩,B⟩;have G:n=1\/n=2\/n=3\/n=4\/n=5:=by omega
  rcases G with rfl|rfl|rfl|rfl|rfl<;>(repeat (first|rw[if_pos (by decide)] |rw[if_neg (by decide)]))
  all_goals first
   |(by_cases b:(t.BM==(cD 0 jX.1.1).J)=true
     .rw[if_pos b];exact p 1 (by decide) (by decide)
     rw[if_neg b];exact o)
   |(by_cases b:(t.rl==(cD 0 jX.1.1).J)=true
     .rw[if_pos b];exact p 2 (by decide) (by decide)
     rw[if_neg b];exact o)
   |(by_cases b:(t.rk==(cD 0 jX.1.1).J)=true
     .rw[if_pos b];exact p 3 (by decide) (by decide)
     rw[if_neg b];exact o)
   |(by_cases b:(t.rh==(cD 0 jX.1.1).J)=true
     .rw[if_pos b];exact p 4 (by decide) (by decide)
     rw[if_neg b];exact o)
   |(by_cases b:(t.rf==(cD 0 jX.1.1).J)=true
     .rw[if_pos b];exact p 5 (by decide) (by decide)
     rw[if_neg b];exact o)
 rw[if_neg e];exact .done (r.agree (f.le (by omega:K+1<=_))) (cP.agree (f.le (by omega)))
def Qn:Nat->List Int
 |0|1=>[1,2,3]
 |2|3=>[1,2,3,4]
 |_=>[1,2,3,4,5]
def cfL:Nat->List Int
 |1=>[4]
 |3=>[5]
 |_=>[]
def nZ(k:Nat):D:=cf (Qn k) (cfL k)
def ck(ks:Tai):Nat:=ks.foldl (fun c k=>if k=0 then c else k) 0
def R6{ks:Tai}{i k:Nat}(h:ks[i]?=some k):ck (ks.take (i+1))=if k=0 then ck (ks.take i) else k:=by unfold ck;rw[ca,h,dQ,List.foldl_append];rfl
structure Hg(i k:Nat)(e:D):Prop where
 ix:ix e=(i:Int)+1
 tm:tm e=1
 k4:k<=4
 nc:k=0->(cD 2 e).J≠2
 cf:k≠0->(cD 2 e).J=2/\(e.V.drop 27).take 2=(nZ k).V
structure EL(E:Tah)(ks:Tai):Prop where
 len:ks.length=E.length
 at_:∀(i:Nat) e k,E[i]?=some e->ks[i]?=some k->Hg i k e
def EL.get{E:Tah}{ks:Tai}(h:EL E ks){i:Nat}{e:D}(b:E[i]?=some e):∃k,ks[i]?=some k/\Hg i k e:=by
 have a:i<ks.length:=by rw[h.len];exact(aD.1 b).1
 exact⟨ks[i],aR a,h.at_ i e _ b (aR a)⟩
def EL.mem{E:Tah}{ks:Tai}(h:EL E ks){e:D}(b:e∈E):∃i k,Hg i k e:=by obtain⟨i,a⟩:=au b;obtain⟨k,_,c⟩:=h.get a;exact⟨i,k,c⟩
def EL.push{E:Tah}{ks:Tai}(h:EL E ks){e:D}{k:Nat}(d:Hg E.length k e):EL (E++[e]) (ks++[k]):=by
 refine⟨by simp[h.len],fun i x j a b=>?_⟩;rcases eK i E.length with c|c
 .rw[ak c]at a;rw[ak (by rw[h.len];exact c)]at b;exact h.at_ i x j a b
 rw[ay c]at a;rw[ay (by rw[h.len];exact c),h.len]at b
 match hq:i-E.length,a,b with
 |0,a,b=>
  injection a with a;injection b with b;subst a;subst b;rw[show i=E.length by omega];exact d
 |n+1,a,b=>simp at a
def Hg.may{i k:Nat}{e:D}(h:Hg i k e):(pv e&& !gp (SE e))=false:=by
 unfold pv;rcases fq k with a|a
 .rw[show((cD 2 e).J==2)=false from by simpa using h.nc a];rfl
 obtain⟨_,c⟩:=h.cf (by omega)
 have d:SE e=nZ k:=by
  unfold SE
  have g:cD 27 e=((e.V.drop 27).take 2).getD 0 .top:=by unfold cD;simp[ag]
  have f:cD 28 e=((e.V.drop 27).take 2).getD 1 .top:=by unfold cD;simp[ag]
  rw[g,f,c];rfl
 rw[d];have b:=h.k4
 have:gp (nZ k)=true:=by
  match k,b with
  |0,_|1,_|2,_|3,_|4,_=>decide
 rw[this];simp
def EL.QJ{E l:Tah}{ks:Tai}(h:EL E ks)(a:∀e∈l,e∈E):eF l=true:=by unfold eF;rw[cI,List.any_eq_false];intro e b;obtain⟨i,k,c⟩:=h.mem (a e b);rw[c.may];decide
def EL.ch{E:Tah}{ks:Tai}(h:EL E ks)(d:E.length<=1000):∀(m f:Nat) (t:Int),t<=1->qW f t ((E.drop f).take m)=true
 |0,f,t,ht=>by rw[fN];rfl
 |m+1,f,t,ht=>by
  rcases hx:E[f]? with _|e
  .rw[List.drop_eq_nil_of_le (by rw[dp]at hx;exact hx)];rfl
  obtain⟨k,_,a⟩:=h.get hx;have c:=(aD.1 hx).1
  have g:E.drop f=e::E.drop (f+1):=by rw[bJ c,(aD.1 hx).2]
  rw[g,dF,im,a.ix,a.tm];have b:=h.ch d m (f+1) 1 (aJ 1);exact⟨rfl,ht,by simp only[MX];omega,by decide,b⟩
def EL.term{E:Tah}{ks:Tai}(h:EL E ks){n:Nat}{p:Int}(c:0<p):gA 0 0 (E.take n) p=if p<=n/\p<=E.length then(1,0) else(0,3):=by
 rw[KM c];split
 .rename_i x a;rw[aC]at a;split at a
  .obtain⟨k,_,b⟩:=h.get a;have:=(aD.1 a).1;rw[if_pos (by omega),b.tm]
  cases a
 rename_i a;rw[aC]at a;rw[if_neg];rintro⟨b,d⟩;rw[if_pos (by omega),dp]at a;omega
def EL.acc{E:Tah}{ks:Tai}(h:EL E ks){n:Nat}(c:n<=E.length):∀(m f:Nat),f<=n->f+m<=E.length->
  qZ 0 0 (E.take n) ((E.drop f).take m)=if f+m<=n then(0,E.take n) else((n:Int)+1,E.take (f+m))
 |0,f,hf,hm=>by rw[fN,if_pos (by omega)];rfl
 |m+1,f,hf,hm=>by
  have a:f<E.length:=by omega
  obtain⟨k,_,b⟩:=h.get (aR a);rw[bJ a,dF];unfold qZ;unfold wV;rw[b.ix,h.term (by omega),b.tm];by_cases d:f<n
  .rw[if_pos (show((f:Int)+1<=n/\(f:Int)+1<=E.length) by omega)];rw[if_pos (by decide),h.acc c m (f+1) (by omega) (by omega)];rw[show f+1+m=f+(m+1) by omega]
  have e:f=n:=by omega
  subst e;rw[if_neg (show¬((f:Int)+1<=f/\(f:Int)+1<=E.length) by omega)];rw[if_neg (by decide),if_neg (by omega)];congr 1;rw[show((f:Int)+1-0-1).toNat=f by omega,List.take_take,Nat.min_self,<-dF,<-bJ a,<-List.take_add]
structure Pfx(E:Tah)(ks:Tai)(n:Nat)(s:RS):Prop where
 el:EL E ks
 b:E.length<=1000
 n1:n<=E.length
 li:s.li=0
 lt:s.lt=0
 le:s.le=E.take n
 fv:s.fv=[.int i64 1,.int i64 2,.int i64 3]
 fl:s.fl=[]
variable{E:Tah}{ks:Tai}{n:Nat}{s t:RS}
def Pfx.same(h:Pfx E ks n s)(e:(t.li,t.lt,t.le,t.fv,t.fl)=(s.li,s.lt,s.le,s.fv,s.fl)):Pfx E ks n t:=by simp only[ae]at e;obtain⟨g,f,d,c,a⟩:=e;exact⟨h.el,h.b,h.n1,g.trans h.li,f.trans h.lt,d.trans h.le,c.trans h.fv,a.trans h.fl⟩
def Pfx.last(h:Pfx E ks n s):(fW s.li s.lt s.le).1=(n:Int):=by show s.li+(s.le.length:Int)=_;rw[h.li,h.le,aO];have:=h.n1;omega
def Pfx.slice(h:Pfx E ks n s){f m:Int}(b:1<=f)(a:1<=m):fi s.li s.lt s.le f m=((E.take n).drop (f-1).toNat).take m.toNat:=by show fG s.li s.le f m=_;unfold fG;rw[h.li,h.le,if_neg (by omega),show(f-0-1).toNat=(f-1).toNat by omega]
def Pfx.term(h:Pfx E ks n s){p:Int}(c:0<p):ny s.li s.lt s.le p=if p<=n then(1,0) else(0,3):=by
 show gA s.li s.lt s.le p=_;rw[h.li,h.lt,h.le,h.el.term c];have:=h.n1;by_cases b:p<=n
 .rw[if_pos b,if_pos ⟨b,by omega⟩]
 rw[if_neg b,if_neg (fun a=>b a.1)]
def Pfx.ME(h:Pfx E ks n s):ny s.li s.lt s.le 0=(0,0):=by show gA s.li s.lt s.le 0=_;unfold gA;rw[h.li,h.lt,if_neg (by omega),if_pos rfl]
def Pfx.zQ(h:Pfx E ks n s):dU s=nZ (ck (ks.take n)):=by
 have p:xS (n:Int) s=nZ (ck (ks.take n)):=by
  unfold xS rP;have F:=h.b;have w:=h.n1;refine gO (fun a:Int×Tah×Tah=>0<=a.1/\a.1<=n/\ck (ks.take a.1.toNat)=ck (ks.take n)) (fun d=>d=nZ (ck (ks.take n))) (fun a=>a.1.toNat) ?_ _ _ ⟨by omega,by omega,by simp⟩ (by show((n:Int)).toNat<_;unfold AK;show _<((n:Int)-s.li).toNat+1;rw[h.li];omega);rintro⟨i,j,k⟩ ⟨C,B,o⟩;simp only at C B o;unfold nL;by_cases m:decide (i>(jZ s.li s.lt s.le).1)=true
  .rw[if_pos m];have l:0<i:=by have:=of_decide_eq_true m;have e:(jZ s.li s.lt s.le).1=s.li:=rfl;rw[e,h.li]at this;exact this
   dsimp only;have r:(i-1).toNat<E.length:=by omega
   obtain⟨c,y,v⟩:=h.el.get (aR r)
   have q:fi s.li s.lt s.le i 1=[E[(i-1).toNat]]:=by
    rw[h.slice (by omega) (by omega)];have x:(i-1).toNat<(E.take n).length:=by rw[aO];omega
    rw[bJ x,show(1:Int).toNat=0+1 from rfl,dF,fN,List.getElem_take]
   rw[q]
   have f:ck (ks.take i.toNat)=if c=0 then ck (ks.take (i-1).toNat) else c:=by
    have:=R6 y
    rwa [show(i-1).toNat+1=i.toNat by omega]at this
   by_cases g:c=0
   .rw[if_neg (by intro u;rw[aP,beq_iff_eq,beq_iff_eq]at u;exact v.nc g u.2)]
    rw[wrap64 (by omega) (by omega)];rw[if_pos g]at f;exact⟨⟨by show 0<=i-1;omega,by show i-1<=_;omega,by show ck (ks.take (i-1).toNat)=_;rw[<-f,o]⟩,by show(i-1).toNat<i.toNat;omega⟩
   obtain⟨A,z⟩:=v.cf g
   rw[if_pos (by rw[aP,beq_iff_eq,beq_iff_eq];exact⟨rfl,A⟩)]
   rw[if_neg g,o]at f;show aE 2 (D.agg ((E[(i-1).toNat].V.drop 27).take 2)) []=_;rw[z,f];rfl
  rw[if_neg m]
  have l:i=0:=by have e:(jZ s.li s.lt s.le).1=s.li:=rfl;rw[e,h.li,bg]at m;omega
  subst l;show nN s (jZ s.li s.lt s.le)=_;unfold nN;have e:(jZ s.li s.lt s.le).1=s.li:=rfl;rw[e,h.li,if_neg (by decide),h.fv,h.fl,<-o];rfl
 unfold dU;dsimp only;rw[h.last,p];rfl
variable{E:Tah}{ks:Tai}{n:Nat}{s t:RS}
inductive AM where
 |app (to p k c:Nat)
 |Ja (fr i:Nat) (re:Bool)
structure Wx(E:Tah)(to p k c:Nat)(m:D):Prop where
 k0:cD 0 m=.int i64 3
 fr:cD 1 m=.int i64 1
 YR:cD 2 m=.int i64 (to:Int)
 tm:cD 3 m=.int i64 1
 ix:cD 4 m=.int i64 (p:Int)
 lt:cD 5 m=.int i64 (if p=0 then 0 else 1)
 cm:cD 6 m=.int i64 (c:Int)
 cx:cD 8 m=.int i64 0
 es:cD 12 m=.list ((E.drop p).take k)
 le:p+k<=E.length
structure MA(fr i:Nat)(re:Bool)(m:D):Prop where
 k0:cD 0 m=.int i64 4
 fr:cD 1 m=.int i64 (fr:Int)
 YR:cD 2 m=.int i64 1
 tm:cD 3 m=.int i64 1
 ix:cD 4 m=.int i64 (i:Int)
 lt:cD 5 m=.int i64 0
 rj:cD 7 m=.bool re
 cx:cD 8 m=.int i64 0
 es:cD 12 m=.list []
def MR(E:Tah):AM->D->Prop
 |.app to p k c,m=>Wx E to p k c m
 |.Ja fr i re,m=>MA fr i re m
structure SA where
 n:Nat
 c:Nat
 t:Int
 v:Int
 w:Int
 e:Int
structure SR(E:Tah)(ks:Tai)(i r:Int)(a:SA)(s:RS):Prop extends Pfx E ks a.n s where
 id:s.id=i
 role:s.role=r
 term:s.term=a.t
 vote:s.vote=a.v
 mI:s.bH=(a.c:Int)
 cn:a.c<=a.n
 wait:s.wait=a.w
 end_ : s.end_ = a.e
 rd:s.reads=[]
 I1:s.round=0
def sJ(s:RS):=(s.li,s.lt,s.le,s.fv,s.fl,s.id,s.role,s.term,s.vote,s.bH,s.wait,s.end_,s.reads,s.round)
def SR.same{i r:Int}{a:SA}(h:SR E ks i r a s)(e:sJ t=sJ s:=by rfl):SR E ks i r a t:=by simp only[sJ,ae]at e;obtain⟨u,q,p,o,m,l,k,j,e9,g,f,d,c,b⟩:=e;exact⟨h.toPfx.same (by rw[u,q,p,o,m]),l.trans h.id,k.trans h.role,j.trans h.term,e9.trans h.vote,g.trans h.mI,h.cn,f.trans h.wait,d.trans h.end_,c.trans h.rd,b.trans h.I1⟩
def zh(E:Tah):List AM->Tah->Prop
 |[],[]=>True
 |a::l,m::r=>MR E a m/\zh E l r
 |_,_=>False
def zh.append{E:Tah}:∀{c l2:List AM} {b a:Tah},zh E c b->zh E l2 a->zh E (c++l2) (b++a)
 |[],_,[],_,_,h=>h
 |_::_,_,_::_,_,h1,h2=>⟨h1.1,h1.2.append h2⟩
 |[],_,_::_,_,h,_=>h.elim
 |_::_,_,[],_,h,_=>h.elim
def zh.len{E:Tah}:∀{l:List AM} {r:Tah},zh E l r->r.length=l.length
 |[],[],_=>rfl
 |_::_,_::_,h=>by rw[bu,bu,h.2.len]
 |[],_::_,h=>h.elim
 |_::_,[],h=>h.elim
def L6(E:Tah)(ks:Tai)(i r:Int)(a:SA)(ams:List AM)(c0:Nat)(y:D×RS):Prop:=
 ∃u,y=((bk u).1,(bk u).2)/\SR E ks i r a u/\zh E ams u.msgs/\u.aW=(E.take a.c).drop c0
def L6.done{i r:Int}{a:SA}{ams:List AM}{c0:Nat}{u:RS}(h:SR E ks i r a u)(b:zh E ams u.msgs)(d:u.aW=(E.take a.c).drop c0):L6 E ks i r a ams c0 (aE 8 (bk u).1 [],(bk u).2):=⟨u,rfl,h,b,d⟩
def iR{l:Tah}{c:Nat}:(l.take c).drop c=[]:=List.drop_eq_nil_of_le (by rw[aO];omega)
def SR.tick{i x:Int}{a:SA}(h:SR E ks i 0 a s)(j:Idle s)(g:0<=x)(k:x<=100)(o:0<=a.w)(d:a.w+1<(if a.e=0 then 10+x.tmod 10 else a.e))(m:a.w<=1000):
  L6 E ks i 0 {a with w:=a.w+1,e:=if a.e=0 then 10+x.tmod 10 else a.e} [] a.c (gX x s):=by
 have l:x.tmod 10<10/\0<=x.tmod 10:=⟨Int.tmod_lt_of_pos x (by decide),Int.tmod_nonneg 10 g⟩
 have b:∀e:Int,L6 E ks i 0 {a with w:=a.w+1,e:=e} [] a.c (aE 8 (bk ({s with wait:=a.w+1,end_:=e}:RS)).1 [],(bk ({s with wait:=a.w+1,end_:=e}:RS)).2):=fun e=>
  .done ⟨h.toPfx.same rfl,h.id,h.role,h.term,h.vote,h.mI,h.cn,rfl,rfl,h.rd,h.I1⟩ (by rw[show _=([]:Tah) from j.msgs];exact trivial) (by rw[show _=([]:Tah) from j.mI];exact iR.symm)
 by_cases f:a.e=0
 .rw[if_pos f]at d⊢;unfold gX;rw[if_neg (by rw[h.role];decide),wrap64 (n:=s.wait+1) (by rw[h.wait];omega) (by rw[h.wait];omega),h.wait,h.end_];rw[if_pos (by rw[f];rfl),if_neg (by simpa using g),wrap64 (n:=10+x.tmod 10) (by omega) (by omega),if_neg (by simpa using d)];exact b _
 rw[if_neg f]at d⊢;unfold gX;rw[if_neg (by rw[h.role];decide),wrap64 (n:=s.wait+1) (by rw[h.wait];omega) (by rw[h.wait];omega),h.wait,h.end_];rw[if_neg (by simpa using f),if_neg (by simpa using d)];exact b _
def SR.abd{i x:Int}{a:SA}(h:SR E ks i 0 a s)(k:Idle s)(g:0<=x)(l:x<=100)(r:0<=a.w)(j:¬a.w+1<(if a.e=0 then 10+x.tmod 10 else a.e))(q:a.w<=1000)(m:jo (nZ (ck (ks.take a.n))) i=false):
  L6 E ks i 0 {a with w:=0,e:=0} [] a.c (gX x s):=by
 have p:x.tmod 10<10/\0<=x.tmod 10:=⟨Int.tmod_lt_of_pos x (by decide),Int.tmod_nonneg 10 g⟩
 have b:∀w e:Int,(if(jo (aE 2 (dU (ib {s with wait:=w,end_:=e})) []) (ib {s with wait:=w,end_:=e}).id&&(decide ((ib {s with wait:=w,end_:=e}).term<1099511627776))) then(aE 8 (bk (lG (aE 2 (dU (ib {s with wait:=w,end_:=e})) []) (ib {s with wait:=w,end_:=e}))).1 [],(bk (lG (aE 2 (dU (ib {s with wait:=w,end_:=e})) []) (ib {s with wait:=w,end_:=e}))).2) else(aE 8 (bk (ib {s with wait:=w,end_:=e})).1 [],(bk (ib {s with wait:=w,end_:=e})).2))=(aE 8 (bk ({s with wait:=0,end_:=0}:RS)).1 [],(bk ({s with wait:=0,end_:=0}:RS)).2):=by intro w e;have o:dU (ib {s with wait:=w,end_:=e})=nZ (ck (ks.take a.n)):=(h.toPfx.same (t:=ib {s with wait:=w,end_:=e}) rfl).zQ;rw[o,show(ib {s with wait:=w,end_:=e}).id=i from h.id,show jo (aE 2 (nZ (ck (ks.take a.n))) []) i=false from m,if_neg (by simp)];rfl
 have d:L6 E ks i 0 {a with w:=0,e:=0} [] a.c (aE 8 (bk ({s with wait:=0,end_:=0}:RS)).1 [],(bk ({s with wait:=0,end_:=0}:RS)).2):=
  .done ⟨h.toPfx.same rfl,h.id,h.role,h.term,h.vote,h.mI,h.cn,rfl,rfl,h.rd,h.I1⟩ (by rw[show _=([]:Tah) from k.msgs];exact trivial) (by rw[show _=([]:Tah) from k.mI];exact iR.symm)
 by_cases f:a.e=0
 .rw[if_pos f]at j;unfold gX;rw[if_neg (by rw[h.role];decide),wrap64 (n:=s.wait+1) (by rw[h.wait];omega) (by rw[h.wait];omega),h.wait,h.end_];rw[if_pos (by rw[f];rfl),if_neg (by simpa using g),wrap64 (n:=10+x.tmod 10) (by omega) (by omega),if_pos (decide_eq_true (by omega))];dsimp only;rw[b];exact d
 rw[if_neg f]at j;unfold gX;rw[if_neg (by rw[h.role];decide),wrap64 (n:=s.wait+1) (by rw[h.wait];omega) (by rw[h.wait];omega),h.wait,h.end_];rw[if_neg (by simpa using f),if_pos (decide_eq_true (by omega))];dsimp only;rw[b];exact d
def BY(i p k c:Nat)(a:SA):SA×AM:=
 let b:SA:={a with t:=1,v:=if a.t<1 then 0 else a.v,w:=0,e:=0}
 if p<a.c then(b,.Ja i a.c false)
 else if a.n<p then(b,.Ja i (min a.n (p-1)) true)
 else({b with n:=max a.n (p+k),c:=max a.c (min c (p+k))},.Ja i (p+k) false)
def yE{E:Tah}{n c x:Nat}(h:Pfx E ks n s)(d:s.bH=(c:Int))(f:x<=n)(hs:s.aW=[]):
  ∃b,gK (x:Int) s=(b,{s with aW:=(E.take (max c x)).drop c,bH:=((max c x:Nat):Int)}):=by
 have i:=h.b;have g:=h.n1;unfold gK;by_cases a:(x:Int)<=s.bH
 .rw[if_pos (decide_eq_true a)];rw[d]at a;refine⟨false,?_⟩;rw[show max c x=c by omega,iR,<-hs,<-d]
 rw[if_neg (by simpa using a)];rw[d]at a;refine⟨_,Prod.ext rfl ?_⟩;dsimp only
 have e:fi s.li s.lt s.le (i64.wrap (s.bH+1)) (i64.wrap ((x:Int)-s.bH))=(E.take (max c x)).drop c:=by rw[d,wrap64 (by omega) (by omega),wrap64 (by omega) (by omega),h.slice (by omega) (by omega)];rw[show((c:Int)+1-1).toNat=c by omega,show((x:Int)-(c:Int)).toNat=x-c by omega,show max c x=x by omega];rw[List.take_drop,List.take_take,show min (c+(x-c)) n=x by omega]
 rw[e,hs,show((max c x:Nat):Int)=(x:Int) by omega];rfl
def SR.app{to p k c:Nat}{a:SA}{m:D}(h:SR E ks (to:Int) 0 a s)(P:Idle s)(O:2<=to/\to<=5)(b2:a.t<=1)(q:Wx E to p k c m)(hc:c<=1000):
  L6 E ks (to:Int) 0 (BY to p k c a).1 [(BY to p k c a).2] a.c (iX m s):=by
 have hb:=h.b;have a4:=h.n1;have b1:=h.cn;have a6:=q.le;have R:(cD 0 m).J=3:=by rw[q.k0];rfl
 have e1:(cD 1 m).J=1:=by rw[q.fr];rfl
 have e2:(cD 2 m).J=to:=by rw[q.YR];rfl
 have Q:(cD 3 m).J=1:=by rw[q.tm];rfl
 have e4:(cD 4 m).J=p:=by rw[q.ix];rfl
 have e5:(cD 5 m).J=if p=0 then 0 else 1:=by rw[q.lt];rfl
 have e6:(cD 6 m).J=c:=by rw[q.cm];rfl
 have N:(cD 12 m).V=(E.drop p).take k:=by rw[q.es];rfl
 have K:∀e∈(E.drop p).take k,e∈E:=fun e he=>dx (cV he);have a7:((E.drop p).take k).length=k:=by rw[aO,bh];omega
 have H:∀j:Nat,j<((E.drop p).take k).length->(cD 1 (((E.drop p).take k).getD j .top)).J=1:=by intro j hj;rw[ag,aR hj,bq];obtain⟨i,kk,hk⟩:=h.el.mem (K _ (aF hj));exact hk.tm
 have a2:∃o,iX m s=Kr m o/\SR E ks (to:Int) 0 {a with t:=1,v:=if a.t<1 then 0 else a.v} o/\o.msgs=[]/\o.aW=[]:=by
  unfold iX
  rw[if_neg (by
   rw[N,h.el.QJ K,Q,e5];simp only[Bool.not_true,Bool.or_false,bI,bg,aP];rintro(f|⟨f,hr⟩)
   .split at f<;>omega
   rw[H _ (by rw[wrap64 (by omega) (by omega)];omega)]at hr;omega)]
  rw[if_neg (by
   rw[R,e1,e2,Q,h.id];simp only[nY];rw[bI,bI,cI];rintro((f|f)|f)
   .rw[bY,bY,bY]at f;rcases f with((f|f)|f)|f
    .simp at f
    .have:(1:Int)≠to:=by omega
     simp[this]at f
    .exact absurd f (by decide)
    exact absurd f (by decide)
   .exact absurd f (by decide)
   exact absurd f (by decide))]
  rw[Q];by_cases y:(1:Int)>s.term
  .rw[if_pos (decide_eq_true y)];rw[h.term]at y
   have hf:fQ 1 0 s=({s with save:=true,term:=1,vote:=0,role:=0,br:=0,aT:=[],reads:=[]}:RS):=by unfold fQ;rw[if_pos (by rw[h.term];exact decide_eq_true y)];rfl
   rw[hf];exact⟨_,rfl,⟨h.toPfx.same rfl,h.id,rfl,rfl,by rw[if_pos (show a.t<1 by omega)],h.mI,h.cn,h.wait,h.end_,rfl,h.I1⟩,P.msgs,P.mI⟩
  rw[if_neg (by simpa using y)];rw[h.term]at y;exact⟨s,rfl,⟨h.toPfx,h.id,h.role,by rw[h.term];show a.t=1;omega,by rw[if_neg (show¬a.t<1 by omega)];exact h.vote,h.mI,h.cn,h.wait,h.end_,h.rd,h.I1⟩,P.msgs,P.mI⟩
 obtain⟨o,f,r,a5,a8⟩:=a2;rw[f];unfold Kr;rw[if_neg (by rw[Q,r.term];show¬decide ((1:Int)<1)=true;decide),if_neg (by rw[R];decide),if_neg (by rw[R];decide),if_pos (by rw[R];decide)];show L6 E ks (to:Int) 0 (BY to p k c a).1 [(BY to p k c a).2] a.c (aE 8 (bk (kW (aE 46 m []) o)).1 [],(bk (kW (aE 46 m []) o)).2)
 have hh:gJ (aE 46 (aE 46 m []) []) o=(true,({o with role:=0,br:=(cD 1 m).J,aT:=[],reads:=[],wait:=0,end_:=0}:RS)):=by unfold gJ;rw[if_neg (by rw[r.role];decide)];unfold fQ;rw[if_neg (by simp)];rfl
 have d:SR E ks (to:Int) 0 {a with t:=1,v:=if a.t<1 then 0 else a.v,w:=0,e:=0} ({o with role:=0,br:=(cD 1 m).J,aT:=[],reads:=[],wait:=0,end_:=0}:RS):=
  ⟨r.toPfx.same rfl,r.id,rfl,r.term,r.vote,r.mI,r.cn,rfl,rfl,rfl,r.I1⟩
 unfold kW;rw[hh];have A:({o with role:=0,br:=(cD 1 m).J,aT:=[],reads:=[],wait:=0,end_:=0}:RS).msgs=[]:=a5;have B:({o with role:=0,br:=(cD 1 m).J,aT:=[],reads:=[],wait:=0,end_:=0}:RS).aW=[]:=a8;generalize ({o with role:=0,br:=(cD 1 m).J,aT:=[],reads:=[],wait:=0,end_:=0}:RS)=u at d A B;rw[if_neg (show¬(!true)=true by decide)];dsimp only
 have z:∀(v:RS) (b:SA) (i:Nat) (re:Bool) (l:List (Nat×D)),SR E ks (to:Int) 0 b v->v.msgs=[]->v.aW=(E.take b.c).drop a.c->b.t=1->l=[(0,D.int i64 4),(2,cD 1 m),(4,D.int i64 (i:Int)),(7,D.bool re),(8,cD 8 m)] \/(re=false/\l=[(0,D.int i64 4),(2,cD 1 m),(4,D.int i64 (i:Int)),(8,cD 8 m)])->
   L6 E ks (to:Int) 0 b [.Ja to i re] a.c (aE 8 (bk (gH (aE 46 nr l) v)).1 [],(bk (gH (aE 46 nr l) v)).2):=by
  intro v b i re l F a0 a1 L hl;refine .done (u:=gH (aE 46 nr l) v) F.same ?_ a1;show zh E _ (v.msgs++[_]);rw[a0];refine⟨?_,trivial⟩;show MA to i re _;rcases hl with rfl|⟨rfl,rfl⟩
  .exact⟨rfl,by show D.int i64 v.id=_;rw[F.id],q.fr,by show D.int i64 v.term=_;rw[F.term,L],rfl,rfl,rfl,q.cx,rfl⟩
  exact⟨rfl,by show D.int i64 v.id=_;rw[F.id],q.fr,by show D.int i64 v.term=_;rw[F.term,L],rfl,rfl,rfl,q.cx,rfl⟩
 have f4:(cD 4 (aE 46 m [])).J=p:=e4;have f5:(cD 5 (aE 46 m [])).J=if p=0 then 0 else 1:=e5
 have f6:(cD 6 (aE 46 m [])).J=c:=e6;have b0:(cD 12 (aE 46 m [])).V=(E.drop p).take k:=N;rw[f4,f5,f6,b0,a7];unfold BY;dsimp only;generalize (if a.t<1 then(0:Int) else a.v)=vv at d⊢;by_cases I:p<a.c
 .have g:decide ((p:Int)<u.bH)=true:=by rw[d.mI];exact decide_eq_true (by show(p:Int)<(a.c:Int);omega)
  rw[if_pos I,if_pos g,d.mI];exact z u _ a.c false _ d A (by rw[B];exact iR.symm) rfl (.inr ⟨rfl,rfl⟩)
 rw[if_neg I];have g:¬decide ((p:Int)<u.bH)=true:=by rw[d.mI];simpa using (by omega:¬p<a.c)
 have Z:i64.wrap ((p:Int)+(k:Int))=((p+k:Nat):Int):=by rw[wrap64 (by omega) (by omega)];rfl
 have a3:(if p=0 then(0:Int) else 1)<=1:=by split<;>omega
 by_cases J:a.n<p
 .have C:jt u.li u.lt u.le p (if p=0 then 0 else 1) ((E.drop p).take k)=false:=by unfold jt;have O:=d.toPfx.term (p:=(p:Int)) (by omega);rw[show gA u.li u.lt u.le p=(0,3) by show ny u.li u.lt u.le p=_;rw[O,if_neg (by show¬(p:Int)<=(a.n:Int);omega)]];simp
  have ho:oK u.li u.lt u.le p (if p=0 then 0 else 1) ((E.drop p).take k)=((0,false),u.li,u.lt,u.le):=by unfold oK iv;rw[C];rfl
  rw[if_pos J,if_neg g,ho];dsimp only;rw[if_pos (show(!false)=true by decide)];rw[d.toPfx.last];rw[wrap64 (by omega) (by omega)];rw[show jy ((a.n:Nat):Int) ((p:Int)-1)=((min a.n (p-1):Nat):Int) by unfold jy;split<;>omega];exact z u _ (min a.n (p-1)) true _ d A (by rw[B];exact iR.symm) rfl (.inl rfl)
 rw[if_neg J]
 have C:jt u.li u.lt u.le p (if p=0 then 0 else 1) ((E.drop p).take k)=true:=by
  unfold jt
  have O:gA u.li u.lt u.le p=((if p=0 then 0 else 1),0):=by
   show ny u.li u.lt u.le p=_;rcases fq p with r|r
   .subst r;exact d.toPfx.ME
   rw[d.toPfx.term (by omega),if_pos (by show(p:Int)<=(a.n:Int);omega),if_neg (by omega)]
  rw[O,eS.2 ⟨⟨by omega,by simp only[MX];omega,by split<;>omega,by simp only[MX];split<;>omega⟩,h.el.ch hb k p _ a3⟩];simp
 have M:=h.el.acc a4 k p (by omega) a6
 have ho:oK u.li u.lt u.le p (if p=0 then 0 else 1) ((E.drop p).take k)=(((if p+k<=a.n then 0 else(a.n:Int)+1),true),0,0,E.take (max a.n (p+k))):=by
  have hf:iv u.li u.lt u.le p (if p=0 then 0 else 1) ((E.drop p).take k)=if p+k<=a.n then(0,E.take a.n) else((a.n:Int)+1,E.take (p+k)):=by unfold iv;rw[C,if_pos rfl,d.li,d.lt,show u.le=E.take a.n from d.le,M]
  unfold oK;rw[C,hf,d.li,d.lt];by_cases f:p+k<=a.n
  .rw[if_pos f,if_pos f,show max a.n (p+k)=a.n by omega]
  rw[if_neg f,if_neg f,show max a.n (p+k)=p+k by omega]
 rw[if_neg g,ho];dsimp only;rw[if_neg (show¬(!true)=true by decide)];rw[Z,show jy (c:Int) ((p+k:Nat):Int)=((min c (p+k):Nat):Int) by unfold jy;split<;>omega]
 have G:∀v:RS,(v.li,v.lt,v.le,v.fv,v.fl,v.id,v.role,v.term,v.vote,v.bH,v.wait,v.end_,v.reads,v.round,v.msgs,v.aW)=(0,0,E.take (max a.n (p+k)),u.fv,u.fl,u.id,u.role,u.term,u.vote,u.bH,u.wait,u.end_,u.reads,u.round,u.msgs,u.aW)->
   L6 E ks (to:Int) 0 {n:=max a.n (p+k),c:=max a.c (min c (p+k)),t:=1,v:=vv,w:=0,e:=0} [.Ja to (p+k) false] a.c (aE 8 (bk (gH (aE 46 nr [(0,D.int i64 4),(2,(cD 1 (aE 46 m []))),(4,D.int i64 ((p+k:Nat):Int)),(8,(cD 8 (aE 46 m [])))]) (gK ((min c (p+k):Nat):Int) v).2)).1 [],(bk (gH (aE 46 nr [(0,D.int i64 4),(2,(cD 1 (aE 46 m []))),(4,D.int i64 ((p+k:Nat):Int)),(8,(cD 8 (aE 46 m [])))]) (gK ((min c (p+k):Nat):Int) v).2)).2):=by intro v F;simp only[ae]at F;obtain⟨v1,v2,v3,v4,v5,v6,v7,v8,v9,Y,X,W,V,U,T,S⟩:=F;have hp:Pfx E ks (max a.n (p+k)) v:=⟨h.el,hb,by omega,v1,v2,v3,v4.trans d.fv,v5.trans d.fl⟩;obtain⟨bb,a9⟩:=yE (c:=a.c) (x:=min c (p+k)) hp (Y.trans d.mI) (by omega) (S.trans B);rw[a9];exact z _ _ (p+k) false _ ⟨hp.same rfl,v6.trans d.id,v7.trans d.role,v8.trans d.term,v9.trans d.vote,rfl,by show max a.c (min c (p+k))<=max a.n (p+k);omega,X.trans d.wait,W.trans d.end_,V.trans d.rd,U.trans d.I1⟩ (T.trans A) rfl rfl (.inr ⟨rfl,rfl⟩)
 by_cases f:p+k<=a.n
 .rw[if_pos f,if_neg (show¬decide ((0:Int)>0)=true by decide)];refine G _ ?_;rfl
 rw[if_neg f,if_pos (show decide ((a.n:Int)+1>0)=true from decide_eq_true (by omega))];refine G _ ?_;rfl
variable{E:Tah}{ks:Tai}{n:Nat}{s t:RS}
structure PA where
 m2:Nat
 n2:Nat
 m3:Nat
 n3:Nat
 m4:Nat
 n4:Nat
 m5:Nat
 n5:Nat
def PA.mx(P:PA):Nat->Nat
 |2=>P.m2
 |3=>P.m3
 |4=>P.m4
 |_=>P.m5
def PA.nx(P:PA):Nat->Nat
 |2=>P.n2
 |3=>P.n3
 |4=>P.n4
 |_=>P.n5
def PA.set(P:PA)(x m n:Nat):PA:=match x with
 |2=>{P with m2:=m,n2:=n}
 |3=>{P with m3:=m,n3:=n}
 |4=>{P with m4:=m,n4:=n}
 |_=>{P with m5:=m,n5:=n}
structure PR(P:PA)(s:RS):Prop where
 m2:s.uZ=P.m2
 n2:s.rl=P.n2
 m3:s.uY=P.m3
 n3:s.rk=P.n3
 m4:s.uX=P.m4
 n4:s.rh=P.n4
 m5:s.uW=P.m5
 n5:s.rf=P.n5
structure SL(E:Tah)(ks:Tai)(a:SA)(P:PA)(s:RS):Prop extends SR E ks 1 2 a s,PR P s where
 t1:a.t=1
 all:a.n=E.length
def lJ(s:RS):=(s.uZ,s.rl,s.uY,s.rk,s.uX,s.rh,s.uW,s.rf)
def PR.same{P:PA}(h:PR P s)(e:lJ t=lJ s:=by rfl):PR P t:=by simp only[lJ,ae]at e;obtain⟨j,i,g,f,d,c,b,a⟩:=e;exact⟨j.trans h.m2,i.trans h.n2,g.trans h.m3,f.trans h.n3,d.trans h.m4,c.trans h.n4,b.trans h.m5,a.trans h.n5⟩
def SL.same{a:SA}{P:PA}(h:SL E ks a P s)(e:sJ t=sJ s:=by rfl)(b:lJ t=lJ s:=by rfl):SL E ks a P t:=⟨h.toSR.same e,h.toPR.same b,h.t1,h.all⟩
def Mh(P:PA)(n c x:Nat):AM:=.app x (P.nx x-1) (min 8 (n+1-P.nx x)) c
def yQ(P:PA)(n x:Nat):Bool:=decide (1<=P.nx x)&&decide (P.nx x<=n+1)
def SL.lk{a:SA}{P:PA}(h:SL E ks a P s){x nx:Nat}{o:Int}{so:RS}(j:1<=nx)(i:nx<=a.n+1):
  ∃m,L7 (x:Int) (nx:Int) o so s={s with msgs:=s.msgs++[m]}/\Wx E x (nx-1) (min 8 (a.n+1-nx)) a.c m:=by
 have g:=h.b;have f:=h.all;unfold L7;have e:(jZ s.li s.lt s.le).1=0:=h.li;rw[e,if_neg (by simpa using (by omega:¬(nx:Int)<=0)),wrap64 (by omega) (by omega)];refine⟨_,rfl,⟨rfl,?_,rfl,?_,?_,?_,?_,?_,?_,by omega⟩⟩
 .show D.int i64 s.id=_;rw[h.id]
 .show D.int i64 s.term=_;rw[h.term,h.t1]
 .show D.int i64 ((nx:Int)-1)=_;rw[show((nx:Int)-1)=((nx-1:Nat):Int) by omega]
 .show D.int i64 (ny s.li s.lt s.le ((nx:Int)-1)).1=_;by_cases d:nx-1=0
  .rw[if_pos d,show((nx:Int)-1)=0 by omega,h.toPfx.ME]
  rw[if_neg d,h.toPfx.term (by omega),if_pos (by omega)]
 .show D.int i64 s.bH=_;rw[h.mI]
 .show D.int i64 s.round=_;rw[h.I1]
 show D.list (fi s.li s.lt s.le (nx:Int) 8)=_;rw[h.toPfx.slice (by omega) (by omega),show((nx:Int)-1).toNat=nx-1 by omega,h.all,cH];congr 1;rw[List.take_eq_take_iff,bh,show(8:Int).toNat=8 from rfl];omega
def SL.lD{a:SA}{P:PA}(h:SL E ks a P s){x:Nat}(d:2<=x/\x<=5)(i:yQ P a.n x=true):∃m,fx (x:Int) s={s with msgs:=s.msgs++[m]}/\MR E (Mh P a.n a.c x) m:=by
 simp only[yQ,aP,bg]at i;obtain⟨g,f⟩:=i
 match x,d with
 |2,_=>obtain⟨m,e,b⟩:=h.lk (x:=2) (o:=ig s.Dm s) (so:={s with Dm:=ig s.Dm s}) g f;exact⟨m,(by rw[<-e,show((PA.nx P 2:Nat):Int)=s.rl from h.n2.symm];rfl),b⟩
 |3,_=>obtain⟨m,e,b⟩:=h.lk (x:=3) (o:=ig s.Dl s) (so:={s with Dl:=ig s.Dl s}) g f;exact⟨m,(by rw[<-e,show((PA.nx P 3:Nat):Int)=s.rk from h.n3.symm];rfl),b⟩
 |4,_=>obtain⟨m,e,b⟩:=h.lk (x:=4) (o:=ig s.Dk s) (so:={s with Dk:=ig s.Dk s}) g f;exact⟨m,(by rw[<-e,show((PA.nx P 4:Nat):Int)=s.rh from h.n4.symm];rfl),b⟩
 |5,_=>obtain⟨m,e,b⟩:=h.lk (x:=5) (o:=ig s.Dj s) (so:={s with Dj:=ig s.Dj s}) g f;exact⟨m,(by rw[<-e,show((PA.nx P 5:Nat):Int)=s.rf from h.n5.symm];rfl),b⟩
 |0,d|1,d=>omega
 |k+6,d=>omega
def Dp:Nat->Tai
 |0=>[2,3]
 |1|2=>[2,3,4]
 |_=>[2,3,4,5]
def Hr(k:Nat):∀x∈Dp k,2<=x/\x<=5:=by unfold Dp;split<;>decide
def JE{ks:Tai}(h:∀k∈ks,k<=4):ck ks<=4:=by
 unfold ck
 have:∀(l:Tai) (c:Nat),c<=4->(∀k∈l,k<=4)->l.foldl (fun c k=>if k=0 then c else k) c<=4:=by
  intro l
  induction l with
  |nil=>intro c a _;exact a
  |cons x r ih=>
   intro c a b;rw[List.foldl_cons];refine ih _ ?_ (fun k d=>b k (ao _ d));split
   .exact a
   exact b x aZ
 exact this ks 0 (by omega) h
def EL.k4(h:EL E ks):∀k∈ks,k<=4:=by
 intro k c;obtain⟨i,a⟩:=au c;have b:i<E.length:=by rw[<-h.len];exact(aD.1 a).1
 exact(h.at_ i _ k (aR b) a).k4
def SL.zQ{a:SA}{P:PA}(h:SL E ks a P s):dU s=nZ (ck ks):=by rw[h.toPfx.zQ,h.all,<-h.el.len,cH]
def CR{k:Nat}(a:k<=4)(h:s.id=1):gq (aE 2 (nZ k) []) s=(Dp k).map fun x:Nat=>D.int i64 (x:Int):=by
 cases s;simp only at h;subst h
 match k,a with
 |0,_|1,_|2,_|3,_|4,_=>rfl
def Ve(l:Tai)(s:RS):RS:=l.foldl (fun(s:RS) (x:Nat)=>fx (x:Int) s) s
def SL.Ve{a:SA}{P:PA}:∀{l:Tai} {s:RS},SL E ks a P s->(∀x∈l,2<=x/\x<=5)->(∀x∈l,yQ P a.n x=true)->
  ∃b,Ve l s={s with msgs:=s.msgs++b}/\zh E (l.map (Mh P a.n a.c)) b
 |[],s,h,_,_=>⟨[],by show s=_;rw[aX],trivial⟩
 |x::l,s,h,hx,hk=>by obtain⟨m,e,g⟩:=h.lD (hx x aZ) (hk x aZ);have i:SL E ks a P ({s with msgs:=s.msgs++[m]}:RS):=h.same;obtain⟨b,j,f⟩:=SL.Ve (l:=l) i (fun y d=>hx y (ao _ d)) (fun y d=>hk y (ao _ d));refine⟨m::b,?_,g,f⟩;show Go.Proofs.Ytjhmkaninmgilaa.Ve l (fx (x:Int) s)=_;rw[e,j];show({s with msgs:=(s.msgs++[m])++b}:RS)=_;rw[cX];rfl
def KL{k:Nat}:pN ((Dp k).map fun x:Nat=>D.int i64 (x:Int)) 0 t=(aE 8 (bk (Ve (Dp k) t)).1 [],(bk (Ve (Dp k) t)).2):=by unfold Dp;split<;>rfl
def Fb(E:Tah)(ks:Tai)(a:SA)(P:PA)(ams:List AM)(c0:Nat)(y:D×RS):Prop:=
 ∃u,y=((bk u).1,(bk u).2)/\SL E ks a P u/\zh E ams u.msgs/\u.aW=(E.take a.c).drop c0
def Fb.done{a:SA}{P:PA}{ams:List AM}{c0:Nat}{u:RS}(h:SL E ks a P u)(b:zh E ams u.msgs)(d:u.aW=(E.take a.c).drop c0):Fb E ks a P ams c0 (aE 8 (bk u).1 [],(bk u).2):=⟨u,rfl,h,b,d⟩
def yg(a:SA):SA:={a with w:=if a.w+1≥2 then 0 else a.w+1}
def uF(ks:Tai)(a:SA)(P:PA):List AM:=if a.w+1≥2 then(Dp (ck ks)).map (Mh P a.n a.c) else []
def SL.tick{a:SA}{P:PA}{x:Int}(h:SL E ks a P s)(d:Idle s)(k:(Dp (ck ks)).all (yQ P a.n)=true)(o:0<=a.w)(m:a.w<=1000):
  Fb E ks (yg a) P (uF ks a P) a.c (gX x s):=by
 rw[bU]at k;have er:(s.role==2)=true:=by rw[h.role];rfl
 by_cases b:a.w+1≥2
 .have j:yg a={a with w:=0}:=by unfold yg;rw[if_pos b]
  have i:uF ks a P=(Dp (ck ks)).map (Mh P a.n a.c):=by unfold uF;rw[if_pos b]
  rw[j,i];unfold gX;rw[if_pos er,wrap64 (n:=s.wait+1) (by rw[h.wait];omega) (by rw[h.wait];omega),h.wait,if_pos (decide_eq_true b)];have f:SL E ks {a with w:=0} P ({s with wait:=0}:RS):=⟨⟨h.toPfx.same rfl,h.id,h.role,h.term,h.vote,h.mI,h.cn,rfl,h.end_,h.rd,h.I1⟩,h.toPR.same,h.t1,h.all⟩;dsimp only;rw[f.zQ,CR (JE h.el.k4) f.id,KL];obtain⟨l,e,g⟩:=f.Ve (Hr _) k;rw[e];refine .done f.same ?_ ?_
  .show zh E _ (s.msgs++l);rw[d.msgs];exact g
  show s.aW=_;rw[d.mI];exact iR.symm
 have j:yg a={a with w:=a.w+1}:=by unfold yg;rw[if_neg b]
 have i:uF ks a P=[]:=by unfold uF;rw[if_neg b]
 rw[j,i];unfold gX;rw[if_pos er,wrap64 (n:=s.wait+1) (by rw[h.wait];omega) (by rw[h.wait];omega),h.wait,if_neg (by simpa using b)];exact .done ⟨⟨h.toPfx.same rfl,h.id,h.role,h.term,h.vote,h.mI,h.cn,rfl,h.end_,h.rd,h.I1⟩,h.toPR.same,h.t1,h.all⟩ (by show zh E [] s.msgs;rw[d.msgs];trivial) (by show s.aW=_;rw[d.mI];exact iR.symm)
def wL(ks:Tai)(n:Nat)(P:PA):Nat:=(mR (nZ (ck ks)) (.list [.int i64 (n:Int),.int i64 (P.m2:Int),.int i64 (P.m3:Int),.int i64 (P.m4:Int),.int i64 (P.m5:Int)])).toNat
def SL.agree{a:SA}{P:PA}(h:SL E ks a P s)(d:s.aW=[])(j:wL ks a.n P<=a.n):
  jn s={s with aW:=(E.take (max a.c (wL ks a.n P))).drop a.c,bH:=((max a.c (wL ks a.n P):Nat):Int)}:=by
 have r:=h.b;have i:=h.all;have p:jn s=kC s (fW s.li s.lt s.le) [.int i64 s.EU,.int i64 s.uZ,.int i64 s.uY,.int i64 s.uX,.int i64 s.uW]:=rfl;rw[p];unfold kC;dsimp only
 have o:mR (aE 2 (dU s) []) (D.list ((([.int i64 s.EU,.int i64 s.uZ,.int i64 s.uY,.int i64 s.uX,.int i64 s.uW]:Tah).take ((i64.wrap (s.id-1)):Int).toNat)++(D.int i64 (fW s.li s.lt s.le).1::((([.int i64 s.EU,.int i64 s.uZ,.int i64 s.uY,.int i64 s.uX,.int i64 s.uW]:Tah).drop ((i64.wrap (s.id-1)):Int).toNat).drop (1:Int).toNat))))=((wL ks a.n P:Nat):Int):=by rw[h.zQ,h.toPfx.last,h.id,h.m2,h.m3,h.m4,h.m5];unfold wL;have l:0<=mR (nZ (ck ks)) (.list [.int i64 (a.n:Int),.int i64 (P.m2:Int),.int i64 (P.m3:Int),.int i64 (P.m4:Int),.int i64 (P.m5:Int)]):=(D6 _ _ _).1;rw[Int.toNat_of_nonneg l];rfl
 rw[o];generalize q:wL ks a.n P=N at j;by_cases g:N<=a.c
 .rw[if_pos (by rw[h.mI,decide_eq_true (by omega:(N:Int)<=(a.c:Int))];rfl)];rw[show max a.c N=a.c by omega,iR,<-d,<-h.mI]
 rw[if_neg (by rw[h.mI,h.toPfx.term (by omega),if_pos (by omega),h.term,h.t1];simp only[bI,bg,not_or];exact⟨⟨by omega,by decide⟩,by decide⟩)]
 obtain⟨b,e⟩:=yE (c:=a.c) (x:=N) h.toPfx h.mI (by omega) d;rw[e];dsimp only
 have f:jo (aE 2 (dU ({s with aW:=(E.take (max a.c N)).drop a.c,bH:=((max a.c N:Nat):Int)}:RS)) []) s.id=true:=by
  have m:dU ({s with aW:=(E.take (max a.c N)).drop a.c,bH:=((max a.c N:Nat):Int)}:RS)=dU s:=rfl;rw[m,h.zQ,h.id];have:=JE h.el.k4;generalize ck ks=k at this
  match k,this with
  |0,_|1,_|2,_|3,_|4,_=>decide
 rw[f];rw[if_neg (by simp)]
variable{E:Tah}{ks:Tai}{n:Nat}{s t:RS}{a:SA}{P Q:PA}
def SL.hs{x:Nat}{q:RS->Int}(h:SL E ks a Q t)(r:t.aW=[])(v:wL ks a.n Q<=a.n)(j:2<=x/\x<=5)(o:yQ Q a.n x=true)(k:∀u,PR Q u->q u=(Q.nx x:Int)):
  ∃u i,L0 (x:Int) (a.n:Int) q t=u/\u.msgs=t.msgs++i/\u.aW=(E.take (max a.c (wL ks a.n Q))).drop a.c/\zh E (if Q.nx x<=a.n then [Mh Q a.n (max a.c (wL ks a.n Q)) x] else []) i/\SL E ks {a with c:=max a.c (wL ks a.n Q)} Q u:=by
 have p:=h.cn
 have b:SL E ks {a with c:=max a.c (wL ks a.n Q)} Q ({t with aW:=(E.take (max a.c (wL ks a.n Q))).drop a.c,bH:=((max a.c (wL ks a.n Q):Nat):Int)}:RS):=
  ⟨⟨h.toPfx.same rfl,h.id,h.role,h.term,h.vote,rfl,by show max a.c _<=a.n;omega,h.wait,h.end_,h.rd,h.I1⟩,h.toPR.same,h.t1,h.all⟩
 have g:({t with aW:=(E.take (max a.c (wL ks a.n Q))).drop a.c,bH:=((max a.c (wL ks a.n Q):Nat):Int)}:RS).msgs=t.msgs:=rfl;have f:({t with aW:=(E.take (max a.c (wL ks a.n Q))).drop a.c,bH:=((max a.c (wL ks a.n Q):Nat):Int)}:RS).aW=(E.take (max a.c (wL ks a.n Q))).drop a.c:=rfl;unfold L0;rw[h.agree r v];generalize ({t with aW:=(E.take (max a.c (wL ks a.n Q))).drop a.c,bH:=((max a.c (wL ks a.n Q):Nat):Int)}:RS)=u at b g f⊢;have er:(u.role==2)=true:=by rw[b.role];rfl
 dsimp only;rw[k _ b.toPR,er];by_cases d:Q.nx x<=a.n
 .rw[if_pos (by rw[decide_eq_true (by omega:(Q.nx x:Int)<=(a.n:Int))];rfl),if_pos d];obtain⟨m,e,l⟩:=b.lD j o;rw[e];exact⟨_,[m],rfl,by show u.msgs++[m]=_;rw[g],f,⟨l,trivial⟩,b.same⟩
 rw[if_neg (by rw[decide_eq_false (by omega:¬(Q.nx x:Int)<=(a.n:Int))];decide),if_neg d];exact⟨_,[],rfl,by rw[g,aX],f,trivial,b⟩
def vb(P:PA)(n x i:Nat):PA:=P.set x (max (P.mx x) (min i n)) (max (P.nx x) (max (P.mx x) (min i n)+1))
def vG{m i n:Nat}:wK (m:Int) (i:Int) (n:Int)=((max m (min i n):Nat):Int):=by unfold wK pI jy;split<;>split<;>omega
def zu{m k i n:Nat}(c:m<=1000)(b:n<=1000):wO (m:Int) (k:Int) (i:Int) (n:Int)=((max k (max m (min i n)+1):Nat):Int):=by unfold wO;rw[vG,wrap64 (by omega) (by omega)];unfold pI;split<;>omega
def SL.has{x i:Nat}(h:SL E ks a P s)(m:s.aW=[])(d:2<=x/\x<=5)(j:P.mx x<=1000)(o:wL ks a.n (vb P a.n x i)<=a.n)(l:yQ (vb P a.n x i) a.n x=true):
  ∃u q,mL (x:Int) (i:Int) s=u/\u.msgs=s.msgs++q/\u.aW=(E.take (max a.c (wL ks a.n (vb P a.n x i)))).drop a.c/\
   zh E (if(vb P a.n x i).nx x<=a.n then [Mh (vb P a.n x i) a.n (max a.c (wL ks a.n (vb P a.n x i))) x] else []) q/\SL E ks {a with c:=max a.c (wL ks a.n (vb P a.n x i))} (vb P a.n x i) u:=by
 have v:=h.b;have r:=h.all;have g:a.n<=1000:=by omega
 have p:(fW s.li s.lt s.le).1=(a.n:Int):=h.toPfx.last
 match x,d with
 |2,d=>
  have e:mL ((2:Nat):Int) (i:Int) s=L0 ((2:Nat):Int) (a.n:Int) RS.rl {s with uZ:=wK s.uZ i (a.n:Int),rl:=wO s.uZ s.rl i (a.n:Int),Dm:=0}:=by unfold mL;rw[p];rfl
  rw[e];exact SL.hs (t:={s with uZ:=wK s.uZ i (a.n:Int),rl:=wO s.uZ s.rl i (a.n:Int),Dm:=0}) ⟨h.toSR.same,⟨by show wK s.uZ _ _=_;rw[h.m2];exact vG,by show wO s.uZ s.rl _ _=_;rw[h.m2,h.n2];exact zu j g,h.m3,h.n3,h.m4,h.n4,h.m5,h.n5⟩,h.t1,h.all⟩ m o d l (fun u f=>f.n2)
 |3,d=>
  have e:mL ((3:Nat):Int) (i:Int) s=L0 ((3:Nat):Int) (a.n:Int) RS.rk {s with uY:=wK s.uY i (a.n:Int),rk:=wO s.uY s.rk i (a.n:Int),Dl:=0}:=by unfold mL;rw[p];rfl
  rw[e];exact SL.hs (t:={s with uY:=wK s.uY i (a.n:Int),rk:=wO s.uY s.rk i (a.n:Int),Dl:=0}) ⟨h.toSR.same,⟨h.m2,h.n2,by show wK s.uY _ _=_;rw[h.m3];exact vG,by show wO s.uY s.rk _ _=_;rw[h.m3,h.n3];exact zu j g,h.m4,h.n4,h.m5,h.n5⟩,h.t1,h.all⟩ m o d l (fun u f=>f.n3)
 |4,d=>
  have e:mL ((4:Nat):Int) (i:Int) s=L0 ((4:Nat):Int) (a.n:Int) RS.rh {s with uX:=wK s.uX i (a.n:Int),rh:=wO s.uX s.rh i (a.n:Int),Dk:=0}:=by unfold mL;rw[p];rfl
  rw[e];exact SL.hs (t:={s with uX:=wK s.uX i (a.n:Int),rh:=wO s.uX s.rh i (a.n:Int),Dk:=0}) ⟨h.toSR.same,⟨h.m2,h.n2,h.m3,h.n3,by show wK s.uX _ _=_;rw[h.m4];exact vG,by show wO s.uX s.rh _ _=_;rw[h.m4,h.n4];exact zu j g,h.m5,h.n5⟩,h.t1,h.all⟩ m o d l (fun u f=>f.n4)
 |5,d=>
  have e:mL ((5:Nat):Int) (i:Int) s=L0 ((5:Nat):Int) (a.n:Int) RS.rf {s with uW:=wK s.uW i (a.n:Int),rf:=wO s.uW s.rf i (a.n:Int),Dj:=0}:=by unfold mL;rw[p];rfl
  rw[e];exact SL.hs (t:={s with uW:=wK s.uW i (a.n:Int),rf:=wO s.uW s.rf i (a.n:Int),Dj:=0}) ⟨h.toSR.same,⟨h.m2,h.n2,h.m3,h.n3,h.m4,h.n4,by show wK s.uW _ _=_;rw[h.m5];exact vG,by show wO s.uW s.rf _ _=_;rw[h.m5,h.n5];exact zu j g⟩,h.t1,h.all⟩ m o d l (fun u f=>f.n5)
 |0,d|1,d=>omega
 |k+6,d=>omega
def BO(P:PA)(n x i:Nat):PA:=P.set x (P.mx x) (max (P.mx x+1) (min (P.nx x-1) (min i n+1)))
def zB{m k i n:Nat}(b:(fW s.li s.lt s.le).1=(n:Int))(d:m<=1000)(e:1<=k/\k<=2000)(c:n<=1000):zC (m:Int) (k:Int) (i:Int) s=((max (m+1) (min (k-1) (min i n+1)):Nat):Int):=by unfold zC;rw[b,show pI 0 (i:Int)=(i:Int) by unfold pI;split<;>omega,show jy (i:Int) (n:Int)=((min i n:Nat):Int) by unfold jy;split<;>omega];rw[wrap64 (by omega) (by omega),wrap64 (by omega) (by omega),wrap64 (by omega) (by omega)];unfold pI jy;split<;>split<;>omega
def wH{x:D}(h:s.reads=[]):gx x s=s:=by unfold gx jN;dsimp only;unfold gY jM;rw[if_neg (by rw[h];exact(by decide:¬decide ((0:Int)<(([]:Tah).length:Int))=true))];show({s with reads:=[]}:RS)=s;rw[<-h]
def agV{k x:Nat}(d:k<=4)(c:2<=x/\x<=5):xG (iP (aE 2 (nZ k) [])) (x:Int)=(Dp k).contains x:=by
 have b:∀k,k<5->∀x,x<6->2<=x->xG (iP (aE 2 (nZ k) [])) ((x:Nat):Int)=(Dp k).contains x:=by decide
 exact b k (by omega) x (by omega) c.1
structure AL3 where
 a:SA
 P:PA
 ms:List AM
def yX(ks:Tai)(a:SA)(P:PA)(x i:Nat)(re:Bool):AL3:=
 if(Dp (ck ks)).contains x then
  if re then⟨a,BO P a.n x i,[Mh (BO P a.n x i) a.n a.c x]⟩
  else
   let c:=max a.c (wL ks a.n (vb P a.n x i))
   ⟨{a with c:=c},vb P a.n x i,if(vb P a.n x i).nx x<=a.n then [Mh (vb P a.n x i) a.n c x] else []⟩
 else⟨a,P,[]⟩
def MW(ks:Tai)(a:SA)(P:PA)(x i:Nat)(re:Bool):Bool:=
 decide (P.mx x<=1000)&&decide (1<=P.nx x)&&decide (P.nx x<=2000)&&yQ (BO P a.n x i) a.n x&&decide (wL ks a.n (vb P a.n x i)<=a.n)&&yQ (vb P a.n x i) a.n x
def SL.re{x i:Nat}(h:SL E ks a P s)(d:2<=x/\x<=5)(p:P.mx x<=1000)(l:1<=P.nx x/\P.nx x<=2000)(q:yQ (BO P a.n x i) a.n x=true){m:D}(w:(cD 1 m).J=x)(A:(cD 4 m).J=i)(z:cD 7 m=.bool true)(j:jv (x:Int) s=true):
  ∃u r,gk m s=u/\u.msgs=s.msgs++[r]/\u.aW=s.aW/\MR E (Mh (BO P a.n x i) a.n a.c x) r/\SL E ks a (BO P a.n x i) u:=by
 have F:=h.b;have y:=h.all;have o:a.n<=1000:=by omega
 have v:(fW s.li s.lt s.le).1=(a.n:Int):=h.toPfx.last;have C:(cD 7 m).Z=true:=by rw[z];rfl
 have B:¬((s.role !=2)||(!(jv (cD 1 m).J s)))=true:=by rw[h.role,w,j];decide
 unfold gk;rw[if_neg B,wH h.rd,w,A,C];dsimp only
 match x,d with
 |2,d=>
  have f:SL E ks a (BO P a.n 2 i) ({s with rl:=zC s.uZ s.rl i s}:RS):=⟨h.toSR.same,⟨h.m2,by show zC s.uZ s.rl i s=_;rw[h.m2,h.n2];exact zB v p l o,h.m3,h.n3,h.m4,h.n4,h.m5,h.n5⟩,h.t1,h.all⟩;obtain⟨r,e,g⟩:=f.lD d q;exact⟨_,r,e,rfl,rfl,g,f.same⟩
 |3,d=>
  have f:SL E ks a (BO P a.n 3 i) ({s with rk:=zC s.uY s.rk i s}:RS):=⟨h.toSR.same,⟨h.m2,h.n2,h.m3,by show zC s.uY s.rk i s=_;rw[h.m3,h.n3];exact zB v p l o,h.m4,h.n4,h.m5,h.n5⟩,h.t1,h.all⟩;obtain⟨r,e,g⟩:=f.lD d q;exact⟨_,r,e,rfl,rfl,g,f.same⟩
 |4,d=>
  have f:SL E ks a (BO P a.n 4 i) ({s with rh:=zC s.uX s.rh i s}:RS):=⟨h.toSR.same,⟨h.m2,h.n2,h.m3,h.n3,h.m4,by show zC s.uX s.rh i s=_;rw[h.m4,h.n4];exact zB v p l o,h.m5,h.n5⟩,h.t1,h.all⟩;obtain⟨r,e,g⟩:=f.lD d q;exact⟨_,r,e,rfl,rfl,g,f.same⟩
 |5,d=>
  have f:SL E ks a (BO P a.n 5 i) ({s with rf:=zC s.uW s.rf i s}:RS):=⟨h.toSR.same,⟨h.m2,h.n2,h.m3,h.n3,h.m4,h.n4,h.m5,by show zC s.uW s.rf i s=_;rw[h.m5,h.n5];exact zB v p l o⟩,h.t1,h.all⟩;obtain⟨r,e,g⟩:=f.lD d q;exact⟨_,r,e,rfl,rfl,g,f.same⟩
 |0,d|1,d=>omega
 |k+6,d=>omega
def SL.X7{x i:Nat}(h:SL E ks a P s)(b:2<=x/\x<=5){m:D}(d:(cD 1 m).J=x)(f:(cD 4 m).J=i)(e:cD 7 m=.bool false)(c:jv (x:Int) s=true):gk m s=mL (x:Int) (i:Int) s:=by
 have j:(cD 7 m).Z=false:=by rw[e];rfl
 have g:¬((s.role !=2)||(!(jv (cD 1 m).J s)))=true:=by rw[h.role,d,c];decide
 unfold gk;rw[if_neg g,wH h.rd,d,f,j];dsimp only
 match x,b with
 |2,b|3,b|4,b|5,b=>rfl
 |0,b|1,b=>omega
 |k+6,b=>omega
def SL.Ja{x i:Nat}{re:Bool}{m:D}(h:SL E ks a P s)(k:Idle s)(o:2<=x/\x<=5)(f:MA x i re m)(A:MW ks a P x i re=true):
  Fb E ks (yX ks a P x i re).a (yX ks a P x i re).P (yX ks a P x i re).ms a.c (iX m s):=by
 simp only[MW,aP,bg]at A;obtain⟨⟨⟨⟨⟨z,I⟩,H⟩,k4⟩,G⟩,F⟩:=A;have C:(cD 0 m).J=4:=by rw[f.k0];rfl
 have q:(cD 1 m).J=x:=by rw[f.fr];rfl
 have K:(cD 2 m).J=1:=by rw[f.YR];rfl
 have p:(cD 3 m).J=1:=by rw[f.tm];rfl
 have B:(cD 4 m).J=i:=by rw[f.ix];rfl
 have J:(cD 5 m).J=0:=by rw[f.lt];rfl
 have y:(cD 12 m).V=[]:=by rw[f.es];rfl
 unfold iX;rw[if_neg (by rw[y,p,J];decide)]
 rw[if_neg (by
  rw[C,q,K,p,h.id];simp only[nY];rw[bI,bI,cI];rintro((d|d)|d)
  .rw[bY,bY,bY]at d;rcases d with((d|d)|d)|d
   .exact absurd d (by decide)
   .have:(x:Int)≠1:=by omega
    simp[this]at d
   .rw[bY,decide_eq_false_iff_not,decide_eq_false_iff_not]at d;omega
   exact absurd d (by decide)
  .exact absurd d (by decide)
  exact absurd d (by decide))]
 rw[p,if_neg (by rw[h.term,h.t1];decide)];unfold Kr;rw[p,C,if_neg (by rw[h.term,h.t1];decide),if_neg (by decide),if_neg (by decide),if_neg (by decide),if_pos (by decide)];show Fb E ks _ _ _ a.c (aE 8 (bk (gk (aE 46 m []) s)).1 [],(bk (gk (aE 46 m []) s)).2)
 have b:jv (x:Int) s=(Dp (ck ks)).contains x:=by unfold jv;dsimp only;rw[h.zQ,agV (JE h.el.k4) o]
 unfold yX;by_cases l:(Dp (ck ks)).contains x=true
 .rw[if_pos l];rw[l]at b;cases re with
  |true=>
   rw[if_pos rfl];obtain⟨u,r,e,j,g,w,v⟩:=h.re (m:=aE 46 m []) o z ⟨I,H⟩ k4 q B f.rj b;rw[e];exact .done v (by rw[j,k.msgs];exact⟨w,trivial⟩) (by rw[g,k.mI];exact iR.symm)
  |false=>
   rw[if_neg (by decide),h.X7 (m:=aE 46 m []) o q B f.rj b];obtain⟨u,L,e,j,g,w,v⟩:=h.has (i:=i) k.mI o z G F;rw[e];exact .done v (by rw[j,k.msgs];exact w) g
 rw[if_neg l];rw[Bool.not_eq_true]at l;rw[l]at b
 have:gk (aE 46 m []) s=s:=by unfold gk;rw[show(cD 1 (aE 46 m [])).J=x from q,b,if_pos (by simp)]
 rw[this];exact .done h (by rw[k.msgs];trivial) (by rw[k.mI];exact iR.symm)
variable{E:Tah}{ks:Tai}{n:Nat}{s t:RS}{a:SA}{P Q:PA}
structure Fe(k:Nat)(x:D):Prop where
 k4:k<=4
 nc:k=0->(cD 0 x).J=3
 cf:k≠0->(cD 0 x).J=2/\ [cD 25 x,cD 26 x]=(nZ k).V
def EZ(E:Tah)(x:D):D:=aE 29 (wT 0 0 E 1 (aE 27 (aE 27 x []) [])) []
def Fe.en{k:Nat}{x:D}(h:Fe k x):Hg E.length k (EZ E x):=by
 refine⟨?_,rfl,h.k4,fun b=>?_,fun b=>?_⟩
 .show(0:Int)+(E.length:Int)+1=_;omega
 .show(cD 0 x).J≠2;rw[h.nc b];decide
 obtain⟨d,c⟩:=h.cf b;exact⟨d,c⟩
def EL.eJ(h:EL E ks):eJ 0 E<=1:=by
 rcases fq E.length with c|c
 .rw[List.length_eq_zero_iff.1 c];decide
 have b:E.length-1<E.length:=by omega
 rw[tF (aR b)];obtain⟨k,_,d⟩:=h.get (aR b);rw[d.tm];exact aJ _
def EL.any(h:EL E ks)(c:Nat):((E.drop c).any fun e=>(cD 2 e).J==2)=((ks.drop c).any fun k=>k !=0):=by
 rw[cT,fp,fp];constructor
 .rintro⟨e,m,d⟩;obtain⟨j,b⟩:=au m;rw[aL]at b;obtain⟨k,f,g⟩:=h.get b;refine⟨k,?_,?_⟩
  .exact bT (i:=j) (by rw[aL];exact f)
  rw[bne_iff_ne];intro o;exact g.nc o (by simpa using d)
 rintro⟨k,f,d⟩;obtain⟨j,b⟩:=au f;rw[aL]at b;have l:c+j<E.length:=by rw[<-h.len];exact(aD.1 b).1
 have g:=h.at_ _ _ _ (aR l) b;refine⟨E[c+j],bT (i:=j) (by rw[aL,aR l]),?_⟩;rw[bne_iff_ne]at d;rw[(g.cf d).1];rfl
def SL.P0(h:SL E ks a P s):mZ s=((ks.drop a.c).any fun k=>k !=0):=by
 have y:=h.b;have r:=h.all;have q:=h.cn
 have e:fi s.li s.lt s.le (i64.wrap (s.bH+1)) (i64.wrap ((fW s.li s.lt s.le).1-s.bH))=E.drop a.c:=by
  rw[h.toPfx.last,h.mI,wrap64 (by omega) (by omega),wrap64 (by omega) (by omega)];by_cases o:a.c<a.n
  .rw[h.toPfx.slice (by omega) (by omega),h.all,cH];rw[show((a.c:Int)+1-1).toNat=a.c by omega,dz (by rw[bh];omega)]
  show fG _ _ _ _=_;unfold fG;rw[if_pos (by omega),List.drop_eq_nil_of_le (by omega)]
 unfold mZ;dsimp only;rw[e,<-h.el.any a.c];have p:(E.drop a.c).length<=1000:=by rw[bh];omega
 generalize E.drop a.c=l at p;unfold mV;refine gO (fun x:Bool×Int=>0<=x.2/\x.2<=l.length/\((l.take x.2.toNat).any fun e=>(cD 2 e).J==2)=false) (fun b=>b=l.any fun e=>(cD 2 e).J==2) (fun x=>l.length-x.2.toNat) ?_ _ _ ⟨by decide,by show(0:Int)<=_;omega,rfl⟩ (by show l.length-0<_;unfold qG;show _<l.length-0+1;omega);rintro⟨i,j⟩ ⟨v,u,m⟩;simp only at v u m;unfold mU;by_cases f:decide (j<(l.length:Int))=true
 .rw[if_pos f];rw[bg]at f;have d:j.toNat<l.length:=by omega
  have w:l.getD j.toNat .top=l[j.toNat]:=by rw[ag,aR d];rfl
  rw[w];by_cases g:((cD 2 (l[j.toNat])).J==2)=true
  .rw[if_pos g];show true=_;exact(fp.2 ⟨_,aF d,g⟩).symm
  rw[if_neg g,wrap64 (by omega) (by omega)];refine⟨⟨by show 0<=j+1;omega,by show j+1<=_;omega,?_⟩,by show l.length-(j+1).toNat<l.length-j.toNat;omega⟩;show((l.take (j+1).toNat).any _)=false;rw[show(j+1).toNat=j.toNat+1 by omega,ca,aR d,dQ,List.any_append,m];simpa using g
 rw[if_neg f];rw[bg]at f;show false=_;rw[<-m,show j.toNat=l.length by omega,cH]
def SL.settled(h:SL E ks a P s):pO s=decide (0<a.c):=by
 have d:=h.cn;unfold pO;dsimp only;rw[h.mI,h.term,h.t1];rcases fq a.c with b|b
 .rw[b,show((0:Nat):Int)=0 from rfl,h.toPfx.ME];rfl
 rw[h.toPfx.term (by omega),if_pos (by omega),decide_eq_true b];rfl
def tQ(ks:Tai)(a:SA)(k:Nat):Int:=if k=0 then 0 else if decide (0<a.c)&& !((ks.drop a.c).any fun k=>k !=0) then 0 else 21
def SL.may{k:Nat}{x:D}(h:SL E ks a P s)(e:Fe k x)(j:k=0\/k=ck ks+1):yO (aE 27 x []) s=tQ ks a k:=by
 have q:(cD 0 (aE 27 x [])).J=(cD 0 x).J:=rfl;unfold yO tQ;rw[h.role,q,if_neg (by decide)];rcases fq k with i|i
 .rw[e.nc i,if_neg (by decide),if_pos (by decide),if_pos i]
 obtain⟨o,m⟩:=e.cf (by omega);have g:¬k=0:=by omega
 rw[o,if_neg (show¬((2:Int)==1)=true by decide),if_neg (show¬((2:Int) !=2)=true by decide),if_neg g];dsimp only;rw[h.settled,h.P0];by_cases b:(decide (0<a.c)&& !((ks.drop a.c).any fun k=>k !=0))=true
 .rw[if_pos b];rw[aP,cI]at b;rw[b.1,b.2,if_neg (show¬((!true)||false)=true by decide),h.zQ]
  have l:zv (aE 2 (nZ (ck ks)) []) (D.agg [cD 25 (aE 27 x []),cD 26 (aE 27 x [])])=true:=by
   have p:D.agg [cD 25 (aE 27 x []),cD 26 (aE 27 x [])]=nZ k:=by show D.agg [cD 25 x,cD 26 x]=_;rw[m];rfl
   rw[p];have r:=e.k4;have f:k=ck ks+1:=j.resolve_left (by omega);subst f;have d:∀c,c<4->zv (aE 2 (nZ c) []) (nZ (c+1))=true:=by decide
   exact d _ (by omega)
  rw[l,if_neg (by decide)]
 rw[if_neg b,if_pos];rw[Bool.not_eq_true,bY,Bool.not_eq_false']at b;rcases b with b|b
 .rw[b];rfl
 rw[b];simp
def L1(s:RS):Nat->Int
 |2=>s.rl
 |3=>s.rk
 |4=>s.rh
 |_=>s.rf
def Qb(l:Tai)(i:Int)(s:RS):RS:=l.foldl (fun(s:RS) (x:Nat)=>if L1 s x=i then fx (x:Int) s else s) s
def SL.Qb{i:Nat}:∀{l:Tai} {s:RS},SL E ks a P s->(∀x∈l,2<=x/\x<=5)->(∀x∈l,yQ P a.n x=true)->
  ∃f,Qb l (i:Int) s={s with msgs:=s.msgs++f}/\zh E ((l.filter fun x=>P.nx x==i).map (Mh P a.n a.c)) f
 |[],s,h,_,_=>⟨[],by show s=_;rw[aX],trivial⟩
 |x::l,s,h,hx,hk=>by
  have g:=hx x aZ
  have p:L1 s x=(P.nx x:Int):=by
   match x,g with
   |2,_=>exact h.n2
   |3,_=>exact h.n3
   |4,_=>exact h.n4
   |5,_=>exact h.n5
   |0,hx|1,hx=>omega
   |k+6,hx=>omega
  have d:Go.Proofs.Ytjhmkaninmgilaa.Qb (x::l) (i:Int) s=Go.Proofs.Ytjhmkaninmgilaa.Qb l (i:Int) (if L1 s x=(i:Int) then fx (x:Int) s else s):=rfl;rw[d,p,List.filter_cons];by_cases o:P.nx x=i
  .rw[if_pos (by omega),if_pos (by simpa using o)];obtain⟨m,e,q⟩:=h.lD g (hk x aZ);have r:SL E ks a P ({s with msgs:=s.msgs++[m]}:RS):=h.same;obtain⟨f,u,j⟩:=SL.Qb (i:=i) (l:=l) r (fun y b=>hx y (ao _ b)) (fun y b=>hk y (ao _ b));refine⟨m::f,?_,q,j⟩;rw[e,u];show({s with msgs:=(s.msgs++[m])++f}:RS)=_;rw[cX];rfl
  rw[if_neg (by omega),if_neg (by simpa using o)];exact SL.Qb h (fun y b=>hx y (ao _ b)) (fun y b=>hk y (ao _ b))
def K3{l:Tai}{y:(D×Int)×RS}{j:Nat}(c:j<l.length)(b:2<=l[j]/\l[j] <=5)(f:l.length<=1000):
  ir y (l.map fun x:Nat=>D.int i64 (x:Int)) (j:Int) t=.inl (((j+1:Nat):Int),if L1 t l[j]=(cD 0 y.1.1).J then fx (l[j]:Int) t else t):=by
 have e:((l.map fun x:Nat=>D.int i64 (x:Int)).getD ((j:Int)).toNat .top).J=(l[j]:Int):=by rw[ag,show((j:Int)).toNat=j by omega,ab,aR c];rfl
 have d:i64.wrap ((j:Int)+1)=((j+1:Nat):Int):=by rw[wrap64 (by omega) (by omega)];rfl
 unfold ir;rw[if_pos (by rw[aj];exact decide_eq_true (by omega)),e,d];generalize l[j]=x at b
 match x,b with
 |2,_=>
  rw[if_neg (by decide),if_neg (by decide),if_pos (by decide)];by_cases h:t.rl=(cD 0 y.1.1).J
  .rw[if_pos (by simpa using h)];rw[if_pos (show L1 t 2=_ from h)];rfl
  rw[if_neg (by simpa using h)];rw[if_neg (show¬L1 t 2=_ from h)]
 |3,_=>
  rw[if_neg (by decide),if_neg (by decide),if_neg (by decide),if_pos (by decide)];by_cases h:t.rk=(cD 0 y.1.1).J
  .rw[if_pos (by simpa using h)];rw[if_pos (show L1 t 3=_ from h)];rfl
  rw[if_neg (by simpa using h)];rw[if_neg (show¬L1 t 3=_ from h)]
 |4,_=>
  rw[if_neg (by decide),if_neg (by decide),if_neg (by decide),if_neg (by decide),if_pos (by decide)];by_cases h:t.rh=(cD 0 y.1.1).J
  .rw[if_pos (by simpa using h)];rw[if_pos (show L1 t 4=_ from h)];rfl
  rw[if_neg (by simpa using h)];rw[if_neg (show¬L1 t 4=_ from h)]
 |5,_=>
  rw[if_neg (by decide),if_neg (by decide),if_neg (by decide),if_neg (by decide),if_neg (by decide),if_pos (by decide)];by_cases h:t.rf=(cD 0 y.1.1).J
  .rw[if_pos (by simpa using h)];rw[if_pos (show L1 t 5=_ from h)];rfl
  rw[if_neg (by simpa using h)];rw[if_neg (show¬L1 t 5=_ from h)]
 |0,b|1,b=>omega
 |k+6,b=>omega
def K4{l:Tai}{y:(D×Int)×RS}(d:∀x∈l,2<=x/\x<=5)(f:l.length<=1000):kH y (l.map fun x:Nat=>D.int i64 (x:Int)) 0 t=mA y (Qb l (cD 0 y.1.1).J t):=by
 have c:∀(m j:Nat) (t:RS),m+j=l.length->gY (fun a:Int×RS=>ir y (l.map fun x:Nat=>D.int i64 (x:Int)) a.1 a.2) ((.top,0,.top),dK) (m+1) ((j:Int),t)=mA y (Qb (l.drop j) (cD 0 y.1.1).J t):=by
  intro m
  induction m with
  |zero=>
   intro j t g;unfold gY
   have e:ir y (l.map fun x:Nat=>D.int i64 (x:Int)) (j:Int) t=.inr (mA y t):=by unfold ir;rw[if_neg (by rw[aj];simp;omega)]
   dsimp only;rw[e,List.drop_eq_nil_of_le (by omega)];rfl
  |succ m ih=>
   intro j t g;have b:j<l.length:=by omega
   unfold gY;dsimp only;rw[K3 b (d _ (aF b)) f];dsimp only;rw[ih (j+1) _ (by omega),bJ b];rfl
 have:=c l.length 0 t (by omega);unfold kH r6;rw[aj];exact this
structure AP3 where
 ks:Tai
 a:SA
 ms:List AM
def yW(ks:Tai)(a:SA)(P:PA)(k:Nat):AP3:=
 let c:=max a.c (wL (ks++[k]) (a.n+1) P)
 ⟨ks++[k],{a with n:=a.n+1,c:=c},((Dp (ck (ks++[k]))).filter fun x=>P.nx x==a.n+1).map (Mh P (a.n+1) a.c)⟩
def MV(ks:Tai)(a:SA)(P:PA)(k:Nat):Bool:=
 decide (a.n+1<=1000)&&(Dp (ck (ks++[k]))).all (yQ P (a.n+1))&&decide (wL (ks++[k]) (a.n+1) P<=a.n+1)
def SL.prop{k:Nat}{x:D}(h:SL E ks a P s)(r:Idle s)(p:Fe k x)(C:k=0\/k=ck ks+1)(A:tQ ks a k=0)(q:MV ks a P k=true):
  (bD x s).1.2.1=0/\Fb (E++[EZ E x]) (yW ks a P k).ks (yW ks a P k).a P (yW ks a P k).ms a.c ((bD x s).1.2.2,(bD x s).2):=by
 have J:=h.b;have G:=h.all;have F:=h.cn;simp only[MV,aP,bg,bU]at q;obtain⟨⟨I,w⟩,v⟩:=q
 have z:oc (aE 27 x []) s=((EZ E x,0),({s with save:=true,li:=0,lt:=0,le:=E++[EZ E x],dB:=s.dB++[EZ E x]}:RS)):=by
  have l:s.le=E:=by rw[h.le,h.all,cH]
  have m:nq 0 0 E 1=0:=by unfold nq;have:=h.el.eJ;rw[if_neg (by simp only[MX];omega),if_neg (by simp only[MX];omega)]
  have y:ui 0 0 E 1 (aE 27 (aE 27 x []) [])=wT 0 0 E 1 (aE 27 (aE 27 x []) []):=by unfold ui;rw[m,if_pos rfl]
  have B:pb 0 0 E 1 (aE 27 (aE 27 x []) [])=E++[wT 0 0 E 1 (aE 27 (aE 27 x []) [])]:=by unfold pb;rw[m,if_pos rfl]
  have g:Qu s.li s.lt s.le s.term (aE 27 (aE 27 x []) [])=((wT 0 0 E 1 (aE 27 (aE 27 x []) []),0),0,0,E++[wT 0 0 E 1 (aE 27 (aE 27 x []) [])]):=by unfold Qu;rw[h.li,h.lt,l,h.term,h.t1,m,y,B]
  unfold oc;rw[g];rfl
 have f:SL (E++[EZ E x]) (ks++[k]) {a with n:=a.n+1} P ({s with save:=true,li:=0,lt:=0,le:=E++[EZ E x],dB:=s.dB++[EZ E x]}:RS):=
  ⟨⟨⟨h.el.push p.en,by simp;omega,by simp;omega,rfl,rfl,by show E++[_]=_;rw[dz (by simp;omega)],h.fv,h.fl⟩,h.id,h.role,h.term,h.vote,h.mI,by show a.c<=a.n+1;omega,h.wait,h.end_,h.rd,h.I1⟩,h.toPR.same,h.t1,by simp;omega⟩
 unfold bD;rw[h.may p C,A,if_neg (by decide)];dsimp only;rw[z,if_neg (show¬((0:Int) !=0)=true by decide)];dsimp only;rw[f.zQ,CR (JE f.el.k4) f.id,K4 (Hr _) (by unfold Dp;split<;>decide)]
 have H:(cD 0 ((EZ E x,(0:Int)),({s with save:=true,li:=0,lt:=0,le:=E++[EZ E x],dB:=s.dB++[EZ E x]}:RS)).1.1).J=((a.n+1:Nat):Int):=by show(0:Int)+(E.length:Int)+1=_;omega
 rw[H];obtain⟨o,e,j⟩:=f.Qb (i:=a.n+1) (Hr _) w;rw[e];have d:SL (E++[EZ E x]) (ks++[k]) {a with n:=a.n+1} P ({({s with save:=true,li:=0,lt:=0,le:=E++[EZ E x],dB:=s.dB++[EZ E x]}:RS) with msgs:=s.msgs++o}:RS):=f.same;unfold mA;refine⟨rfl,?_⟩;have u:=d.agree (show _=[] from r.mI) v;dsimp only at u⊢;rw[u];exact .done ⟨⟨d.toPfx.same rfl,d.id,d.role,d.term,d.vote,rfl,by show max a.c _<=a.n+1;omega,d.wait,d.end_,d.rd,d.I1⟩,d.toPR.same,d.t1,d.all⟩ (by show zh _ _ (s.msgs++o);rw[r.msgs];exact j) rfl
def SL.busy{k:Nat}{x:D}(h:SL E ks a P s)(b:Idle s)(d:Fe k x)(f:k=0\/k=ck ks+1)(e:tQ ks a k=21):
  (bD x s).1.2.1=21/\Fb E ks a P [] a.c ((bD x s).1.2.2,(bD x s).2):=by unfold bD;rw[h.may d f,e,if_pos (by decide)];exact⟨rfl,.done h (by rw[b.msgs];trivial) (by rw[b.mI];exact iR.symm)⟩
end Go.Proofs.Ytjhmkaninmgilaa
namespace Go.dG
open Go Go.RowKit
section
variable{P:Tba}{a:Act}{w:Tan}{dst:Tal}{ty:Tbb}{pos:String}{af:Tbe Edge}{gd:Tap (Nat×Bool)}
def JO(a:Act)(d t:Nat)(v:Tao):(a.put (some d) v).tmps[t]?=if d=t then(if d<a.tmps.size then some v else none) else a.tmps[t]? :=by simp only[Act.put,Array.getElem?_setIfInBounds]
def Pf{a:Act}{d n:Nat}{v:Tao}(h:a.tmps.size=n)(b:d<n):(a.put (some d) v).tmps[d]?=some v:=by rw[JO,if_pos rfl,if_pos (by omega)]
def K1{a:Act}{d t:Nat}{v:Tao}(h:d≠t):(a.put (some d) v).tmps[t]?=a.tmps[t]? :=by rw[JO,if_neg h]
def PT{a:Act}{t:Nat}{v:Tao}(h:a.tmps[t]?=some v):a.eval (.tmp t)=v:=by simp[Act.eval,h]
def BI{t:Tbb}{f off b o:Nat}{x:Tbc}(h:(kj P t f).map (fun y=>(y.1.offset,decide (0<y.2)))=some (off,true))(c:a.eval x=.pointer (some ⟨b,o,none⟩)):
  (execOp a.eval ⟨dst,.fieldAddr t x f,ty,pos,af,gd⟩).run P w=.ok (.value (.pointer (some ⟨b,o+off,none⟩))) w:=by
 cases hf:kj P t f with
 |none=>rw[hf]at h;cases h
 |some y=>
  obtain⟨fl,n⟩:=y;rw[hf]at h;simp only[aS,aa,ae,bg]at h;obtain⟨rfl,d⟩:=h;obtain⟨n,rfl⟩:∃m,n=m+1:=⟨n-1,by omega⟩;unfold execOp;simp only[c];rw[bz,kG hf b o];rfl
def IT{t:Tbb}{x:Tbc}{b:Addr}{v:Tao}(f:iW P t=false)(d:(P.underlying t).isSome=true)(c:a.eval x=.pointer (some b))(e:w.cell? b=some v):
  (execOp a.eval ⟨dst,.load t x,ty,pos,af,gd⟩).run P w=.ok (.value v) w:=by unfold execOp;simp only[c];rw[bz,mT f d e];rfl
def IS{t:Tbb}{x:Tbc}{b off n:Nat}{vs:Tad}(hs:ik P t=some n)(f:iW P t=true)(c:a.eval x=.pointer (some ⟨b,off,none⟩))(d:vs.length=n)(e:∀(j:Nat) v,vs[j]?=some v->w.cell? ⟨b,off+j,none⟩=some v):
  (execOp a.eval ⟨dst,.load t x,ty,pos,af,gd⟩).run P w=.ok (.value (.agg vs.toArray)) w:=by unfold execOp;simp only[c];rw[bz,jJ hs f d e];rfl
def LA{x:Tbc}:(execOp a.eval ⟨dst,.move x,ty,pos,af,gd⟩).run P w=.ok (.value (a.eval x)) w:=by unfold execOp;rfl
def GN{x:Tbc}:(execOp a.eval ⟨dst,.assign x,ty,pos,af,gd⟩).run P w=.ok (.value (a.eval x)) w:=by unfold execOp;rfl
def IQ{t:Tbb}{x y:Tbc}{b off:Nat}{cur:Tbe Tao}{T:Tbb}{vs:Tad}(hs:ik P t=some vs.length)(h:a.eval x=.pointer (some ⟨b,off,none⟩))(g:(a.eval y).cells=vs.toArray)(e:w.heap[b]?=some (.cells cur T (0,0)))(f:off+vs.length<=cur.size)(d:∀v∈vs,v.oneCell'=true):
  (execOp a.eval ⟨dst,.store t x y,ty,pos,af,gd⟩).run P w=.ok .skip (w.setRow b (cur.toList.take off++vs++cur.toList.drop (off+vs.length)).toArray):=by have c:=run_storeCells_at P b off T vs 0 cur w e (by omega) d;simp only[dL]at c;have j:=hJ (P:=P) (w:=w) hs;unfold execOp;simp only[h,Instr.storeAt,Instr.sureAddr];simp[storeVar,j,g];simp at c;rw[c];rfl
def PS{t t2:Tbb}{x y:Tbc}{k:IntKind}{m n:Int}(c:a.eval x=.int k m)(b:a.eval y=.int k n):(execOp a.eval ⟨dst,.binOp .add t x y t2,ty,pos,af,gd⟩).run P w=.ok (.value (.int k (k.wrap (m+n)))) w:=by unfold execOp;simp[c,b,eqGuard,binOp,Op.intArith]
def PQ{t el:Tbb}{x:Tbc}{A:Tap Addr}{n c:Nat}(d:P.underlying t=some (.slice el))(b:a.eval x=.slice A n c):(execOp a.eval ⟨dst,.call {callee:=.builtin .len,args:=#[x],argTypes:=#[t]},ty,pos,af,gd⟩).run P w=.ok (.value (.int i64 n)) w:=by unfold execOp;simp only[resolve,invoke,builtin];simp[Builtin.len_,b,run_underlying d,goInt]
def IU{t:Tbb}{n:Nat}(h:((P.info? t).bind (·.zero)).map (fun z=>z.cells.size)=some n):
  ∃b:Tbe Tao,b.size=n/\(execOp a.eval ⟨dst,.alloc t,ty,pos,af,gd⟩).run P w=.ok (.value (.pointer (some ⟨w.heap.size,0,none⟩))) (w.alloc (.cells b t)):=by
 cases hi:P.info? t with
 |none=>rw[hi]at h;cases h
 |some it=>
  cases hz:it.zero with
  |none=>rw[hi]at h;simp[hz]at h
  |some z=>
   rw[hi]at h;simp[hz]at h;refine⟨z.cells,h,?_⟩;unfold execOp;simp only[Instr.alloc];simp[zeroValue,typeInfo,hi,hz,newVar,newRow]
def PO{t:Tbb}{x:Tbc}{b:Bool}(c:a.eval x=.bool b):(execOp a.eval ⟨dst,.unOp .not t x,ty,pos,af,gd⟩).run P w=.ok (.value (.bool (!b))) w:=by unfold execOp;simp[c,Op.unary]
def LC{k:Nat}{args:Tbe Tbc}{ts:Tbe Tbb}{vs:Tad}(c:∀(args:Tbe Tao) (w:Tan),(callFunc k args).run P w=.ok (.enter k args) w)(b:args.map a.eval=vs.toArray):
  (execOp a.eval ⟨dst,.call {callee:=.value (.func k),args,argTypes:=ts},ty,pos,af,gd⟩).run P w=.ok (.enter k vs.toArray) w:=by unfold execOp;have:=c vs.toArray w;simpa [resolve,Act.eval,Deferred.ofValue,invoke,b]using this
variable{ops:Tae}{Q:O3}{rest:Tai}{i:Nat}{o:Tbd}
variable{S:Taf}{fuel:Nat}{lH:Tbe Bool}
end
def dH(id:Nat):Code->Tae
 |.region i ops _=>if i=id then ops else #[]
 |.seq a b| .cond _ a b=>if(dH id a).size=0 then dH id b else dH id a
 |.block _ c| .loop c| .scope c=>dH id c
 |_=> #[]
def Bj{l:Tad}{off:Nat}{v:Tao}(h:off<l.length):l.take off++[v]++l.drop (off+1)=l.set off v:=by rw[List.set_eq_take_append_cons_drop,if_pos h];simp
section
variable{P:Tba}{ops:Tae}{Q:O3}{S:Taf}
def nF(P:Tba)(ops:Tae)(Q:O3)(S:Taf)(L:Nat):Nat->Tbe Bool->Act->Taf
 |0,lH,a,w=>Region.ready .any ops lH=[]/\Q .normal a w
 |fuel+1,lH,a,w=>
  (Region.ready .any ops lH=[]->Q .normal a w)/\
  ∀i∈Region.ready .any ops lH,wpOp P ops Q i (fun c b=>(i≠L->S b)/\nF P ops Q S L fuel (lH.setIfInBounds i true) c b) a w
def nQ{L:Nat}:∀(c:Nat) (b:Tbe Bool) (a:Act) (w:Tan),nF P ops Q S L c b a w->wpAny P .any ops Q c b a w
 |0,_,_,_,h=>h
 |c+1,_,_,_,h=>⟨h.1,fun i e=>wpOp_mono (fun g d f=>nQ c _ g d f.2) (h.2 i e)⟩
def qD{L i:Nat}{t:Tbd}{v:Tao}(N:ops[i]?=some t)(Y:i≠L)(hL:∀oL,ops[L]?=some oL->∃e∈oL.after,Region.binds .any e=true/\e.on=i)(r:∀(j:Nat) (o:Tbd) C b,ops[j]?=some o->o.op≠ .select C b)(Z:∀c a w,Q (.panic c) (a.put t.dst v) w->Q (.panic c) a w):
  ∀(g:Nat) (d:Tbe Bool) (a:Act) (w:Tan),
   (∀j q,ops[j]?=some q->j≠i->d.getD j true=false->(∀e∈q.after,Region.binds .any e=true->e.on≠i)->t.apart ops q=true)->
   i∈Region.ready .any ops d->YieldsIf P ops S t v a->S w->
   nF P ops Q S L g (d.setIfInBounds i true) (a.put t.dst v) w->nF P ops Q S L (g+1) d a w:=by
 intro g
 induction g with
 |zero=>
  intro d a w _ u D B H;refine⟨fun h=>(by rw[h]at u;cases u),fun j E=>?_⟩;by_cases f:j=i
  .subst f;exact D.wpOp N B ⟨fun _=>B,H⟩
  have:=ready_mono E f;rw[H.1]at this;cases this
 |succ g ih=>
  intro d a w m u D B H;refine⟨fun h=>(by rw[h]at u;cases u),fun j E=>?_⟩;by_cases f:j=i
  .subst f;exact D.wpOp N B ⟨fun _=>B,H⟩
  have x:=H.2 j (ready_mono E f);obtain⟨s,q,n,A⟩:=mem_ready.1 E
  have l:∀e∈q.after,Region.binds .any e=true->e.on≠i:=fun e R T O=>by
   have x:=A e R T;have V:=(mem_ready.1 u).1;rw[O]at x;rcases eK i d.size with U|U
   .simp[U]at V x;rw[V]at x;cases x
   simp[Array.getElem?_eq_none U]at x
  have M:j≠L:=by rintro rfl;obtain⟨e,R,T,G⟩:=hL q n;exact l e R T G
  have h2:=wpOp_putIf n (m j q n f s l) (fun C b=>r i t C b N) (fun C b=>r j q C b n) Z D x
  have p:∀k ok,ops[k]?=some ok->k≠i->(d.setIfInBounds j true).getD k true=false->
    (∀e∈ok.after,Region.binds .any e=true->e.on≠i)->t.apart ops ok=true:=fun k ok X K y I=>by
   refine m k ok X K ?_ I;by_cases z:j=k
   .subst z;exact s
   rw[getD_set_ne true z]at y;exact y
  refine wpOp_mono (fun a' W F=>⟨fun J=>F.2.1 J,ih (d.setIfInBounds j true) a' W p (ready_mono u (Ne.symm f)) F.1 (F.2.1 M) ?_⟩) h2;rw[Array.setIfInBounds_comm _ _ f];exact F.2.2
def mg(P:Tba)(ops:Tae)(Q:O3)(S:Taf)(n0:Nat):Nat->Nat->Act->Taf
 |0,_,a,w=>Q .normal a w
 |f+1,i,a,w=>match ops[i]? with
  |none=>False
  |some o=>if i<n0 then S w/\∃v,YieldsIf P ops S o v a/\mg P ops Q S n0 f (i+1) (a.put o.dst v) w
   else wpOp P ops Q i (fun c b=>(f≠0->S b)/\mg P ops Q S n0 f (i+1) c b) a w
def gP(n i:Nat):Tbe Bool:=((List.range n).map fun j=>decide (j<i)).toArray
def tOk(ops:Tae)(n0:Nat):Bool:=
 decide (n0<=ops.size)&&Region.noSelect ops&&(List.range ops.size).all fun i=>
  if i<n0 then Region.free .any ops (gP ops.size i) i&&(Region.ready .any ops (gP ops.size i)).contains i&&
   (decide (n0=ops.size)||match ops[ops.size-1]? with|some oL=>oL.after.toList.any fun e=>Region.binds .any e&&e.on==i|none=>false)
  else Region.ready .any ops (gP ops.size i)==[i]
def qB{n i:Nat}(c:i<n):(gP n i).setIfInBounds i true=gP n (i+1):=by
 apply Array.ext
 .simp[gP]
 intro j b d;simp only[gP,Array.size_setIfInBounds,cb,aj,dW]at b;rw[Array.getElem_setIfInBounds (by simpa [gP]using b)];by_cases a:i=j
 .subst a;simp[gP]
 rw[if_neg a];simp only[gP,List.getElem_toArray,List.getElem_map,List.getElem_range];congr 1;exact propext ⟨fun h=>by omega,fun h=>by omega⟩
def yw(n:Nat):Array.replicate n false=gP n 0:=by
 apply Array.ext
 .simp[gP]
 intro j b a;simp[gP]
def AB{n0:Nat}(k:tOk ops n0=true)(E:∀c a d v w,Q (.panic c) (a.put d v) w->Q (.panic c) a w):
  ∀(f i:Nat) (a:Act) (w:Tan),i+f=ops.size->mg P ops Q S n0 f i a w->nF P ops Q S (if n0=ops.size then ops.size else ops.size-1) f (gP ops.size i) a w
 |0,i,a,w,hif,h=>by
  refine⟨?_,h⟩;have:i=ops.size:=by omega
  subst this;rw[eZ];intro j s;obtain⟨u,N,z,_⟩:=mem_ready.1 s;have D:j<ops.size:=(aI.1 z).1;simp[gP,D]at u
 |f+1,i,a,w,hif,h=>by
  have m:=k;unfold tOk at k;simp only[aP,bg,bU,cz]at k;obtain⟨⟨I,B⟩,q⟩:=k;have t:i<ops.size:=by omega
  have p:=q i t;unfold mg at h;have A:ops[i]?=some ops[i]:=dq t;rw[A]at h;simp only at h;by_cases o:i<n0
  .rw[if_pos o]at h p;obtain⟨L,v,H,r⟩:=h;simp only[aP]at p;obtain⟨⟨n,g⟩,b⟩:=p;refine qD A (by split<;>omega) ?_ (Region.noSelect_spec B) (fun c a w=>E c a _ _ w) f (gP ops.size i) a w (Region.free_spec A n) (by simpa using g) H L ?_
   .intro oL l;by_cases x:n0=ops.size
    .rw[if_pos x]at l;simp at l
    rw[if_neg x]at l;rw[l]at b;simp only[bI,bg,fp,aP,beq_iff_eq]at b;obtain⟨e,J,K,y⟩:=b.resolve_left x;exact⟨e,by simpa using J,K,y⟩
   rw[qB t];exact AB m E f (i+1) _ w (by omega) r
  rw[if_neg o]at h p;have r:Region.ready .any ops (gP ops.size i)=[i]:=by simpa using p
  refine⟨fun u=>(by rw[r]at u;cases u),fun j s=>?_⟩;rw[r,aG]at s;subst s;refine wpOp_mono (fun M G F=>⟨fun C=>F.1 (by split at C<;>omega),?_⟩) h;rw[qB t];exact AB m E f (j+1) M G (by omega) F.2
def AA{n0:Nat}:∀(f i:Nat) (a:Act) (w:Tan),i+f=ops.size->mg P ops Q S n0 f i a w->wpOps P ops Q (List.range' i f) a w
 |0,i,a,w,_,h=>h
 |f+1,i,a,w,hif,h=>by
  have l:i<ops.size:=by omega
  have g:ops[i]?=some ops[i]:=dq l;unfold mg at h;rw[g]at h;simp only at h;rw[List.range'_succ]
  have d:wpOp P ops Q i (fun e c=>wpOps P ops Q (List.range' (i+1) f) e c) a w:=by
   by_cases b:i<n0
   .rw[if_pos b]at h;obtain⟨m,v,j,k⟩:=h;exact j.wpOp g m (AA f (i+1) _ w (by omega) k)
   rw[if_neg b]at h;exact wpOp_mono (fun e c n=>AA f (i+1) e c (by omega) n.2) h
  rw[wpOps_cons];exact d
end
structure zD(w w':Tan):Prop where
 heap:w'.heap=w.heap
 os:w'.os=w.os
 tape:w'.tape=w.tape
 output:w'.output=w.output
def zD.refl(w:Tan):zD w w:=⟨rfl,rfl,rfl,rfl⟩
def zD.drew(w:Tan):zD w {w with drawn:=w.drawn+1}:=⟨rfl,rfl,rfl,rfl⟩
def zD.cell{w w':Tan}(h:zD w w')(ad:Addr):w'.cell? ad=w.cell? ad:=by simp only[World.cell?,h.heap]
def SX(X:Taj)(w w':Tan):Prop:=w.heap.size<=w'.heap.size/\∀b,b<w.heap.size->¬X b->w'.heap[b]?=w.heap[b]?
def SX.refl(X:Taj)(w:Tan):SX X w w:=⟨aM _,fun _ _ _=>rfl⟩
def QP(Q:O3):Prop:=∀c a d v w,Q (.panic c) (a.put d v) w->Q (.panic c) a w
def ax(_:Nat):Prop:=False
def Kn(n:Nat)(a:Act)(m:Tac):Prop:=a.tmps.size=n/\a.defers=[]/\∀t v,lk m t=some v->a.tmps[t]?=some v
def KH(m:Tac):Tac->Prop
 |[]=>True
 |p::r=>lk m p.1=some p.2/\KH m r
def KH.get{m:Tac}:∀{l:Tac},KH m l->∀p∈l,lk m p.1=some p.2
 |[],_,p,b=>by cases b
 |q::r,h,p,b=>by
  rcases aH.1 b with rfl|b
  .exact h.1
  exact KH.get h.2 p b
def Kn.put{n:Nat}{a:Act}{m:Tac}(h:Kn n a m)(d:Nat)(v:Tao)(f:d<n):Kn n (a.put (some d) v) ((d,v)::m):=by
 refine⟨by simp[Act.put,h.1],h.2.1,fun t u b=>?_⟩;simp only[lk]at b;split at b
 .rename_i c;injection b with b;subst b;have:d=t:=(by simpa using c:t=d).symm;subst this;exact Pf h.1 f
 rename_i c;rw[K1 (fun e=>c (by simp[e]))];exact h.2.2 t u b
def Kn.sub{n:Nat}{a:Act}{m l:Tac}(h:Kn n a m)(c:KH m l):Kn n a l:=
 ⟨h.1,h.2.1,fun t v b=>h.2.2 t v (c.get (t,v) (iw b))⟩
def Kn.sb{n:Nat}{a:Act}{m l:Tac}(h:Kn n a m)(b:KH m l:=by repeat constructor):Kn n a l:=h.sub b
def lq(m:Tac):Tbc->Tap Tao
 |.tmp t=>lk m t
 |.const v=>some v
 |.global g=>some (.pointer (some ⟨g,0,none⟩))
 |.func f=>some (.func (.func f) #[] #[])
def Kn.op{n:Nat}{a:Act}{m:Tac}(h:Kn n a m){x:Tbc}{v:Tao}(b:lq m x=some v):a.eval x=v:=by
 cases x with
 |tmp t=>exact PT (h.2.2 t v b)
 |const u=>injection b with b
 |global g=>injection b with b
 |func f=>injection b with b
abbrev OK:=Tal×Op×Tap (Nat×Bool)
def P5(o:Tbd):OK:=(o.dst,o.op,o.guard)
def bK(ops:Tae):List OK:=ops.toList.map P5
def qd(L:List OK)(m:Tac):Tap (Nat×Bool)->Tap Bool
 |none=>some true
 |some (j,b)=>match (L[j]?).bind (·.1) with
  |some t=>match lk m t with
   |some (.bool c)=>some (c==b)
   |_=>none
  |none=>none
def Kn.gd{n:Nat}{a:Act}{m:Tac}{ops:Tae}{o:Tbd}{b:Bool}(h:Kn n a m)(e:qd (bK ops) m o.guard=some b):Region.wanted o (yielded ops a.tmps)=b:=by
 unfold Region.wanted;cases hgd:o.guard with
 |none=>rw[hgd]at e;injection e
 |some jb=>
  obtain⟨j,k⟩:=jb;rw[hgd]at e;simp only[qd]at e
  have f:((bK ops)[j]?).bind (·.1)=(ops[j]?).bind (·.dst):=by
   unfold bK;rw[ab];cases ho:ops[j]? with
   |none=>simp[ho]
   |some o=>simp[ho,P5]
  rw[f]at e;cases ho:(ops[j]?).bind (·.dst) with
  |none=>rw[ho]at e;cases e
  |some t=>
   rw[ho]at e;simp only at e;split at e
   .rename_i c g;injection e with e;have:=h.2.2 t _ g;simp only[yielded,ho,cg,this];rw[<-e];cases c<;>cases k<;>rfl
   cases e
section
variable{P:Tba}{ops:Tae}{Q:O3}{S:Taf}{n n0 i d:Nat}{a:Act}{w:Tan}{m:Tac}{gd:Tap (Nat×Bool)}{L r:List OK}
def TL(P:Tba)(ops:Tae)(Q:O3)(S:Taf)(n0:Nat)(L r:List OK)(i:Nat)(a:Act)(w:Tan):Prop:=bK ops=L->L.drop i=r->mg P ops Q S n0 r.length i a w
def fV{id:Nat}{b:Bool}(n0:Nat)(X:Taj)(j:P.follows .mixedOrders=true)(l:QP Q)(f:bK ops=L)(k:b=true->tOk ops n0=true)(h:∀e,zD w e->TL P ops Q (SX X e) n0 L L 0 a e):(Code.region id ops b).wp P Q a w:=by
 have c:L.length=ops.size:=by rw[<-f];simp[bK]
 cases b with
 |true=>
  refine wp_region_any j ?_;have g:=AB (k rfl) l ops.size 0 a _ (by omega) (c▸h _ (zD.drew w) f rfl);rw[<-yw]at g;exact nQ _ _ _ _ g
 |false=>
  refine wp_region ?_;rw[List.range_eq_range'];exact AA ops.size 0 a w (by omega) (c▸h w (zD.refl w) f rfl)
def sY{x:OK}(g:bK ops=L)(c:L.drop i=x::r):(∃o,ops[i]?=some o/\P5 o=x)/\L.drop (i+1)=r:=by
 have b:L[i]?=some x:=by have:=congrArg (fun l=>l[0]?) c;simpa using this
 refine⟨?_,?_⟩
 .rw[<-g]at b;unfold bK at b;rw[ab,cQ]at b;obtain⟨o,f,e⟩:=b;exact⟨o,by simpa using f,e⟩
 have:=congrArg (List.drop 1) c;simpa using this
def av(h:Q .normal a w):TL P ops Q S n0 L [] i a w:=fun _ _=>h
def qe{op:Op}{v:Tao}(k:Kn n a m)(p:S w)(H:qd L m gd=some true)(E:d<n)(D:∀c b f j,S j->(execOp a.eval ⟨some d,op,c,b,f,gd⟩).run P j=.ok (.value v) j)(h:∀F,Kn n F ((d,v)::m)->TL P ops Q S n0 L r (i+1) F w):TL P ops Q S n0 L ((some d,op,gd)::r) i a w:=by
 intro g G;obtain⟨⟨o,B,s⟩,e⟩:=sY g G;obtain⟨I,l,c,b,f,q⟩:=o;simp only[P5,ae]at s;obtain⟨rfl,rfl,rfl⟩:=s;have A:=k.gd (ops:=ops) (o:=⟨some d,l,c,b,f,q⟩) (by rw[g];exact H);show mg P ops Q S n0 (r.length+1) i a w;unfold mg;rw[B];simp only;by_cases C:i<n0
 .rw[if_pos C];exact⟨p,v,.inl ⟨A,D c b f⟩,h _ (k.put d v E) g e⟩
 rw[if_neg C];exact(YieldsIf.wpOp (S:=S) B (.inl ⟨A,D c b f⟩) p ⟨fun _=>p,h _ (k.put d v E) g e⟩)
def afP{op:Op}(k:Kn n a m)(g:S w)(E:qd L m gd=some false)(A:d<n)(h:∀B,Kn n B ((d,undef)::m)->TL P ops Q S n0 L r (i+1) B w):TL P ops Q S n0 L ((some d,op,gd)::r) i a w:=by
 intro c D;obtain⟨⟨o,q,l⟩,b⟩:=sY c D;obtain⟨F,f,C,e,G,j⟩:=o;simp only[P5,ae]at l;obtain⟨rfl,rfl,rfl⟩:=l;have p:=k.gd (ops:=ops) (o:=⟨some d,f,C,e,G,j⟩) (by rw[c];exact E);show mg P ops Q S n0 (r.length+1) i a w;unfold mg;rw[q];simp only;by_cases s:i<n0
 .rw[if_pos s];exact⟨g,undef,.inr ⟨p,rfl⟩,h _ (k.put d undef A) c b⟩
 rw[if_neg s];exact(YieldsIf.wpOp (S:=S) q (.inr ⟨p,rfl⟩) g ⟨fun _=>g,h _ (k.put d undef A) c b⟩)
def tO{op:Op}(k:Kn n a m)(M:n0<=i)(D:qd L m gd=some true)(G:d<n)(F:∀f b g,∃v c,(execOp a.eval ⟨some d,op,f,b,g,gd⟩).run P w=.ok (.value v) c/\(r≠[]->S c)/\∀A,Kn n A ((d,v)::m)->TL P ops Q S n0 L r (i+1) A c):TL P ops Q S n0 L ((some d,op,gd)::r) i a w:=by intro l C;obtain⟨⟨o,s,q⟩,j⟩:=sY l C;obtain⟨K,h,f,b,g,p⟩:=o;simp only[P5,ae]at q;obtain⟨rfl,rfl,rfl⟩:=q;have B:=k.gd (ops:=ops) (o:=⟨some d,h,f,b,g,p⟩) (by rw[l];exact D);obtain⟨v,c,J,I,H⟩:=F f b g;show mg P ops Q S n0 (r.length+1) i a w;unfold mg;rw[s];simp only;rw[if_neg (by omega)];unfold wpOp;rw[s];simp only;rw[if_pos B];refine .inl ?_;rw[Oper.wp,J];exact⟨fun E=>I (fun e=>E (by rw[e];rfl)),H _ (k.put d v G) l j⟩
def afQ{op:Op}{w':Tan}(k:Kn n a m)(I:n0<=i)(D:qd L m gd=some true)(F:∀c b f,(execOp a.eval ⟨none,op,c,b,f,gd⟩).run P w=.ok .skip w')(G:r≠[]->S w')(h:∀A,Kn n A m->TL P ops Q S n0 L r (i+1) A w'):TL P ops Q S n0 L ((none,op,gd)::r) i a w:=by intro l C;obtain⟨⟨o,s,q⟩,j⟩:=sY l C;obtain⟨H,g,c,b,f,p⟩:=o;simp only[P5,ae]at q;obtain⟨rfl,rfl,rfl⟩:=q;have B:=k.gd (ops:=ops) (o:=⟨none,g,c,b,f,p⟩) (by rw[l];exact D);show mg P ops Q S n0 (r.length+1) i a w;unfold mg;rw[s];simp only;rw[if_neg (by omega)];unfold wpOp;rw[s];simp only;rw[if_pos B];refine .inl ?_;rw[Oper.wp,F c b f];exact⟨fun E=>G (fun e=>E (by rw[e];rfl)),h _ k l j⟩
def iB{c:Nat}{args:Tbe Tbc}{ts:Tbe Tbb}{vs:Tad}{R:Ending->Taf}(k:Kn n a m)(W:n0<=i)(J:qd L m gd=some true)(N:d<n)(s:∀(args:Tbe Tao) (w:Tan),(callFunc c args).run P w=.ok (.enter c args) w)(H:args.toList.map (lq m)=vs.map some)(O:Calls P c vs.toArray w R)(h:∀e b,R e b->∃v,e=.returned v/\(r≠[]->S b)/\∀D,Kn n D ((d,v)::m)->TL P ops Q S n0 L r (i+1) D b):TL P ops Q S n0 L ((some d,.call {callee:=.value (.func c),args:=args,argTypes:=ts},gd)::r) i a w:=by
 intro q I;obtain⟨⟨o,C,B⟩,p⟩:=sY q I;obtain⟨U,F,E,g,V,A⟩:=o;simp only[P5,ae]at B;obtain⟨rfl,rfl,rfl⟩:=B;have G:=k.gd (ops:=ops) (o:=⟨some d,.call {callee:=.value (.func c),args:=args,argTypes:=ts},E,g,V,A⟩) (by rw[q];exact J)
 have f:args.map a.eval=vs.toArray:=by
  apply dC;rw[fI]
  have j:∀(l:List Tbc) (us:Tad),l.map (lq m)=us.map some->l.map a.eval=us:=by
   intro l
   induction l with
   |nil=>intro us h;cases us with|nil=>rfl|cons=>cases h
   |cons x l ih=>
    intro us h;cases us with
    |nil=>cases h
    |cons u us=>
     simp only[ct,dD]at h;rw[ct,k.op h.1,ih us h.2]
  simpa using j args.toList vs H
 show mg P ops Q S n0 (r.length+1) i a w;unfold mg;rw[C];simp only;rw[if_neg (by omega)];unfold wpOp;rw[C];simp only;rw[if_pos G];refine .inl ?_;rw[Oper.wp,LC s f];refine O.mono fun e b M=>?_;obtain⟨v,rfl,hs,T⟩:=h e b M;exact⟨fun K=>hs (fun e=>K (by rw[e];rfl)),T _ (k.put d v N) q p⟩
variable{x y z:Tbc}{t t2:Tbb}{v u:Tao}
def QH(k:Kn n a m)(g:S w)(e:qd L m gd=some true)(f:d<n)(c:lq m x=some v)(h:∀b,Kn n b ((d,v)::m)->TL P ops Q S n0 L r (i+1) b w):TL P ops Q S n0 L ((some d,.move x,gd)::r) i a w:=
 qe k g e f (fun _ _ _ j _=>by rw[LA,k.op c]) h
def xn(k:Kn n a m)(g:S w)(e:qd L m gd=some true)(f:d<n)(c:lq m x=some v)(h:∀b,Kn n b ((d,v)::m)->TL P ops Q S n0 L r (i+1) b w):TL P ops Q S n0 L ((some d,.assign x,gd)::r) i a w:=
 qe k g e f (fun _ _ _ j _=>by rw[GN,k.op c]) h
def Wz{b:Addr}(k:Kn n a m)(j:S w)(f:qd L m gd=some true)(g:d<n)(e:lq m x=some (.pointer (some b)))(h:∀c,Kn n c ((d,.pointer (some b))::m)->TL P ops Q S n0 L r (i+1) c w):TL P ops Q S n0 L ((some d,.nilCheck x,gd)::r) i a w:=
 qe k j f g (fun _ _ _ l _=>by have:=k.op e;unfold execOp;simp only[this];rfl) h
def SK{b o off fl:Nat}(k:Kn n a m)(l:S w)(f:qd L m gd=some true)(j:d<n)(e:lq m x=some (.pointer (some ⟨b,o,none⟩)))(g:(kj P t fl).map (fun y=>(y.1.offset,decide (0<y.2)))=some (off,true))(h:∀c,Kn n c ((d,.pointer (some ⟨b,o+off,none⟩))::m)->TL P ops Q S n0 L r (i+1) c w):TL P ops Q S n0 L ((some d,.fieldAddr t x fl,gd)::r) i a w:=
 qe k l f j (fun _ _ _ p _=>BI g (k.op e)) h
def kx{c:Addr}(k:Kn n a m)(q:S w)(j:qd L m gd=some true)(l:d<n)(f:lq m x=some (.pointer (some c)))(p:iW P t=false)(g:(P.underlying t).isSome=true)(o:∀b,S b->b.cell? c=some v)(h:∀e,Kn n e ((d,v)::m)->TL P ops Q S n0 L r (i+1) e w):TL P ops Q S n0 L ((some d,.load t x,gd)::r) i a w:=
 qe k q j l (fun _ _ _ b hs=>IT p g (k.op f) (o b hs)) h
def WB{b off nn:Nat}{vs:Tad}(k:Kn n a m)(A:S w)(o:qd L m gd=some true)(p:d<n)(f:lq m x=some (.pointer (some ⟨b,off,none⟩)))(hs:ik P t=some nn)(s:iW P t=true)(l:vs.length=nn)(q:∀c,S c->∀(j:Nat) v,vs[j]?=some v->c.cell? ⟨b,off+j,none⟩=some v)(h:∀e,Kn n e ((d,.agg vs.toArray)::m)->TL P ops Q S n0 L r (i+1) e w):TL P ops Q S n0 L ((some d,.load t x,gd)::r) i a w:=
 qe k A o p (fun _ _ _ c g=>IS hs s (k.op f) l (q c g)) h
def ot{el:Tbb}{b off nn j sz:Nat}{kk:IntKind}{c:Int}(k:Kn n a m)(C:S w)(A:qd L m gd=some true)(B:d<n)(q:lq m x=some (.slice (some ⟨b,off,none⟩) nn j))(p:lq m y=some (.int kk c))(s:P.underlying t=some (.slice el))(g:ik P el=some sz)(F:0<=c)(E:c<nn)(h:∀l,Kn n l ((d,.pointer (some ⟨b,off+c.toNat*sz,none⟩))::m)->TL P ops Q S n0 L r (i+1) l w):TL P ops Q S n0 L ((some d,.indexAddr t x y,gd)::r) i a w:=by refine qe k C A B (fun _ _ _ o _=>?_) h;have f:=k.op q;have e:=k.op p;have D:=hJ (P:=P) (w:=o) g;unfold execOp;simp only[f,e,Instr.indexAt,asIntOf];simp[run_underlying s,F,E,D,fL]
def slB(P:Tba)(t:Tbb):Bool:=match P.underlying t with
 |some (.slice _)=>true
 |_=>false
def DB{A:Tap Addr}{nn c:Nat}(k:Kn n a m)(o:S w)(g:qd L m gd=some true)(l:d<n)(f:lq m x=some (.slice A nn c))(b:slB P t=true)(h:∀e,Kn n e ((d,.int i64 nn)::m)->TL P ops Q S n0 L r (i+1) e w):TL P ops Q S n0 L ((some d,.call {callee:=.builtin .len,args:=#[x],argTypes:=#[t]},gd)::r) i a w:=by
 unfold slB at b;split at b
 .rename_i q j;exact qe k o g l (fun _ _ _ p _=>PQ j (k.op f)) h
 cases b
def JG{c:Bool}(k:Kn n a m)(p:S w)(l:qd L m gd=some true)(o:d<n)(j:lq m x=some (.bool c))(g:lq m (if c then y else z)=some v)(h:∀f,Kn n f ((d,v)::m)->TL P ops Q S n0 L r (i+1) f w):TL P ops Q S n0 L ((some d,.pick x y z,gd)::r) i a w:=by
 refine qe k p l o (fun _ _ _ q _=>?_) h;have e:=k.op j;have b:=k.op g;unfold execOp;cases c
 .simp only[ai,if_false]at b;simp[e,b,asBool]
 simp only[if_true]at b;simp[e,b,asBool]
def qj{c:Bool}(k:Kn n a m)(j:S w)(f:qd L m gd=some true)(g:d<n)(e:lq m x=some (.bool c))(h:∀b,Kn n b ((d,.bool (!c))::m)->TL P ops Q S n0 L r (i+1) b w):TL P ops Q S n0 L ((some d,.unOp .not t x,gd)::r) i a w:=
 qe k j f g (fun _ _ _ l _=>PO (k.op e)) h
def Hd:BinOp->Int->Int->Tap Bool
 |.lss,m,n=>some (decide (m<n))
 |.leq,m,n=>some (decide (m<=n))
 |.gtr,m,n=>some (decide (m>n))
 |.geq,m,n=>some (decide (m≥n))
 |.eql,m,n=>some (m==n)
 |.neq,m,n=>some (m !=n)
 |_,_,_=>none
def WD{b:BinOp}{kk:IntKind}{p q:Int}{c:Bool}(k:Kn n a m)(s:S w)(l:qd L m gd=some true)(o:d<n)(j:lq m x=some (.int kk p))(g:lq m y=some (.int kk q))(e:Hd b p q=some c)(h:∀f,Kn n f ((d,.bool c)::m)->TL P ops Q S n0 L r (i+1) f w):TL P ops Q S n0 L ((some d,.binOp b t x y t2,gd)::r) i a w:=by refine qe k s l o (fun _ _ _ C _=>?_) h;have B:=k.op j;have A:=k.op g;unfold execOp;cases b<;>simp only[Hd,aa,reduceCtorEq]at e<;>subst e<;>simp[B,A,eqGuard,binOp,Op.intCmp]
def iK{kk:IntKind}{p q s:Int}(k:Kn n a m)(l:S w)(f:qd L m gd=some true)(g:d<n)(e:lq m x=some (.int kk p))(c:lq m y=some (.int kk q))(j:kk.wrap (p+q)=s)(h:∀b,Kn n b ((d,.int kk s)::m)->TL P ops Q S n0 L r (i+1) b w):TL P ops Q S n0 L ((some d,.binOp .add t x y t2,gd)::r) i a w:=by subst j;exact qe k l f g (fun _ _ _ o _=>PS (k.op e) (k.op c)) h
end
abbrev Ow:=Nat->Tal
structure Wf(w:Tan)(S:bG)(ow:Ow):Prop where
 s:∀b o,S b o->b<w.heap.size
 o:∀b l,ow b=some l->b<w.heap.size
 d:∀b o l,S b o->ow b=some l->1000<=l
structure bB(L X:Taj)(w:Tan)(S:bG)(ow:Ow)(w':Tan)(S':bG)(cE:Ow):Prop where
 size:w.heap.size<=w'.heap.size
 os:w'.os=w.os
 tape:w'.tape=w.tape
 output:w'.output=w.output
 E1:∀b l,b<w.heap.size->ow b=some l->¬L l->w'.heap[b]?=w.heap[b]?
 free:∀b,b<w.heap.size->ow b=none->¬X b->w'.heap[b]?=w.heap[b]?
 jx:∀b o,S b o->S' b o
 cell:∀b o,S b o->w'.cell? ⟨b,o,none⟩=w.cell? ⟨b,o,none⟩
 keep:∀b l,ow b=some l->¬L l->cE b=some l
 new:∀b o,S' b o->S b o\/w.heap.size<=b\/∃l,ow b=some l/\L l
 qT:∀b,b<w.heap.size->ow b=none->cE b=none
 iu:∀b l,cE b=some l->ow b=some l\/L l
def iF(l:Nat)(x:Nat):Prop:=x=l
def cw{l x:Nat}(h:¬x=l:=by omega):¬iF l x:=h
section
variable{L L' X X':Taj}{w w' GW:Tan}{S S' Mi:bG}{ow cE zM:Ow}
def bB.refl(L X:Taj)(w:Tan)(S:bG)(ow:Ow):bB L X w S ow w S ow:=
 ⟨aM _,rfl,rfl,rfl,fun _ _ _ _ _=>rfl,fun _ _ _ _=>rfl,fun _ _ h=>h,fun _ _ _=>rfl,fun _ _ h _=>h,fun _ _ h=>.inl h,fun _ _ h=>h,fun _ _ h=>.inl h⟩
def bB.W{w a:Tan}(h:zD w a)(L X:Taj)(S:bG)(ow:Ow):bB L X w S ow a S ow:=
 ⟨by rw[h.heap];exact aM _,h.os,h.tape,h.output,fun _ _ _ _ _=>by rw[h.heap],fun _ _ _ _=>by rw[h.heap],fun _ _ h=>h,fun _ _ _=>h.cell _,fun _ _ h _=>h,fun _ _ h=>.inl h,fun _ _ h=>h,fun _ _ h=>.inl h⟩
def bB.trans(s:Wf w S ow)(n:Wf w' S' cE)(h:bB L X w S ow w' S' cE)(k:bB L' X' w' S' cE GW Mi zM)(q:∀b,X' b->X b\/w.heap.size<=b)(p:∀b l,b<w.heap.size->cE b=some l->L l\/L' l->∃i,ow b=some i/\(L i\/L' i)):
  bB (fun l=>L l\/L' l) X w S ow GW Mi zM:=by
 refine⟨aY h.size k.size,k.os.trans h.os,k.tape.trans h.tape,k.output.trans h.output,?_,?_,fun b o hs=>k.jx b o (h.jx b o hs),fun b o hs=>(k.cell b o (h.jx b o hs)).trans (h.cell b o hs),?_,?_,?_,fun b l f=>(k.iu b l f).elim (fun a=>(h.iu b l a).imp id .inl) (fun a=>.inr (.inr a))⟩
 .intro b l d e f;exact(k.E1 b l (ar d h.size) (h.keep b l e (fun c=>f (.inl c))) (fun c=>f (.inr c))).trans (h.E1 b l d e (fun c=>f (.inl c)))
 .intro b d e m;refine(k.free b (ar d h.size) (h.qT b d e) (fun c=>?_)).trans (h.free b d e m);rcases q b c with a|a
  .exact m a
  omega
 .intro b l e f;exact k.keep b l (h.keep b l e (fun c=>f (.inl c))) (fun c=>f (.inr c))
 .intro b o hs;rcases k.new b o hs with a|a|⟨l,a,g⟩
  .rcases h.new b o a with g|g|⟨l,g,j⟩
   .exact .inl g
   .exact .inr (.inl g)
   exact .inr (.inr ⟨l,g,.inl j⟩)
  .exact .inr (.inl (aY h.size a))
  by_cases d:b<w.heap.size
  .obtain⟨i,j,r⟩:=p b l d a (.inr g);exact .inr (.inr ⟨i,j,r⟩)
  exact .inr (.inl (by omega))
 intro b d e;exact k.qT b (ar d h.size) (h.qT b d e)
def bB.mono(h:bB L X w S ow w' S' cE)(e:∀l,L l->L' l)(i:∀b,X b->X' b):bB L' X' w S ow w' S' cE:=
 ⟨h.size,h.os,h.tape,h.output,fun b l f a c=>h.E1 b l f a (fun d=>c (e l d)),fun b f a g=>h.free b f a (fun d=>g (i b d)),h.jx,h.cell,fun b l a c=>h.keep b l a (fun d=>c (e l d)),fun b o hs=>(h.new b o hs).imp id (fun m=>m.imp id fun⟨l,k,j⟩=>⟨l,k,e l j⟩),h.qT,fun b l c=>(h.iu b l c).imp id (e l)⟩
def bV.O{v:Tao}{d:D}(h:bV w S v d)(a:bB L X w S ow w' S' cE):bV w' S' v d:=h.keep a.jx a.cell
structure dA(w:Tan)(S:bG)(ow:Ow)(l:Nat)(T:Tbb)(t:Ty)(v:Tao)(xs:Tah):Prop where
 has:Has (.list t) (.list xs)
 sz:0<t.cells.length
 iu:∀b,v.ownBlock=some b->ow b=some l
 ll:l<1000
 own:∃vs,w.ownsRow 0 T t.cells.length v xs.length vs/\∀(i:Nat) d (j:Nat) u c,xs[i]?=some d->d.cells[j]?=some c->vs[i*t.cells.length+j]?=some u->bV w S u c
def qH{T:Tbb}{sz n:Nat}{v:Tao}{vs:Tad}(h:w.ownsRow 0 T sz v n vs)(f:∀b,v.ownBlock=some b->w'.heap[b]?=w.heap[b]?):w'.ownsRow 0 T sz v n vs:=by
 refine⟨h.1,?_⟩;rcases h.2 with d|⟨g,c,a,rfl,m,e,l,k,j,i⟩
 .exact .inl d
 exact .inr ⟨g,c,a,rfl,m,(f g rfl).trans e,l,k,j,i⟩
def dA.O{l:Nat}{T:Tbb}{t:Ty}{v:Tao}{xs:Tah}(h:dA w S ow l T t v xs)(k:Wf w S ow)(e:bB L X w S ow w' S' cE)(f:¬L l):dA w' S' cE l T t v xs:=by obtain⟨g,n,m⟩:=h.own;exact⟨h.has,h.sz,fun b a=>e.keep b l (h.iu b a) f,h.ll,g,qH n (fun b a=>e.E1 b l (k.o b l (h.iu b a)) (h.iu b a) f),fun i d j u c r q p=>(m i d j u c r q p).O e⟩
def dA.nil{l:Nat}{T:Tbb}{t:Ty}(hs:0<t.cells.length)(a:l<1000):dA w S ow l T t (.slice none 0 0) []:=
 ⟨⟨[],rfl,gy t,fun _ h=>(by cases h)⟩,hs,fun b e=>(by cases e),a,[],fB _ _ _ _,fun i d j u c h=>(by simp at h)⟩
def dA.slice{l:Nat}{T:Tbb}{t:Ty}{v:Tao}{xs:Tah}(h:dA w S ow l T t v xs):∃A cap,v=.slice A xs.length cap:=by
 obtain⟨b,a,_⟩:=h.own;rcases a.2 with⟨rfl,hn⟩|⟨g,cap,cur,rfl,_⟩
 .exact⟨none,0,by rw[hn]⟩
 exact⟨_,cap,rfl⟩
def dA.len{l:Nat}{T:Tbb}{t:Ty}{v:Tao}{xs:Tah}(h:dA w S ow l T t v xs):mG t xs.length:=by obtain⟨c,a,b,_⟩:=bO.1 h.has;injection a with a;subst a;exact b
def dA.all{l:Nat}{T:Tbb}{t:Ty}{v:Tao}{xs:Tah}(h:dA w S ow l T t v xs):∀x∈xs,Has t x:=by obtain⟨c,a,_,b⟩:=bO.1 h.has;injection a with a;subst a;exact b
def dA.elem{l:Nat}{T:Tbb}{t:Ty}{v:Tao}{xs:Tah}(h:dA w S ow l T t v xs){i:Nat}{d:D}(o:xs[i]?=some d):
  ∃(b e:Nat) (us:Tad),v=.slice (some ⟨b,0,none⟩) xs.length e/\b<w.heap.size/\ow b=some l/\us.length=t.cells.length/\(∀(j:Nat) u,us[j]?=some u->w.cell? ⟨b,i*t.cells.length+j,none⟩=some u)/\
   ∀(j:Nat) u c,us[j]?=some u->d.cells[j]?=some c->bV w S u c:=by
 obtain⟨n,m,r⟩:=h.own;have k:i<xs.length:=(aD.1 o).1;rcases m.2 with⟨rfl,hn⟩|⟨g,e,cur,rfl,_,hg,rq,Vr,GZ,P7⟩
 .omega
 have f:(i+1)*t.cells.length<=xs.length*t.cells.length:=aw _ k;rw[cq,Nat.one_mul]at f;have p:n.length=xs.length*t.cells.length:=m.1;refine⟨g,e,(n.drop (i*t.cells.length)).take t.cells.length,rfl,(aI.1 hg).1,h.iu g rfl,by rw[aO,bh];omega,?_,?_⟩
 .intro j u a;rw[aC]at a;split at a
  .rw[aL]at a;have:=m.cells (g:=g) rfl _ _ a;rw[fL,aq]at this;exact this
  cases a
 intro j u c a q;rw[aC]at a;split at a
 .rw[aL]at a;exact r i d j u c o q a
 cases a
def dA.freeze{l:Nat}{T:Tbb}{t:Ty}{v:Tao}{xs:Tah}(h:dA w S ow l T t v xs)(n:Wf w S ow):
  ∃S' cE,bB (iF l) ax w S ow w S' cE/\Wf w S' cE/\bV w S' v (.list xs)/\(∀b,cE b≠some l):=by
 obtain⟨q,y,C⟩:=h.own;refine⟨fun b o=>S b o\/(v.ownBlock=some b/\o<q.length),fun b=>if ow b=some l then none else ow b,?_,?_,?_,?_⟩
 .refine⟨aM _,rfl,rfl,rfl,fun _ _ _ _ _=>rfl,fun _ _ _ _=>rfl,fun _ _ h=>.inl h,fun _ _ _=>rfl,?_,?_,?_,fun b f m=>(by
   split at m
   .cases m
   exact .inl m)⟩
  .intro b f a m;rw[if_neg (by rw[a];intro e;injection e with e;exact m e)];exact a
  .intro b o hs;rcases hs with hs|⟨hs,_⟩
   .exact .inl hs
   exact .inr (.inr ⟨l,h.iu b hs,rfl⟩)
  intro b _ a;simp[a]
 .refine⟨?_,?_,?_⟩
  .intro b o hs;rcases hs with hs|⟨hs,_⟩
   .exact n.s b o hs
   exact n.o b l (h.iu b hs)
  .intro b f a;split at a
   .cases a
   exact n.o b f a
  intro b o f hs a;split at a
  .cases a
  rcases hs with hs|⟨hs,_⟩
  .exact n.d b o f hs a
  exact absurd (h.iu b hs) (by assumption)
 .have A:∀u c,bV w S u c->bV w (fun b o=>S b o\/(v.ownBlock=some b/\o<q.length)) u c:=fun u c z=>z.keep (fun _ _ h=>.inl h) (fun _ _ _=>rfl);rcases y.2 with⟨rfl,hn⟩|⟨g,cap,cur,rfl,_,hg,rq,Vr,GZ,P7⟩
  .have:xs=[]:=an hn;subst this;exact .nil _ _
  by_cases k:xs=[]
  .subst k;exact .nil _ _
  refine .list g 0 cap t.cells.length q xs h.sz k rq y.1 (fun i E=>.inr ⟨rfl,by omega⟩) ?_ ?_ ?_
  .intro i u r;have:=y.cells (g:=g) rfl i u r;rw[fL,aq]at this;rw[aq];exact this
  .intro i d x;exact(cZ (h.all d (bT x))).1
  intro i d j u c x B r;exact A u c (C i d j u c x B r)
 intro b p;simp only at p;split at p
 .cases p
 exact absurd p (by assumption)
def dA.grow{l:Nat}{T:Tbb}{t:Ty}{v v':Tao}{xs ys:Tah}{news:Tad}(h:dA w S ow l T t v xs)(A:Wf w S ow)(M:∀y∈ys,Has t y)(J:mG t (xs++ys).length)(W:news.length=ys.length*t.cells.length)(N:∀(i:Nat) d (j:Nat) u c,ys[i]?=some d->d.cells[j]?=some c->news[i*t.cells.length+j]?=some u->bV w S u c)(I:∀E,w.ownsRow 0 T t.cells.length v xs.length E->w'.ownsRow 0 T t.cells.length v' (xs.length+ys.length) (E++news)/\((v'.ownBlock=v.ownBlock/\w.grownBy w' v.ownBlock)\/(v'.ownBlock=some w.heap.size/\w.grownBy w' none))):
  ∃cE,bB (iF l) ax w S ow w' S cE/\Wf w' S cE/\dA w' S cE l T t v' (xs++ys)/\∀b,cE b=some l->(v'.ownBlock=some b\/ow b=some l):=by
 obtain⟨E,U,Y⟩:=h.own;obtain⟨q,a⟩:=I E U
 have m:w'.os=w.os/\w'.tape=w.tape/\w'.output=w.output/\w.heap.size<=w'.heap.size:=by rcases a with⟨_,hg⟩|⟨_,hg⟩<;>exact⟨hg.os,hg.tape,hg.output,hg.size⟩
 have n:∀b,b<w.heap.size->v.ownBlock≠some b->w'.heap[b]?=w.heap[b]? :=by
  intro b k O;rcases a with⟨_,hg⟩|⟨_,hg⟩
  .exact hg.block b k (fun e=>O e.symm)
  exact hg.block b k (by simp)
 have H:∀b,v.ownBlock=some b->∀o,¬S b o:=fun b k o hs=>by have:=A.d b o l hs (h.iu b k);have:=h.ll;omega
 have C:∀b o,S b o->w'.cell? ⟨b,o,none⟩=w.cell? ⟨b,o,none⟩:=fun b o hs=>bj (n b (A.s b o hs) (fun k=>H b k o hs))
 have B:bB (iF l) ax w S ow w' S (fun b=>if v'.ownBlock=some b then some l else ow b):=by
  refine⟨m.2.2.2,m.1,m.2.1,m.2.2.1,?_,?_,fun _ _ h=>h,C,?_,fun _ _ h=>.inl h,?_,fun b z p=>(by
   split at p
   .injection p with p;exact .inr p.symm
   exact .inl p)⟩
  .intro b z k g p;exact n b k (fun f=>p (by have:=(h.iu b f).symm.trans g;injection this with this;exact this.symm))
  .intro b k g _;exact n b k (fun f=>by rw[h.iu b f]at g;cases g)
  .intro b z g p;rw[if_neg ?_]
   .exact g
   intro f;rcases a with⟨he,_⟩|⟨he,_⟩
   .have:=(h.iu b (he▸f)).symm.trans g;injection this with this;exact p this.symm
   rw[he]at f;injection f with f;have:=A.o b z g;omega
  intro b k g;rw[if_neg ?_]
  .exact g
  intro f;rcases a with⟨he,_⟩|⟨he,_⟩
  .rw[h.iu b (he▸f)]at g;cases g
  rw[he]at f;injection f with f;omega
 refine⟨_,B,⟨fun b o hs=>ar (A.s b o hs) m.2.2.2,?_,?_⟩,⟨?_,h.sz,fun b k=>by simp[k],h.ll,E++news,by rw[ah];exact q,?_⟩,?_⟩
 .intro b z g;split at g
  .rename_i f;exact(q.lt b f).2
  exact ar (A.o b z g) m.2.2.2
 .intro b o z hs g;split at g
  .rename_i f;rcases a with⟨he,_⟩|⟨he,_⟩
   .exact absurd hs (H b (he▸f) o)
   rw[he]at f;injection f with f;have:=A.s b o hs;omega
  exact A.d b o z hs g
 .refine⟨xs++ys,rfl,J,fun x G=>?_⟩;rcases aQ.1 G with G|G
  .exact h.all x G
  exact M x G
 .intro i d j u c F R K;have V:E.length=xs.length*t.cells.length:=U.1;by_cases P:i<xs.length
  .have Q:d.cells.length=t.cells.length:=by rw[ak P]at F;exact(cZ (h.all d (bT F))).1
   have Z:j<t.cells.length:=by rw[<-Q];exact(aD.1 R).1
   have r:(i+1)*t.cells.length<=xs.length*t.cells.length:=aw _ P;rw[cq,Nat.one_mul]at r;rw[ak P]at F;rw[ak (by omega)]at K;exact(Y i d j u c F R K).O B
  rw[ay (by omega)]at F;have r:xs.length*t.cells.length<=i*t.cells.length:=aw _ (by omega);rw[ay (by omega)]at K;refine(N (i-xs.length) d j u c F R ?_).O B;rw[<-K];congr 1;rw[Nat.sub_mul];omega
 intro b k;split at k
 .rename_i f;exact .inl f
 exact .inr k
end
def Oe(P:Tba)(tt T:Tbb)(t:Ty):Bool:=match P.underlying tt with
 |some (.slice e)=>e==T&&(match P.info? T with
  |some ie=>ie.size==t.cells.length&&ie.bytes==t.bytes&&(match ie.zero with
   |some z=>z.cells.size==t.cells.length
   |none=>false)
  |none=>false)
 |_=>false
section
variable{L L' X X':Taj}{w w' GW:Tan}{S S' Mi:bG}{ow cE zM:Ow}{P:Tba}
def dA.sZ{l:Nat}{tt T:Tbb}{t:Ty}{v:Tao}{xs ys:Tah}(h:dA w S ow l T t v xs)(a:Oe P tt T t=true)(M:t.cells.all Ty.scalar=true)(hw:Wf w S ow)(ty:Tbb)(A:Tap Addr)(c:Nat)(news:Tad)(hA:A=none->ys.length=0)(n:news.length=ys.length*t.cells.length)(o:∀ad,A=some ad->∀(j:Nat) u,news[j]?=some u->w.cell? (ad.add j)=some u)(s:∀y∈ys,Has t y)(F:∀(i:Nat) d (j:Nat) u c,ys[i]?=some d->d.cells[j]?=some c->news[i*t.cells.length+j]?=some u->bV w S u c)(k:mG t (xs.length+ys.length)):
  ∃r w',(Builtin.append_ #[tt,tt] ty #[v,.slice A ys.length c]).run P w=.ok r w'/\∃cE,bB (iF l) ax w S ow w' S cE/\Wf w' S cE/\dA w' S cE l T t r (xs++ys):=by
 unfold Oe at a;split at a
 .rename_i e hu;rw[aP,beq_iff_eq]at a;obtain⟨rfl,a⟩:=a;split at a
  .rename_i ie R;simp only[aP,beq_iff_eq]at a;obtain⟨⟨h1,h2⟩,H⟩:=a;split at H
   .rename_i z hz;rw[beq_iff_eq]at H;have B:=h.sz
    have E:∀u∈news,u.oneCell'=true:=by
     intro uu J;obtain⟨q,V⟩:=au J;have O:q<news.length:=(aD.1 V).1;have W:q/t.cells.length<ys.length:=by rw[Nat.div_lt_iff_lt_mul B,<-n];exact O
     have Q:q % t.cells.length<t.cells.length:=Nat.mod_lt _ B;have Y:ys[q/t.cells.length]?=some (ys[q/t.cells.length]'W):=aR W;have K:t.cells[q % t.cells.length]?=some (t.cells[q % t.cells.length]'Q):=aR Q;obtain⟨cc,U,G⟩:=(cZ (s _ (bT Y))).2 _ _ K;have N:q/t.cells.length*t.cells.length+q % t.cells.length=q:=by rw[Nat.mul_comm];exact Nat.div_add_mod _ _
     exact(F _ _ _ uu cc Y U (by rw[N];exact V)).iH G (bU.1 M _ (aF Q))
    obtain⟨vs,f,_⟩:=h.own;obtain⟨r,w',C,ho,p⟩:=jO (P:=P) w 0 tt ty e ie z t.cells.length hu R hz h1 H v xs.length vs f A ys.length c news hA n o E k.1 (by rw[h2];exact k.2) (aB _)
    obtain⟨cE,a1,a2,a3,_⟩:=h.grow hw s (by rw[ah];exact k) n F (w':=w') (v':=r) (fun I x=>by
     have:I=vs:=by
      rcases f.2 with⟨rfl,hn⟩|⟨g,cap,cur,rfl,_,hg,_,_,_,ht⟩
      .have e1:=f.1;have Z:=x.1;rw[hn,Nat.zero_mul]at e1 Z;rw[an e1,an Z]
      rcases x.2 with⟨hh,_⟩|⟨g2,ahp,ahm,hh,_,b,_,_,_,Y6⟩
      .cases hh
      injection hh with m _ _;injection m with m;injection m with m _;subst m;rw[hg]at b;injection b with b;injection b with b;subst b;exact Y6.symm.trans ht
     subst this;exact⟨ho,p⟩)
    exact⟨r,w',C,cE,a1,a2,a3⟩
   cases H
  cases a
 cases a
def jj{dst:Tal}{tt ty:Tbb}{pos:String}{af:Tbe Edge}{gd:Tap (Nat×Bool)}{a:Act}{x y:Tbc}{v u v':Tao}(c:a.eval x=v)(b:a.eval y=u)(h:(Builtin.append_ #[tt,tt] ty #[v,u]).run P w=.ok v' w'):
  (execOp a.eval ⟨dst,.call {callee:=.builtin .append,args:=#[x,y],argTypes:=#[tt,tt]},ty,pos,af,gd⟩).run P w=.ok (.value v') w':=by unfold execOp;simp only[resolve,invoke,builtin];simp[c,b,h]
def bB.alloc(a:Wf w S ow)(o:Obj):bB ax ax w S ow (w.alloc o) S ow/\Wf (w.alloc o) S ow:=
 ⟨⟨by simp,rfl,rfl,rfl,fun b _ e _ _=>Below.heap_alloc w o _ e,fun b e _ _=>Below.heap_alloc w o _ e,fun _ _ h=>h,fun b c hs=>bj (Below.heap_alloc w o _ (a.s b c hs)),fun _ _ h _=>h,fun _ _ h=>.inl h,fun _ _ h=>h,fun _ _ h=>.inl h⟩,
  ⟨fun b c hs=>ar (a.s b c hs) (by simp),fun b l f=>ar (a.o b l f) (by simp),a.d⟩⟩
structure fU(w:Tan)(S:bG)(ow:Ow)(b:Nat)(T:Tbb)(vs:Tad):Prop where
 heap:w.heap[b]?=some (.cells vs.toArray T (0,0))
 ow:ow b=none
 s:∀o,¬S b o
def fU.new(a:Wf w S ow)(T:Tbb)(vs:Tad):fU (w.alloc (.cells vs.toArray T)) S ow w.heap.size T vs:=
 ⟨heap_alloc_new w _,by cases h:ow w.heap.size with|none=>rfl|some l=>have:=a.o _ _ h;omega,fun o hs=>by have:=a.s _ _ hs;omega⟩
def fU.lt{b:Nat}{T:Tbb}{vs:Tad}(h:fU w S ow b T vs):b<w.heap.size:=(aI.1 h.heap).1
def fU.O{b:Nat}{T:Tbb}{vs:Tad}(h:fU w S ow b T vs)(c:bB L X w S ow w' S' cE)(d:¬X b):fU w' S' cE b T vs:=by
 refine⟨(c.free b h.lt h.ow d).trans h.heap,c.qT b h.lt h.ow,fun o hs=>?_⟩;rcases c.new b o hs with a|a|⟨l,a,_⟩
 .exact h.s o a
 .have:=h.lt;omega
 rw[h.ow]at a;cases a
def fU.set{b:Nat}{T:Tbb}{vs us:Tad}(h:fU w S ow b T vs)(c:Wf w S ow):bB ax (iF b) w S ow (w.setRow b us.toArray) S ow/\Wf (w.setRow b us.toArray) S ow/\fU (w.setRow b us.toArray) S ow b T us:=by have f:∀k,k≠b->(w.setRow b us.toArray).heap[k]?=w.heap[k]? :=fun k g=>setRow_other w _ k _ g;refine⟨⟨by simp,rfl,rfl,rfl,fun k l g a _=>f k (fun e=>by rw[e,h.ow]at a;cases a),fun k g _ i=>f k i,fun _ _ h=>h,fun k o hs=>bj (f k (fun e=>h.s o (e▸hs))),fun _ _ h _=>h,fun _ _ h=>.inl h,fun _ _ h=>h,fun _ _ h=>.inl h⟩,⟨fun k o hs=>by simpa using c.s k o hs,fun k l a=>by simpa using c.o k l a,c.d⟩,⟨?_,h.ow,h.s⟩⟩;exact setRow_heap w b _ _ T (0,0) h.heap
structure ur(w:Tan)(ow:Ow)(l b:Nat)(T:Tbb)(vs:Tad):Prop where
 heap:w.heap[b]?=some (.cells vs.toArray T (0,0))
 ow:ow b=some l
 ll:l<1000
def ur.lt{l b:Nat}{T:Tbb}{vs:Tad}(h:ur w ow l b T vs):b<w.heap.size:=(aI.1 h.heap).1
def ur.O{l b:Nat}{T:Tbb}{vs:Tad}(h:ur w ow l b T vs)(a:bB L X w S ow w' S' cE)(c:¬L l):ur w' cE l b T vs:=⟨(a.E1 b l h.lt h.ow c).trans h.heap,a.keep b l h.ow c,h.ll⟩
def ur.set{l b:Nat}{T:Tbb}{vs us:Tad}(h:ur w ow l b T vs)(c:Wf w S ow):bB (iF l) ax w S ow (w.setRow b us.toArray) S ow/\Wf (w.setRow b us.toArray) S ow/\ur (w.setRow b us.toArray) ow l b T us:=by have g:∀k,k≠b->(w.setRow b us.toArray).heap[k]?=w.heap[k]? :=fun k i=>setRow_other w _ k _ i;refine⟨⟨by simp,rfl,rfl,rfl,fun k m i a f=>g k (fun e=>f (by rw[e,h.ow]at a;injection a with a;exact a.symm)),fun k i f _=>g k (fun e=>by rw[e,h.ow]at f;cases f),fun _ _ h=>h,fun k o hs=>bj (g k (fun e=>by subst e;have:=c.d _ _ _ hs h.ow;have:=h.ll;omega)),fun _ _ h _=>h,fun _ _ h=>.inl h,fun _ _ h=>h,fun _ _ h=>.inl h⟩,⟨fun k o hs=>by simpa using c.s k o hs,fun k l j=>by simpa using c.o k l j,c.d⟩,⟨?_,h.ow,h.ll⟩⟩;exact setRow_heap w b _ _ T (0,0) h.heap
def iq{b j:Nat}{T:Tbb}{vs:Tad}{v:Tao}(h:w.heap[b]?=some (.cells vs.toArray T (0,0)))(a:vs[j]?=some v):w.cell? ⟨b,j,none⟩=some v:=by rw[cell_of_row w b j _ T (0,0) h];simpa using a
def dA.set{l i:Nat}{T:Tbb}{t:Ty}{v:Tao}{xs:Tah}{d:D}{us:Tad}(h:dA w S ow l T t v xs)(C:Wf w S ow)(V:i<xs.length)(W:Has t d)(a0:us.length=t.cells.length)(H:∀(j:Nat) u c,us[j]?=some u->d.cells[j]?=some c->bV w S u c):
  ∃(b f:Nat) (cur:Tbe Tao),v=.slice (some ⟨b,0,none⟩) xs.length f/\w.heap[b]?=some (.cells cur T (0,0))/\i*t.cells.length+us.length<=cur.size/\b<w.heap.size/\ow b=some l/\
   bB (iF l) ax w S ow (w.setRow b (cur.toList.take (i*t.cells.length)++us++cur.toList.drop (i*t.cells.length+us.length)).toArray) S ow/\Wf (w.setRow b (cur.toList.take (i*t.cells.length)++us++cur.toList.drop (i*t.cells.length+us.length)).toArray) S ow/\
   dA (w.setRow b (cur.toList.take (i*t.cells.length)++us++cur.toList.drop (i*t.cells.length+us.length)).toArray) S ow l T t v (xs.set i d):=by
 obtain⟨B,U,h2⟩:=h.own;rcases U.2 with⟨rfl,q⟩|⟨b,f,cur,rfl,h0,hg,rq,Vr,GZ,P7⟩
 .omega
 have y:(i+1)*t.cells.length<=xs.length*t.cells.length:=aw _ V;have M:xs.length*t.cells.length<=f*t.cells.length:=aw _ rq;rw[cq,Nat.one_mul]at y;have g:=h.iu b rfl;have A:i*t.cells.length+us.length<=cur.size:=by omega
 have I:∀(r:Tbe Tao) k,k≠b->(w.setRow b r).heap[k]?=w.heap[k]? :=fun r k a=>setRow_other w _ k _ a;have K:∀o,¬S b o:=fun o hs=>by have:=C.d b o l hs g;have:=h.ll;omega
 have n:∀r,bB (iF l) ax w S ow (w.setRow b r) S ow:=fun r=>
  ⟨by simp,rfl,rfl,rfl,fun k l' a m q=>I r k (fun e=>q (by rw[e,g]at m;injection m with m;exact m.symm)),fun k a q _=>I r k (fun e=>by rw[e,g]at q;cases q),fun _ _ h=>h,fun k o hs=>bj (I r k (fun e=>K o (e▸hs))),fun _ _ h _=>h,fun _ _ h=>.inl h,fun _ _ h=>h,fun _ _ h=>.inl h⟩
 refine⟨b,f,cur,rfl,hg,A,(aI.1 hg).1,g,n _,⟨fun k o hs=>by simpa using C.s k o hs,fun k l hl=>by simpa using C.o k l hl,C.d⟩,⟨?_,h.sz,h.iu,h.ll,B.take (i*t.cells.length)++us++B.drop (i*t.cells.length+us.length),?_,?_⟩⟩
 .refine⟨_,rfl,by rw[aK];exact h.len,fun x p=>?_⟩;rcases eY p with p|rfl
  .exact h.all x p
  exact W
 .have G:B.length=xs.length*t.cells.length:=U.1;refine⟨by simp only[ah,aO,bh,aK];omega,.inr ⟨b,f,_,by rw[aK],h0,setRow_heap w b _ _ T (0,0) hg,by rw[aK];exact rq,Vr,?_,?_⟩⟩
  .simp only[cb,ah,aO,bh,fE];omega
  rw[<-P7,aK];apply eH;intro j;simp only[dy,aC,aL,aO,ah,fE,bh];by_cases c1:j<i*t.cells.length
  .have e1:j<xs.length*t.cells.length:=by omega
   have e2:j<i*t.cells.length+us.length:=by omega
   have e3:j<min (i*t.cells.length) cur.size:=by omega
   have e4:j<min (i*t.cells.length) cur.size+us.length:=by omega
   have e5:j<min (i*t.cells.length) (min (xs.length*t.cells.length) cur.size):=by omega
   have e6:j<min (i*t.cells.length) (min (xs.length*t.cells.length) cur.size)+us.length:=by omega
   simp only[e1,e3,e4,e5,e6,c1,if_true]
  by_cases c2:j<i*t.cells.length+us.length
  .rw[if_pos (by omega),if_pos (by omega),if_neg (by omega),if_pos (by omega),if_neg (by omega)];congr 1;omega
  by_cases Z:j<xs.length*t.cells.length
  .rw[if_pos Z,if_neg (by omega),if_neg (by omega),if_pos (by omega)];congr 1;omega
  rw[if_neg Z,if_neg (by omega),if_neg (by omega)]
 intro k Y j u c a R E;have G:B.length=xs.length*t.cells.length:=U.1
 have Q:Y.cells.length=t.cells.length:=by
  rcases eY (bT a) with p|rfl
  .exact(cZ (h.all _ p)).1
  exact(cZ W).1
 have hj:j<t.cells.length:=by rw[<-Q];exact(aD.1 R).1
 have O:k<xs.length:=by have:=(aD.1 a).1;rwa [aK]at this
 have N:(k+1)*t.cells.length<=xs.length*t.cells.length:=aw _ O;rw[cq,Nat.one_mul]at N;simp only[dy,aC,aL,aO,ah]at E;rw[bF]at a;by_cases z:i=k
 .subst z;rw[if_pos rfl,if_pos V]at a;injection a with a;subst a;rw[if_pos (by omega),if_neg (by omega)]at E;refine(H j u c ?_ R).O (n _);rw[<-E];congr 1;omega
 rw[if_neg z]at a
 have J:k*t.cells.length+j<i*t.cells.length\/i*t.cells.length+us.length<=k*t.cells.length+j:=by
  rcases eK k i with F|F
  .have:(k+1)*t.cells.length<=i*t.cells.length:=aw _ F;rw[cq,Nat.one_mul]at this;omega
  have:(i+1)*t.cells.length<=k*t.cells.length:=aw _ (by omega);rw[cq,Nat.one_mul]at this;omega
 refine(h2 k Y j u c a R ?_).O (n _);rw[<-E];rcases J with F|F
 .rw[if_pos (by omega),if_pos (by omega),if_pos (by omega)]
 rw[if_neg (by omega)];congr 1;omega
end
section
variable{L L' X X':Taj}{w w' GW:Tan}{S S' Mi:bG}{ow cE zM:Ow}{P:Tba}
structure jS(w:Tan)(ow:Ow)(l:Nat)(T:Tbb)(v:Tao)(vs:Tad):Prop where
 own:w.ownsRow 0 T 1 v vs.length vs
 iu:∀b,v.ownBlock=some b->ow b=some l
 ll:l<1000
def jS.O{l:Nat}{T:Tbb}{v:Tao}{vs:Tad}(h:jS w ow l T v vs)(e:Wf w S ow)(c:bB L X w S ow w' S' cE)(d:¬L l):jS w' cE l T v vs:=
 ⟨qH h.own (fun b a=>c.E1 b l (e.o b l (h.iu b a)) (h.iu b a) d),fun b a=>c.keep b l (h.iu b a) d,h.ll⟩
def jS.nil{l:Nat}{T:Tbb}(a:l<1000):jS w ow l T (.slice none 0 0) []:=⟨fB _ _ _ _,fun b c=>(by cases c),a⟩
def jS.elem{l:Nat}{T:Tbb}{v:Tao}{vs:Tad}(h:jS w ow l T v vs){i:Nat}{u:Tao}(c:vs[i]?=some u):
  ∃b a,v=.slice (some ⟨b,0,none⟩) vs.length a/\b<w.heap.size/\ow b=some l/\w.cell? ⟨b,i,none⟩=some u:=by
 have d:i<vs.length:=(aD.1 c).1;rcases h.own.2 with⟨rfl,hn⟩|⟨g,a,cur,rfl,_,hg,rq,Vr,GZ,P7⟩
 .omega
 refine⟨g,a,rfl,(aI.1 hg).1,h.iu g rfl,?_⟩;have:=h.own.cells (g:=g) rfl i u c;rw[fL,aq]at this;exact this
def jS.slice{l:Nat}{T:Tbb}{v:Tao}{vs:Tad}(h:jS w ow l T v vs):∃A cap,v=.slice A vs.length cap:=by
 rcases h.own.2 with⟨rfl,hn⟩|⟨g,cap,cur,rfl,_⟩
 .exact⟨none,0,by rw[hn]⟩
 exact⟨_,cap,rfl⟩
def Tg(P:Tba)(tt T:Tbb):Bool:=match P.underlying tt with
 |some (.slice e)=>e==T&&(match P.info? T with
  |some ie=>ie.size==1&&decide (ie.bytes<=24)&&(match ie.zero with
   |some z=>z.cells.size==1
   |none=>false)
  |none=>false)
 |_=>false
def jS.sZ{l:Nat}{tt T:Tbb}{v u:Tao}{vs:Tad}(h:jS w ow l T v vs)(f:Tg P tt T=true)(t:Wf w S ow)(ty:Tbb)(A:Addr)(c:Nat)(N:w.cell? A=some u)(D:u.oneCell'=true)(E:vs.length+1<=1000000):
  ∃p w',(Builtin.append_ #[tt,tt] ty #[v,.slice (some A) 1 c]).run P w=.ok p w'/\∃cE,bB (iF l) ax w S ow w' S cE/\Wf w' S cE/\jS w' cE l T p (vs++[u]):=by
 unfold Tg at f;split at f
 .rename_i e H;rw[aP,beq_iff_eq]at f;obtain⟨rfl,f⟩:=f;split at f
  .rename_i K J;simp only[aP,beq_iff_eq,bg]at f;obtain⟨⟨Q,O⟩,G⟩:=f;split at G
   .rename_i z M;rw[beq_iff_eq]at G
    obtain⟨p,w',C,k,a⟩:=jO (P:=P) w 0 tt ty e K z 1 H J M Q G v vs.length vs h.own (some A) 1 c [u] (by intro h;cases h) rfl
     (by
      intro R y j x F;injection y with y;subst y
      match j,F with
      |0,F=>simp at F;subst F;simpa [Addr.add]using N) (by simpa using D) (by simp only[maxLen];omega) (by have:(vs.length+1)*K.bytes<=1000000*24:=Nat.mul_le_mul E O;omega) (aB _)
    have m:w'.os=w.os/\w'.tape=w.tape/\w'.output=w.output/\w.heap.size<=w'.heap.size:=by rcases a with⟨_,hg⟩|⟨_,hg⟩<;>exact⟨hg.os,hg.tape,hg.output,hg.size⟩
    have r:∀b,b<w.heap.size->v.ownBlock≠some b->w'.heap[b]?=w.heap[b]? :=by
     intro b n I;rcases a with⟨_,hg⟩|⟨_,hg⟩
     .exact hg.block b n (fun e=>I e.symm)
     exact hg.block b n (by simp)
    have B:∀b,v.ownBlock=some b->∀o,¬S b o:=fun b n o hs=>by have:=t.d b o l hs (h.iu b n);have:=h.ll;omega
    refine⟨p,w',C,fun b=>if p.ownBlock=some b then some l else ow b,⟨m.2.2.2,m.1,m.2.1,m.2.2.1,?_,?_,fun _ _ h=>h,?_,?_,fun _ _ h=>.inl h,?_,fun b l' q=>(by
     replace q:(if p.ownBlock=some b then some l else ow b)=some l':=q;split at q
     .injection q with q;exact .inr q.symm
     exact .inl q)⟩,⟨fun b o hs=>ar (t.s b o hs) m.2.2.2,?_,?_⟩,?_,?_,h.ll⟩
    .intro b l' n k q;exact r b n (fun g=>q (by have:=(h.iu b g).symm.trans k;injection this with this;exact this.symm))
    .intro b n k _;exact r b n (fun g=>by rw[h.iu b g]at k;cases k)
    .intro b o hs;exact bj (r b (t.s b o hs) (fun n=>B b n o hs))
    .intro b l' k q;show(if p.ownBlock=some b then some l else ow b)=some l';rw[if_neg ?_]
     .exact k
     intro g;rcases a with⟨he,_⟩|⟨he,_⟩
     .have:=(h.iu b (he▸g)).symm.trans k;injection this with this;exact q this.symm
     rw[he]at g;injection g with g;have:=t.o b l' k;omega
    .intro b n k;show(if p.ownBlock=some b then some l else ow b)=none;rw[if_neg ?_]
     .exact k
     intro g;rcases a with⟨he,_⟩|⟨he,_⟩
     .rw[h.iu b (he▸g)]at k;cases k
     rw[he]at g;injection g with g;omega
    .intro b l' i;replace i:(if p.ownBlock=some b then some l else ow b)=some l':=i;split at i
     .rename_i g;exact(k.lt b g).2
     exact ar (t.o b l' i) m.2.2.2
    .intro b o l' hs i;replace i:(if p.ownBlock=some b then some l else ow b)=some l':=i;split at i
     .rename_i g;rcases a with⟨he,_⟩|⟨he,_⟩
      .exact absurd hs (B b (he▸g) o)
      rw[he]at g;injection g with g;have:=t.s b o hs;omega
     exact t.d b o l' hs i
    .rw[ah];exact k
    intro b n;show(if p.ownBlock=some b then some l else ow b)=some l;rw[if_pos n]
   cases G
  cases f
 cases f
def jS.set{l i:Nat}{T:Tbb}{v u:Tao}{vs:Tad}(h:jS w ow l T v vs)(j:Wf w S ow)(y:i<vs.length):
  ∃(b f:Nat) (cur:Tbe Tao),v=.slice (some ⟨b,0,none⟩) vs.length f/\w.heap[b]?=some (.cells cur T (0,0))/\i+1<=cur.size/\b<w.heap.size/\ow b=some l/\
   bB (iF l) ax w S ow (w.setRow b (cur.toList.take i++[u]++cur.toList.drop (i+1)).toArray) S ow/\Wf (w.setRow b (cur.toList.take i++[u]++cur.toList.drop (i+1)).toArray) S ow/\
   jS (w.setRow b (cur.toList.take i++[u]++cur.toList.drop (i+1)).toArray) ow l T v (vs.set i u):=by
 rcases h.own.2 with⟨rfl,g⟩|⟨b,f,cur,rfl,h0,hg,rq,Vr,GZ,P7⟩
 .omega
 rw[bL]at GZ P7;have a:=h.iu b rfl;have m:∀(r:Tbe Tao) k,k≠b->(w.setRow b r).heap[k]?=w.heap[k]? :=fun r k p=>setRow_other w _ k _ p;have n:∀o,¬S b o:=fun o hs=>by have:=j.d b o l hs a;have:=h.ll;omega
 refine⟨b,f,cur,rfl,hg,by omega,(aI.1 hg).1,a,
  ⟨by simp,rfl,rfl,rfl,fun k x p c g=>m _ k (fun e=>g (by rw[e,a]at c;injection c with c;exact c.symm)),fun k p g _=>m _ k (fun e=>by rw[e,a]at g;cases g),fun _ _ h=>h,fun k o hs=>bj (m _ k (fun e=>n o (e▸hs))),fun _ _ h _=>h,fun _ _ h=>.inl h,fun _ _ h=>h,fun _ _ h=>.inl h⟩,
  ⟨fun k o hs=>by simpa using j.s k o hs,fun k l t=>by simpa using j.o k l t,j.d⟩,⟨⟨by simp,.inr ⟨b,f,_,by rw[aK],h0,setRow_heap w b _ _ T (0,0) hg,by rw[aK];exact rq,Vr,?_,?_⟩⟩,h.iu,h.ll⟩⟩
 .simp only[cb,ah,aO,bh,fE,ba];omega
 have q:i<cur.toList.length:=by rw[fE];omega
 rw[aK,bL,Bj q];show List.take _ (cur.toList.set i u)=_;rw[List.take_set,P7]
def kK(w:Tan)(S:bG)(ow:Ow)(l:Nat)(ob:Ob)(b:Nat)(cells:List (Tah)):Prop:=
 ∃(c:Nat->Nat) (d:Tak),c 0=b/\Cz w S ob c d [.pointer (some ⟨b,0,none⟩)] [] cells/\(∀a,ug ob c d a->ow a=some l)
def kK.O{l:Nat}{ob:Ob}{b:Nat}{cells:List (Tah)}(h:kK w S ow l ob b cells)(N:Wf w S ow)(F:Wf w' S' cE)(q:bB L X w S ow w' S' cE)(I:¬L l)(G:ob.shape=[true]):kK w' S' cE l ob b cells:=by
 obtain⟨y,C,Z,a,f⟩:=h;have g:∀k,ug ob y C k->w'.heap[k]?=w.heap[k]? :=fun k e=>q.E1 k l (N.o k l (f k e)) (f k e) I
 have B:∀k o,ug ob y C k->S' k o->S k o:=by
  intro k o e hs;rcases q.new k o hs with m|m|⟨M,m,K⟩
  .exact m
  .have:=N.o k l (f k e);omega
  rw[f k e]at m;injection m with m;subst m;exact absurd K I
 refine⟨y,C,Z,⟨F.s,?_,a.len,?_,a.inj,a.own,a.eO,?_⟩,fun k e=>q.keep k l (f k e) I⟩
 .have:=a.args;rw[G]at this⊢;exact this
 .intro o E cs x p;obtain⟨z,T,m,K,h3,h4,h5⟩:=a.cC o E cs x p;have n:o<ob.cC.length:=(aD.1 x).1;have A:ug ob y C (y o):=.inl ⟨o,n,rfl⟩;refine⟨z,T,(g _ A).trans m,K,h3,?_,fun V hs=>h5 V (B _ _ A hs)⟩;intro i r v d O W Y;have p:=h4 i r v d O W Y;obtain⟨t,U⟩:=r;cases U with
  |none=>exact⟨p.1.O q,p.2⟩
  |some jT=>
   obtain⟨j,TT⟩:=jT;obtain⟨rfl,J⟩:=p;have Q:j∈ob.jz:=cU.2 ⟨E,bT x,bE.2 ⟨_,bT O,rfl⟩⟩;refine⟨rfl,J.has,J.sz,?_⟩;obtain⟨R,M,a1,a2,a3,a4⟩:=J.own;refine⟨R,M,a1,qH a2 (fun k e=>g k (.inr ⟨j,Q,e⟩)),fun k e o=>?_,fun i d j u c b1 b2 b3=>(a4 i d j u c b1 b2 b3).O q⟩;rw[<-a3 k e o];exact⟨B k o (.inr ⟨j,Q,e⟩),q.jx k o⟩
 intro H o c E x p;have n:o<ob.cC.length:=(aD.1 x).1;rw[bj (g _ (.inl ⟨o,n,rfl⟩))];exact a.link H o c E x p
end
end Go.dG
