/- Part 6 of the proof of RaftLearns; no condition. -/
import Derived.Test.YtjhmkaninmgilaaS05
import Derived.Test.YtjhmkaninmgilaaS04
set_option linter.defProp false
set_option linter.unusedVariables false
set_option linter.unusedSimpArgs false
set_option maxHeartbeats 4000000
open Go.IntKind (i64)
namespace Go.Proofs.Ytjhmkaninmgilaa
open Go Go.RowKit Go.dF Go.Proofs
def agk:bu Try.prog 65 Z4 (pre 65) (cF 65):=by
 refine zO JW Try.func65 (v:=R9) ?_;intro C h b;obtain⟨_,_,rfl,⟨f,rfl,o⟩,_,_,rfl,⟨m,rfl,k⟩,_,_,rfl,⟨i,rfl,w⟩,_,_,rfl,⟨t,rfl,u⟩,_,_,rfl,⟨l,rfl,a,x⟩,rfl⟩:=h;have p:cF 65 [.int i64 f,.int i64 m,.int i64 i,.int i64 t,.list l]=.ff [.list (gu i l f m),qp i t l]:=rfl;simp[R9,fp,ev,ep,cN,eu,dC,fo,ft,fq,fX,den,U.den,B.den,fC,bc,db,eF,eD,eE,fD,bU,cV,pre,p,qp];replace b:okB i t=true:=b;rw[ui]at o k;obtain⟨s,j,_,_⟩:=jE.1 b;have c:=a.1;have e:=a.2;rw[ou]at e;simp only[maxLen,MX]at c j⊢;refine⟨?_,fun A z=>?_⟩
 .intro h;unfold gu;by_cases d:m<1\/f<=i
  .rw[if_pos d]
  rw[if_neg d];have r:=h.resolve_left d;rw[wrap64 (n:=f-i) (by omega) (by omega),wrap64 (by omega) (by omega)]at r;rw[bL (by omega)];simp
 rw[wrap64 (n:=f-i) (by omega) (by omega),wrap64 (n:=f-i-1) (by omega) (by omega)];intro y;rw[wrap64 (n:=(l.length:Int)-(f-i-1)) (by omega) (by omega)];have g:gu i l f m=(l.drop (f-i-1).toNat).take m.toNat:=by unfold gu;rw[if_neg (by omega)]
 refine⟨fun q=>?_,fun q=>?_⟩
 .rw[wrap64 (n:=f-i-1+m) (by omega) (by omega)];refine⟨by omega,⟨by omega,aY (aw 320 (by omega)) e⟩,?_⟩;rw[g,List.drop_take];congr 1;omega
 refine⟨by omega,⟨by omega,aY (aw 320 (by omega)) e⟩,?_⟩;rw[g,eM (by rw[ba];omega)]
def OG:jm Try.prog pre cF Sh:=aR agk JW
def c53:bu Try.prog 53 s53 (pre 53) (cF 53):=by refine zO OG Try.func53 (v:=aeK) ?_;intro c h b;have a:=h;obtain⟨s,rfl⟩:=fU h;refine zH oO iA dN (y:=fL s) zK
def Ue:jm Try.prog pre cF ZM:=aR c53 OG
def c35:bu Try.prog 35 s35 (pre 35) (cF 35):=by refine zO Ue Try.func35 (v:=aeL) ?_;intro c h b;have a:=h;obtain⟨s,rfl⟩:=fU h;refine zH oO iA dN (y:=kA s) zK
def Uu:jm Try.prog pre cF ZU:=aR c35 Ue
def afu(x:D)(s:RS):Prop:=
 (true=true->((s.msgs++([aC 46 x [(1,D.int i64 s.id),(3,D.int i64 s.term)]]:Taf)):Taf).length<=maxLen/\((s.msgs++([aC 46 x [(1,D.int i64 s.id),(3,D.int i64 s.term)]]:Taf)):Taf).length*536<=140737488355328)/\(
 True)
def QR(x:D)(s:RS)(a:dx (.V eZ) (encS s))(h:Ok s 1):afu x s:=by refine⟨fun _=>?_,trivial⟩;have:=h.nm;simp only[ai,aW,maxLen];omega
def c64:bu Try.prog 64 s64 (pre 64) (cF 64):=by refine zO Uu Try.func64 (v:=aeI) ?_;intro e h c;obtain⟨x,_,rfl,d,a⟩:=aJ.1 h;have b:=a;obtain⟨s,rfl⟩:=fU a;refine zH oO iA dN (y:=gq x s) (zE (QR x s b c))
def T7:jm Try.prog pre cF Vm:=aR c64 Uu
def c41:bu Try.prog 41 s41 (pre 41) (cF 41):=by refine zO T7 Try.func41 (v:=Zh) ?_;intro g h f;obtain⟨_,_,rfl,⟨x,rfl,d⟩,b⟩:=aJ.1 h;obtain⟨_,_,rfl,⟨y,rfl,c⟩,a⟩:=aJ.1 b;have e:=a;obtain⟨s,rfl⟩:=fU a;refine zH oO iA dN (y:=eR x y s) zK
def Up:jm Try.prog pre cF ZS:=aR c41 T7
def c34:bu Try.prog 34 s34 (pre 34) (cF 34):=by refine zO Up Try.func34 (v:=aeM) ?_;intro c h b;have a:=h;obtain⟨s,rfl⟩:=fU h;refine zH Ql EY (.top,dN) (y:=bR s) zK
def Uv:jm Try.prog pre cF Vw:=aR c34 Up
def afD(x:D)(s:RS):Prop:=
 ((true=true->gn s.li s.lt s.le=true/\s.le.length<4294967296))/\(
 let xI:=VI s.li s.lt s.le s.term (aC 27 x [])
 (((xI.1.2==0)=true->
  (True)/\(
  let a:=fL ({s with li:=xI.2.1,lt:=xI.2.2.1,le:=xI.2.2.2}:RS)
  (true=true->((a.dX++([aC 29 xI.1.1 []]:Taf)):Taf).length<=maxLen/\((a.dX++([aC 29 xI.1.1 []]:Taf)):Taf).length*320<=140737488355328)/\(
  True))))/\(True))
def Q1(x:D)(s:RS)(a:dx (.V eZ) (encS s))(h:Ok s 1):afD x s:=by refine⟨fun _=>⟨h.may,by have:=h.rI;omega⟩,fun _=>⟨trivial,fun _=>?_,trivial⟩,trivial⟩;have:=h.ne;simp only[fL,ai,aW,maxLen];omega
def c39:bu Try.prog 39 s39 (pre 39) (cF 39):=by refine zO Uv Try.func39 (v:=Zi) ?_;intro e h c;obtain⟨x,_,rfl,d,a⟩:=aJ.1 h;have b:=a;obtain⟨s,rfl⟩:=fU a;refine zH acM JT ((.top,0),dN) (y:=jY x s) (zE (Q1 x s b c))
def Ur:jm Try.prog pre cF Vu:=aR c39 Uv
def X8(x:Int)(a b c d e f:Prop):Prop:=((x==0)=true->a)/\((x==0)=false->((x==1)=true->b)/\((x==1)=false->((x==2)=true->c)/\((x==2)=false->((x==3)=true->d)/\((x==3)=false->((x==4)=true->e)/\((x==4)=false->((x==5)=true->f)/\((x==5)=false->False))))))
def zx{x:Int}{a b c d e f:Prop}(t:0<=x)(s:x<=5)(l:a)(k:b)(j:c)(i:d)(h:e)(g:f):X8 x a b c d e f:=by refine⟨fun _=>l,fun r=>⟨fun _=>k,fun q=>⟨fun _=>j,fun p=>⟨fun _=>i,fun o=>⟨fun _=>h,fun n=>⟨fun _=>g,fun m=>?_⟩⟩⟩⟩⟩⟩;simp only[beq_eq_false_iff_ne,ne_eq]at*;omega
@[irreducible] def xN (s a:RS) (n o:Int):Prop:=
 (True)/\((decide (n<=(iS s.li s.lt s.le).1)=true->
   (True)/\((true=true->(decide (0<=o)&&(decide (o<=iN (i64.wrap (o+256)) (s.gN.length:Int))&&decide (iN (i64.wrap (o+256)) (s.gN.length:Int)<=(s.gN.length:Int))))=true)/\((True)/\((true=true->Ok a 1)/\True))))/\(decide (n<=(iS s.li s.lt s.le).1)=false->
   (true=true->gn s.li s.lt s.le=true)/\((true=true->okB s.li s.lt=true)/\((true=true->Ok s 1)/\True))))
def afG(x:Int)(s:RS):Prop:=
 X8 x (xN s {s with EN:=jv s.EN s} s.Bx (jv s.EN s)) (xN s {s with EM:=jv s.EM s} s.yC (jv s.EM s)) (xN s {s with EL:=jv s.EL s} s.yB (jv s.EL s)) (xN s {s with EK:=jv s.EK s} s.yA (jv s.EK s)) (xN s {s with EJ:=jv s.EJ s} s.yz (jv s.EJ s)) (xN s {s with EI:=jv s.EI s} s.yx (jv s.EI s))
def Pf{s a:RS}{n o:Int}(b:s.gN.length<=140737488355328)(h:Ok s 1)(e:er a=er s):xN s a n (jv o s):=by
 unfold xN
 (repeat' (first|exact trivial|apply And.intro|intro _))
 all_goals first
  |exact O6 _ _ b
  |exact h.may
  |exact h.MB
  |exact h
  |exact h.same (lD e)
def Q5(x:Int)(s:RS)(e:jX i64 x)(a:dx (.V eZ) (encS s))(h:Ok s 1/\0<=x/\x<=5):afG x s:=by have b:=K9 a;obtain⟨h,d,c⟩:=h;refine zx d c ?_ ?_ ?_ ?_ ?_ ?_<;>exact Pf b h rfl
def c33:bu Try.prog 33 s33 (pre 33) (cF 33):=by refine hZ (given:=[(0,{drop:=[4006001]})]) mix Ur Try.func33 rfl (by kernel_rfl) (v:=Zl) (by kernel_rfl) ?_;intro e h d;obtain⟨_,_,rfl,⟨x,rfl,b⟩,a⟩:=aJ.1 h;have c:=a;obtain⟨s,rfl⟩:=fU a;refine zH oO iA dN (y:=fy x s) (zE (Q5 x s b c d))
def Uw:jm Try.prog pre cF ZV:=aR c33 Ur
def c84:bu Try.prog 84 ED (pre 84) (cF 84):=by refine zF Uw Try.func84 (v:=aeF) ?_;intro c h b;obtain⟨x,_,rfl,a,rfl⟩:=h;refine zH D.W D.bool false (y:=lY x) zK
def TJ:jm Try.prog pre cF Zu:=aR c84 Uw
def acU:bu Try.prog 80 Sr (pre 80) (cF 80):=by
 refine zF TJ Try.func80 (v:=NZ) ?_;intro w h t;obtain⟨_,_,rfl,⟨l,rfl,e,u⟩,_,_,rfl,⟨_,rfl,rfl⟩,rfl⟩:=h;have i:=e.1;simp only[maxLen]at i;have s:cF 80 [.list l,.fn 84 []]=.int i64 (findF (wY (.fn 84 [])) l 0):=rfl;rw[s];have r:∀x,cF 84 [x]=.bool (wY (.fn 84 []) x):=fun _=>rfl;simp[NZ,fp,ev,ep,cN,eu,dC,fo,ft,fq,fX,den,U.den,B.den,fC,bc,db,eF,eD,eE,fD,bU,cV,pre,r];obtain⟨J,c⟩:∃J:Taf->Prop,∀d,J d↔∃n:Nat,∃y:Int,d=[.int i64 y,.int i64 n]/\n<=l.length/\findF (wY (.fn 84 [])) (l.drop n) n=findF (wY (.fn 84 [])) l 0:=⟨_,fun _=>dA⟩;obtain⟨M,f⟩:∃M:Taf->Nat,∀d,M d=l.length-((d.getD 1 .top).q).toNat:=⟨_,fun _=>rfl⟩;refine lB.intro J M ((c _).2 ⟨0,0,rfl,aF _,by simp⟩) ?_;intro d g m;obtain⟨n,y,rfl,p,a⟩:=(c _).1 m;clear m g;simp[fp,ev,ep,cN,eu,dC,fo,ft,fq,fX,den,U.den,B.den,fC,bc,db,eF,eD,eE,fD,bU,cV];refine⟨fun b=>?_,fun j=>?_⟩
 .have o:l[n]?=some l[n]:=aS b;have q:l.drop n=l[n] ::l.drop (n+1):=cY b;rw[q]at a;simp only[findF]at a;rw[o,bz];refine⟨by omega,fun k=>?_,fun k=>?_⟩
  .rw[if_pos k]at a;exact a
  rw[wrap64 (by omega) (by omega)];refine⟨(c _).2 ⟨n+1,y,by simp,b,?_⟩,?_⟩
  .rw[if_neg (by rw[k];simp)]at a;rw[<-a];simp
  rw[f,f];simp[bU];omega
 have:l.drop n=[]:=bL j;rw[this]at a;exact a
def Kw:jm Try.prog pre cF N5:=aR acU TJ
def acV:bu Try.prog 59 Ss (pre 59) (cF 59):=by refine zF Kw Try.func59 (v:=N1) ?_;intro f h d;obtain⟨_,_,rfl,⟨l,rfl,a,e⟩,_,_,rfl,⟨_,rfl,rfl⟩,rfl⟩:=h;have b:cF 59 [.list l,.fn 84 []]=.bool (mR l (.fn 84 [])):=rfl;have c:cF 80 [.list l,.fn 84 []]=.int i64 (findF (wY (.fn 84 [])) l 0):=rfl;rw[b];simp[N1,fp,ev,ep,cN,eu,dC,fo,ft,fq,fX,den,U.den,B.den,fC,bc,db,eF,eD,eE,fD,bU,cV,pre,c];rw[dJ,bk];exact(xC _ l 0 (ar 0)).symm
def Ky:jm Try.prog pre cF Hj:=aR acV Kw
def afq(x:Int)(s:RS):Prop:=
 (True)/\((decide (x<=s.bB)=false->
  ((true=true->okB s.li s.lt=true))/\(
  let a:=eJ s.li s.lt s.le (i64.wrap (s.bB+1)) (i64.wrap (x-s.bB))
  (true=true->((s.bM++a):Taf).length<=maxLen/\((s.bM++a):Taf).length*320<=140737488355328)/\(
  True))))
def QM(x:Int)(s:RS)(a:jX i64 x)(b:dx (.V eZ) (encS s))(h:Ok s 1):afq x s:=by have c:=tF (i:=s.li) (f:=i64.wrap (s.bB+1)) (m:=i64.wrap (x-s.bB)) (l:=s.le);have e:=h.nc;have d:=h.rI;refine⟨trivial,fun _=>⟨fun _=>h.MB,fun _=>?_,trivial⟩⟩;show(s.bM++gu _ _ _ _).length<=maxLen/\(s.bM++gu _ _ _ _).length*320<=_;rw[ai];simp only[maxLen];omega
def c73:bu Try.prog 73 s73 (pre 73) (cF 73):=by refine zO Ky Try.func73 (v:=YV) ?_;intro e h d;obtain⟨_,_,rfl,⟨x,rfl,b⟩,a⟩:=aJ.1 h;have c:=a;obtain⟨s,rfl⟩:=fU a;refine zH TI JU (false,dN) (y:=en x s) (zE (QM x s b c d))
def TV:jm Try.prog pre cF Vi:=aR c73 Ky
def afC(s:RS):Prop:=
 ((true=true->gn s.li s.lt s.le=true))/\(
 let a:=(fM s.li s.lt s.le)
 VC.EP cF pre iA (fun _ _ l=>nD s a (l.getD 0 .top).A (l.getD 1 .top).q) [] (VC.lp 69 Vb) (fC (fun i=>([]++encS s).getD i .top) 58 (D.ff [D.int i64 a.1,D.int i64 a.2])))
def ack(s:RS)(g:Int×Int)(b:Taf)(a:Int):Prop:=
 ((decide (a<((([D.int i64 0,D.int i64 0,D.int i64 0,D.int i64 0,D.int i64 0]:Taf):Taf).length:Int))=true->
  (((a==0)=true->
   (true=true->((decide (0<=0))&&(decide (0<((b:Taf).length:Int))))=true)/\(
   True)))/\(((a==0)=false->
   (((a==1)=true->
    (true=true->((decide (0<=1))&&(decide (1<((b:Taf).length:Int))))=true)/\(
    True)))/\(((a==1)=false->
    (((a==2)=true->
     (true=true->((decide (0<=2))&&(decide (2<((b:Taf).length:Int))))=true)/\(
     True)))/\(((a==2)=false->
     (((a==3)=true->
      (true=true->((decide (0<=3))&&(decide (3<((b:Taf).length:Int))))=true)/\(
      True)))/\(((a==3)=false->
      (((a==4)=true->
       (true=true->((decide (0<=4))&&(decide (4<((b:Taf).length:Int))))=true)/\(
       True)))/\(((a==4)=false->
       False))))))))))))/\((decide (a<((([D.int i64 0,D.int i64 0,D.int i64 0,D.int i64 0,D.int i64 0]:Taf):Taf).length:Int))=false->
  (true=true->((decide (0<=(i64.wrap (s.id-1))))&&(decide ((i64.wrap (s.id-1))<((b:Taf).length:Int))))=true)/\(
  ((true=true->Ok s 0))/\(
  let f:=(dR s)
  (True)/\(
  let d:=(pj (aC 2 f []) (D.list ((b.take ((i64.wrap (s.id-1)):Int).toNat)++(D.int i64 g.1::((b.drop ((i64.wrap (s.id-1)):Int).toNat).drop (1:Int).toNat)))))
  ((true=true->gn s.li s.lt s.le=true))/\(
  let e:=(jB s.li s.lt s.le d)
  (True)/\(((((decide (d<=s.bB))||(e.2 !=0))||(e.1 !=s.term))=false->
   ((true=true->Ok s 1))/\(
   let c:=en d s
   ((((c.1==true)&&true)=true->Ok c.2 0))/\(
   True))))))))))
def xu(s:RS)(k:Int×Int)(a:Taf)(b:Int):(Taf×Int)⊕(RS):=
 if decide (b<((([D.int i64 0,D.int i64 0,D.int i64 0,D.int i64 0,D.int i64 0]:Taf):Taf).length:Int)) then(
  if(b==0) then(
   .inl (((a.take (0:Int).toNat)++(D.int i64 s.BW::((a.drop (0:Int).toNat).drop (1:Int).toNat))),(i64.wrap (b+1))))
  else(
   if(b==1) then(
    .inl (((a.take (1:Int).toNat)++(D.int i64 s.BV::((a.drop (1:Int).toNat).drop (1:Int).toNat))),(i64.wrap (b+1))))
   else(
    if(b==2) then(
     .inl (((a.take (2:Int).toNat)++(D.int i64 s.BU::((a.drop (2:Int).toNat).drop (1:Int).toNat))),(i64.wrap (b+1))))
    else(
     if(b==3) then(
      .inl (((a.take (3:Int).toNat)++(D.int i64 s.BT::((a.drop (3:Int).toNat).drop (1:Int).toNat))),(i64.wrap (b+1))))
     else(
      if(b==4) then(
       .inl (((a.take (4:Int).toNat)++(D.int i64 s.BS::((a.drop (4:Int).toNat).drop (1:Int).toNat))),(i64.wrap (b+1))))
      else(
       .inr dN))))))
 else(
  let j:=(dR s);let d:=(pj (aC 2 j []) (D.list ((a.take ((i64.wrap (s.id-1)):Int).toNat)++(D.int i64 k.1::((a.drop ((i64.wrap (s.id-1)):Int).toNat).drop (1:Int).toNat)))));let e:=(jB s.li s.lt s.le d)
  if(((decide (d<=s.bB))||(e.2 !=0))||(e.1 !=s.term)) then(
   .inr (s))
  else(
   let c:=en d s;let g:=(dR c.2);let f:=(jM (aC 2 g []) c.2.id)
   if(c.1&&(!f)) then(
    let i:=eR c.2.term 0 c.2;let h:=kA i
    .inr (h))
   else(
    .inr (c.2))))
def Ec(s:RS)(a:Int×Int)(b:Taf)(j69:Int):xu s a b j69=lZ s a b j69:=by
 unfold xu lZ nF;dsimp only
 repeat (first|rfl|split)
def Q0(s:RS)(B:dx (.V eZ) (encS s))(h:Ok s 1):afC s:=by
 refine⟨fun _=>h.may,?_⟩;intro c
 clear_value c
 refine VC.js 69 (by kernel_rfl) ?_;refine VC.iq (Φ:=cF) (Pre:=pre) (triv:=triv) (v0:=69) (decL:=fun l=>((l.getD 0 .top).A,(l.getD 1 .top).q)) (encL:=fun a:Taf×Int=>([D.list a.1,D.int i64 a.2])) (dec:=oO) (enc:=iA) (lp:=fun _ _ _ _=>dN) (bad:=.inr dN) (bd:=dN) (by kernel_rfl) (fun a:Taf×Int=>lZ s c a.1 a.2) (fun a:Taf×Int=>a.1.length=5/\0<=a.2/\a.2<=5) (fun a:Taf×Int=>ma s c a.1 a.2) ([D.int i64 0,D.int i64 0,D.int i64 0,D.int i64 0,D.int i64 0],0) kH (by kernel_rfl) ?RV (fun a=>rfl) ?RY (by kernel_rfl) (fun a k=>Eq.trans (b:=xu s c a.1 a.2) (by kernel_rfl) (Ec s c a.1 a.2)) (fun a=>by kernel_rfl) (fun a=>by kernel_rfl) (fun a k r=>zE (β:=ack s c a.1 a.2) ?EV) (by kernel_rfl)
 .exact⟨rfl,by decide,by decide⟩
 .rintro⟨l,j⟩ ⟨d,g,f⟩;simp only at d g f;unfold lZ;dsimp only;have u:j=0\/j=1\/j=2\/j=3\/j=4\/j=5:=by omega
  have e:∀(x:D) (n:Int),n.toNat<5->(l.take n.toNat++(x::(l.drop n.toNat).drop (1:Int).toNat)).length=5:=by intro x n C;simp only[ai,aA,bg,ba,d];omega
  rcases u with rfl|rfl|rfl|rfl|rfl|rfl
  .rw[if_pos (by rfl),if_pos (by rfl)];refine⟨⟨e _ 0 (by decide),?_,?_⟩,?_⟩<;>first|(dsimp only;decide)|(unfold ma;dsimp only;decide)
  .rw[if_pos (by rfl),if_neg (by simp),if_pos (by rfl)];refine⟨⟨e _ 1 (by decide),?_,?_⟩,?_⟩<;>first|(dsimp only;decide)|(unfold ma;dsimp only;decide)
  .rw[if_pos (by rfl),if_neg (by simp),if_neg (by simp),if_pos (by rfl)];refine⟨⟨e _ 2 (by decide),?_,?_⟩,?_⟩<;>first|(dsimp only;decide)|(unfold ma;dsimp only;decide)
  .rw[if_pos (by rfl),if_neg (by simp),if_neg (by simp),if_neg (by simp),if_pos (by rfl)];refine⟨⟨e _ 3 (by decide),?_,?_⟩,?_⟩<;>first|(dsimp only;decide)|(unfold ma;dsimp only;decide)
  .rw[if_pos (by rfl),if_neg (by simp),if_neg (by simp),if_neg (by simp),if_neg (by simp),if_pos (by rfl)];refine⟨⟨e _ 4 (by decide),?_,?_⟩,?_⟩<;>first|(dsimp only;decide)|(unfold ma;dsimp only;decide)
  rw[if_neg (by simp)];trivial
 obtain⟨l,j⟩:=a;obtain⟨d,g,f⟩:=k;simp only at d g f
 have v:∀n:Int,0<=n->n<5->(decide (0<=n)&&decide (n<((l:Taf).length:Int)))=true:=by intro n y w;rw[d,aT,bk,bk];exact⟨y,w⟩
 have A:=h.uA;have z:=h.vj;have q:IntKind.wrap i64 (s.id-1)=s.id-1:=wrap64 (by omega) (by omega);refine⟨fun t=>?_,fun _=>⟨fun _=>?_,fun _=>h.le (by omega),?_⟩⟩
 ·(repeat' (first|exact trivial|apply And.intro|intro _))
  all_goals first
   |(rw[d];rfl)
   |(simp only[beq_eq_false_iff_ne,ne_eq,bk,bg,fj]at*;omega)
 .show(decide (0<=IntKind.wrap i64 (s.id-1))&&decide (IntKind.wrap i64 (s.id-1)<_))=true;rw[q];exact v _ (by omega) (by omega)
 intro p;refine⟨trivial,?_⟩;intro o;refine⟨fun _=>h.may,?_⟩;intro m;refine⟨trivial,fun _=>⟨fun _=>h,?_⟩⟩;intro i;exact⟨fun _=>h.bM,trivial⟩
def c40:bu Try.prog 40 s40 (pre 40) (cF 40):=by refine hZ (given:=[(1000000,{drop:=[18]}),(3,{own:=[(4,3)]}),(5,{drop:=[4005005]})]) mix TV Try.func40 rfl (by kernel_rfl) (v:=Vb) (by kernel_rfl) ?_;intro d h c;have b:=h;obtain⟨s,rfl⟩:=fU h;refine zL oO iA dN (fun _ _ l=>(let a:=(fM s.li s.lt s.le);nD s a (l.getD 0 .top).A (l.getD 1 .top).q)) (y:=gS s) (zE (Q0 s b c))
def Uq:jm Try.prog pre cF Vt:=aR c40 TV
def aft(s:RS):Prop:=
 ((true=true->gn s.li s.lt s.le=true))/\(
 let a:=(fM s.li s.lt s.le)
 VC.EP cF pre iA (fun _ _ l=>qd a (l.getD 0 .top).q (rK (l.drop 1))) [] (VC.lp 89 Qd) (fC (fun i=>([]++encS s).getD i .top) 58 (D.ff [D.int i64 a.1,D.int i64 a.2])))
def aci(s:RS)(f:Int×Int)(a:Int)(e:RS):Prop:=
 ((decide (a<6)=true->
  (True)/\(((a==0)=false->
   (True)/\(((a==1)=false->
    (True)/\(((a==2)=false->
     (True)/\(((a==3)=false->
      (True)/\(((a==4)=false->
       (True)/\(((a==5)=false->
        False))))))))))))))/\((decide (a<6)=false->
  ((true=true->Ok e 1))/\(
  let b:=jY (aC 27 C4 [(0,D.int i64 1)]) e
  ((true=true->Ok b.2 0))/\(
  let c:=(dR b.2)
  ((true=true->Ok b.2 0/\gF (aC 2 c [])=true))/\(
  let d:=(fV (aC 2 c []) b.2)
  VC.VZ cF pre iA (fun _ _ l=>xr d (l.getD 0 .top).q (rK (l.drop 1))) [] (VC.lp 153 Qd) (fC (fC (fC (fX (fC (fun i=>([]++encS s).getD i .top) 58 (D.ff [D.int i64 f.1,D.int i64 f.2])) 89 ([D.int i64 a]++Hc e)) 146 (JT b)) 149 (c)) 150 (D.list d)))))))
def ach(b:Taf)(a:Int)(c:RS):Prop:=
 ((decide (a<((b:Taf).length:Int))=true->
  (true=true->((decide (0<=a))&&(decide (a<((b:Taf).length:Int))))=true)/\(
  ((true=true->Ok c 1/\(0:Int)<=((((b).getD (a:Int).toNat .top)).q)/\(((((b).getD (a:Int).toNat .top)).q):Int)<=5))/\(
  True))))/\((decide (a<((b:Taf).length:Int))=false->
  ((true=true->Ok c 1))/\(
  True)))
def QQ(s:RS)(M:dx (.V eZ) (encS s))(h:Ok s 13):aft s:=by
 refine⟨fun _=>h.may,?_⟩;intro n
 clear_value n
 refine VC.js 89 (by kernel_rfl) ?_;refine VC.iq (Φ:=cF) (Pre:=pre) (triv:=triv) (v0:=89) (decL:=fun l=>((l.getD 0 .top).q,rK (l.drop 1))) (encL:=fun a:Int×RS=>([D.int i64 a.1]++Hc a.2)) (dec:=oO) (enc:=iA) (lp:=fun a _ _ l=>(let F:=a.1;let x:=a.2;let d:=jY (aC 27 C4 [(0,D.int i64 1)]) x;let f:=(dR d.2);let b:=(fV (aC 2 f []) d.2);xr b (l.getD 0 .top).q (rK (l.drop 1)))) (bad:=.inr dN) (bd:=dN) (by kernel_rfl) (fun a:Int×RS=>r8 n a.1 a.2) (fun a:Int×RS=>0<=a.1/\a.1<=6/\Ok a.2 13) (fun a:Int×RS=>mO n a.1 a.2) (0,{s with role:=2,bG:=s.id,wait:=0,round:=0,reads:=[]}) kH (by kernel_rfl) ?RV (fun a=>rfl) ?RY (by kernel_rfl) (fun a u=>by kernel_rfl) (fun a=>by kernel_rfl) (fun a=>by kernel_rfl) (fun a u z=>zE (β:=aci s n a.1 a.2) ?EV) (by kernel_rfl)
 .exact⟨ar 0,by show(0:Int)<=6;decide,⟨h.may,h.uA,h.vj,h.rI,h.nm,h.ne,h.nc,h.nv,h.cf,h.cs,h.cl,h.tm,h.tx,rfl⟩⟩
 .rintro⟨j,t⟩ ⟨w,A,m⟩;simp only at w A m;unfold r8;dsimp only;have K:j=0\/j=1\/j=2\/j=3\/j=4\/j=5\/j=6:=by omega
  rcases K with rfl|rfl|rfl|rfl|rfl|rfl|rfl
  .rw[if_pos (by rfl),if_pos (by rfl)];refine⟨⟨?_,?_,m.same iR⟩,?_⟩<;>first|(dsimp only;decide)|(unfold mO;dsimp only;decide)
  .rw[if_pos (by rfl),if_neg (by simp),if_pos (by rfl)];refine⟨⟨?_,?_,m.same iR⟩,?_⟩<;>first|(dsimp only;decide)|(unfold mO;dsimp only;decide)
  .rw[if_pos (by rfl),if_neg (by simp),if_neg (by simp),if_pos (by rfl)];refine⟨⟨?_,?_,m.same iR⟩,?_⟩<;>first|(dsimp only;decide)|(unfold mO;dsimp only;decide)
  .rw[if_pos (by rfl),if_neg (by simp),if_neg (by simp),if_neg (by simp),if_pos (by rfl)];refine⟨⟨?_,?_,m.same iR⟩,?_⟩<;>first|(dsimp only;decide)|(unfold mO;dsimp only;decide)
  .rw[if_pos (by rfl),if_neg (by simp),if_neg (by simp),if_neg (by simp),if_neg (by simp),if_pos (by rfl)];refine⟨⟨?_,?_,m.same iR⟩,?_⟩<;>first|(dsimp only;decide)|(unfold mO;dsimp only;decide)
  .rw[if_pos (by rfl),if_neg (by simp),if_neg (by simp),if_neg (by simp),if_neg (by simp),if_neg (by simp),if_pos (by rfl)];refine⟨⟨?_,?_,m.same iR⟩,?_⟩<;>first|(dsimp only;decide)|(unfold mO;dsimp only;decide)
  rw[if_neg (by simp)];trivial
 obtain⟨j,t⟩:=a;obtain⟨w,A,m⟩:=u;simp only at w A m;refine⟨fun e=>?_,fun _=>⟨fun _=>m.le (by omega),?_⟩⟩
 ·(repeat' (first|exact trivial|apply And.intro|intro _))
  all_goals (simp only[beq_eq_false_iff_ne,ne_eq,bk]at*;omega)
 intro d;have v:Ok d.2 12:=m.put (k:=12) (by intro I;exact absurd I (by decide))
 clear_value d
 refine⟨fun _=>v.le (by omega),?_⟩;intro f;have o:gF (aC 2 f [])=true:=gL v
 clear_value f
 refine⟨fun _=>⟨v.le (by omega),o⟩,?_⟩;intro b;have g:=gz (c:=aC 2 f []) (s:=d.2) o;change b.length<=10/\∀y∈b,1<=y.q/\y.q<=5 at g
 clear_value b
 obtain⟨N,H⟩:=g
 have E:∀i:Int,0<=i->i<b.length->1<=(b.getD i.toNat .top).q/\(b.getD i.toNat .top).q<=5:=by
  intro i w p;have r:i.toNat<b.length:=by omega
  rw[ae,aS r];exact H _ (aN r)
 intro J;refine VC.js 153 (by kernel_rfl) ?_;refine VC.iq (Φ:=cF) (Pre:=pre) (triv:=triv) (v0:=153) (decL:=fun l=>((l.getD 0 .top).q,rK (l.drop 1))) (encL:=fun a:Int×RS=>([D.int i64 a.1]++Hc a.2)) (dec:=oO) (enc:=iA) (lp:=fun _ _ _ _=>dN) (bad:=.inr dN) (bd:=dN) (by kernel_rfl) (fun a:Int×RS=>xq b a.1 a.2) (fun a:Int×RS=>0<=a.1/\a.1<=b.length/\Ok a.2 (1+(10-a.1.toNat))) (fun a:Int×RS=>Cs b a.1 a.2) (0,d.2) kH (by kernel_rfl) ?i0c (fun a=>rfl) ?hsc (by kernel_rfl) (fun a u=>by kernel_rfl) (fun a=>by kernel_rfl) (fun a=>by kernel_rfl) (fun a u z=>zE (β:=ach b a.1 a.2) ?aiM) (by kernel_rfl)
 .exact⟨ar 0,dp _,v.le (by show 1+(10-0)<=_;omega)⟩
 .rintro⟨i,t⟩ ⟨p,B,q⟩;simp only at p B q;unfold xq;by_cases e:decide (i<(b.length:Int))=true
  .rw[if_pos e];rw[bk]at e;have G:IntKind.wrap i64 (i+1)=i+1:=wrap64 (by omega) (by omega);dsimp only;rw[G];obtain⟨L,C⟩:=E i p e;refine⟨⟨by show 0<=i+1;omega,by show i+1<=_;omega,?_⟩,by show b.length-(i+1).toNat<b.length-i.toNat;omega⟩;exact cK.mZ (q.le (by show 1+(10-(i+1).toNat)+1<=_;omega)) (by omega) C
  rw[if_neg e];trivial
 obtain⟨i,t⟩:=a;obtain⟨p,B,q⟩:=u;simp only at p B q;refine⟨fun e=>?_,fun _=>⟨fun _=>q.le (by omega),trivial⟩⟩;rw[bk]at e;obtain⟨L,C⟩:=E i p e;refine⟨fun _=>?_,fun _=>⟨q.le (by omega),by show 0<=(b.getD i.toNat .top).q;omega,C⟩,trivial⟩;rw[aT,bk,bk];exact⟨p,e⟩
def c67:bu Try.prog 67 jr (pre 67) (cF 67):=by refine hZ (given:=[(3,{boxes:=yK}),(9,{boxes:=yK}),(5,{drop:=[4006004]})]) mix Uq Try.func67 rfl (by kernel_rfl) (v:=Qd) (by kernel_rfl) ?_;intro d h c;have b:=h;obtain⟨s,rfl⟩:=fU h;refine zL oO iA dN (fun _ _ l=>(let a:=(fM s.li s.lt s.le);qd a (l.getD 0 .top).q (rK (l.drop 1)))) (y:=rB s) (zE (QQ s b c))
def T4:jm Try.prog pre cF Vk:=aR c67 Uq
def afF(x:D)(s:RS):Prop:=
 (True)/\(
 let rm:=fL ({s with term:=(i64.wrap (s.term+1)),vote:=s.id}:RS)
 (True)/\(
 let c:=(ju (aC 2 x []) (D.list ([D.int i64 rm.id]:Taf)))
 ((c=true->
  ((true=true->Ok ({rm with role:=1,bG:=0,aX:=([D.int i64 rm.id]:Taf)}:RS) 13))/\(
  True)))/\((c=false->
  ((true=true->gn rm.li rm.lt rm.le=true))/\(
  let a:=(fM rm.li rm.lt rm.le)
  ((true=true->Ok ({rm with role:=1,bG:=0,aX:=([D.int i64 rm.id]:Taf)}:RS) 0/\gF (aC 2 x [])=true))/\(
  let b:=(fV (aC 2 x []) ({rm with role:=1,bG:=0,aX:=([D.int i64 rm.id]:Taf)}:RS))
  VC.EP cF pre iA (fun _ _ l=>kS x a b (l.getD 0 .top).q (rK (l.drop 1))) [] (VC.lp 113 Vc) (fC (fC (fC (fC (fun i=>([x]++encS s).getD i .top) 74 (iA rm)) 97 (D.bool c)) 102 (D.ff [D.int i64 a.1,D.int i64 a.2])) 110 (D.list b))))))))
def acm(x:D)(e:Int×Int)(b:Taf)(a:Int)(d:RS):Prop:=
 ((decide (a<((b:Taf).length:Int))=true->
  (true=true->((decide (0<=a))&&(decide (a<((b:Taf).length:Int))))=true)/\(
  (True)/\(
  let c:=(jM (aC 2 x []) ((((b).getD (a:Int).toNat .top)).q))
  ((c=true->
   ((true=true->Ok d 1))/\(
   True)))/\(True)))))/\(True)
def Q4(x:D)(s:RS)(u:dx (.V eZ) (encS s))(h:Ok s 14/\gF x=true/\s.term<MX):afF x s:=by
 obtain⟨h,n,r⟩:=h;have m:=h.Dc r;refine⟨trivial,trivial,fun _=>⟨fun _=>m.le (by omega),trivial⟩,fun _=>⟨fun _=>h.may,?_⟩⟩;intro d;refine⟨fun _=>⟨m.le (by omega),n⟩,?_⟩;intro b;have j:b.length<=10:=(gz (c:=aC 2 x []) n).1
 clear_value d b
 refine VC.js 113 (by kernel_rfl) ?_;refine VC.iq (Φ:=cF) (Pre:=pre) (triv:=triv) (v0:=113) (decL:=fun l=>((l.getD 0 .top).q,rK (l.drop 1))) (encL:=fun a:Int×RS=>([D.int i64 a.1]++Hc a.2)) (dec:=oO) (enc:=iA) (lp:=fun _ _ _ _=>dN) (bad:=.inr dN) (bd:=dN) (by kernel_rfl) (fun a:Int×RS=>mf x d b a.1 a.2) (fun a:Int×RS=>0<=a.1/\a.1<=b.length/\Ok a.2 (1+(10-a.1.toNat))) (fun a:Int×RS=>A4 x d b a.1 a.2) (0,{fL ({s with term:=i64.wrap (s.term+1),vote:=s.id}:RS) with role:=1,bG:=0,aX:=[.int i64 s.id]}) kH (by kernel_rfl) ?RV (fun a=>rfl) ?RY (by kernel_rfl) (fun a o=>by kernel_rfl) (fun a=>by kernel_rfl) (fun a=>by kernel_rfl) (fun a o q=>zE (β:=acm x d b a.1 a.2) ?EV) (by kernel_rfl)
 .exact⟨ar 0,dp _,m.le (by show 1+(10-0)<=_;omega)⟩
 .rintro⟨i,t⟩ ⟨g,k,f⟩;simp only at g k f;unfold mf;by_cases e:decide (i<(b.length:Int))=true
  .rw[if_pos e];rw[bk]at e;have p:IntKind.wrap i64 (i+1)=i+1:=wrap64 (by omega) (by omega);dsimp only;rw[p];generalize jM (aC 2 x []) ((b.getD i.toNat .top).q)=c;cases c with
   |true=>
    refine⟨⟨by show 0<=i+1;omega,by show i+1<=_;omega,?_⟩,by show b.length-(i+1).toNat<b.length-i.toNat;omega⟩;exact cK.send (f.le (by show 1+(10-(i+1).toNat)+1<=_;omega))
   |false=>exact⟨⟨by show 0<=i+1;omega,by show i+1<=_;omega,f.le (by show 1+(10-(i+1).toNat)<=_;omega)⟩,by show b.length-(i+1).toNat<b.length-i.toNat;omega⟩
  rw[if_neg e];trivial
 obtain⟨i,t⟩:=a;obtain⟨g,k,f⟩:=o;simp only at g k f;refine⟨fun e=>⟨fun _=>?_,trivial,fun _=>⟨fun _=>f.le (by omega),trivial⟩,trivial⟩,trivial⟩;rw[bk]at e;rw[aT,bk,bk];exact⟨g,e⟩
def c37:bu Try.prog 37 s37 (pre 37) (cF 37):=by refine hZ (given:=[(8,{boxes:=yK})]) mix T4 Try.func37 rfl (by kernel_rfl) (v:=Vc) (by kernel_rfl) ?_;intro i h f;obtain⟨x,_,rfl,g,c⟩:=aJ.1 h;have e:=c;obtain⟨s,rfl⟩:=fU c;refine zL oO iA dN (fun _ _ l=>(let rm:=fL ({s with term:=(i64.wrap (s.term+1)),vote:=s.id}:RS);let d:=(ju (aC 2 x []) (D.list ([D.int i64 rm.id]:Taf)));let b:=(fM rm.li rm.lt rm.le);let a:=(fV (aC 2 x []) ({rm with role:=1,bG:=0,aX:=([D.int i64 rm.id]:Taf)}:RS));kS x b a (l.getD 0 .top).q (rK (l.drop 1)))) (y:=ks x s) (zE (Q4 x s e f))
def Us:jm Try.prog pre cF Vv:=aR c37 T4
end Go.Proofs.Ytjhmkaninmgilaa
