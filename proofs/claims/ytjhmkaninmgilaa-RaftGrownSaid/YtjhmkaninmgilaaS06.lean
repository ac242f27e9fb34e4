/- Part 6 of the proof of RaftGrown; no condition. -/
import Derived.Test.YtjhmkaninmgilaaS05
import Derived.Test.YtjhmkaninmgilaaS04
set_option linter.defProp false
set_option linter.unusedVariables false
set_option linter.unusedSimpArgs false
set_option maxHeartbeats 4000000
open Go.IntKind (i64)
namespace Go.Proofs.Ytjhmkaninmgilaa
open Go Go.RowKit Go.dG Go.Proofs
def ahn:bn Try.prog 65 aay (pre 65) (cB 65):=by
 refine zO JD Try.func65 (v:=SI) ?_;intro C h b;obtain⟨_,_,rfl,⟨f,rfl,o⟩,_,_,rfl,⟨m,rfl,k⟩,_,_,rfl,⟨i,rfl,w⟩,_,_,rfl,⟨t,rfl,u⟩,_,_,rfl,⟨l,rfl,a,x⟩,rfl⟩:=h;have p:cB 65 [.int i64 f,.int i64 m,.int i64 i,.int i64 t,.list l]=.fa [.list (fG i l f m),rb i t l]:=rfl;simp[SI,fc,ep,dZ,cF,eh,dw,fb,fg,ff,fJ,den,U.den,B.den,fy,aV,cO,ez,ev,ew,fA,bR,cK,pre,p,rb];replace b:okB i t=true:=b;rw[tV]at o k;obtain⟨s,j,_,_⟩:=jL.1 b;have c:=a.1;have e:=a.2;rw[nT]at e;simp only[maxLen,MX]at c j⊢;refine⟨?_,fun A z=>?_⟩
 .intro h;unfold fG;by_cases d:m<1\/f<=i
  .rw[if_pos d]
  rw[if_neg d];have r:=h.resolve_left d;rw[wrap64 (n:=f-i) (by omega) (by omega),wrap64 (by omega) (by omega)]at r;rw[bQ (by omega)];simp
 rw[wrap64 (n:=f-i) (by omega) (by omega),wrap64 (n:=f-i-1) (by omega) (by omega)];intro y;rw[wrap64 (n:=(l.length:Int)-(f-i-1)) (by omega) (by omega)];have g:fG i l f m=(l.drop (f-i-1).toNat).take m.toNat:=by unfold fG;rw[if_neg (by omega)]
 refine⟨fun q=>?_,fun q=>?_⟩
 .rw[wrap64 (n:=f-i-1+m) (by omega) (by omega)];refine⟨by omega,⟨by omega,aY (aw 320 (by omega)) e⟩,?_⟩;rw[g,List.drop_take];congr 1;omega
 refine⟨by omega,⟨by omega,aY (aw 320 (by omega)) e⟩,?_⟩;rw[g,dz (by rw[bh];omega)]
def OZ:jf Try.prog pre cB SN:=aN ahn JD
def c53:bn Try.prog 53 s53 (pre 53) (cB 53):=by refine zO OZ Try.func53 (v:=afI) ?_;intro b h a;have hs:=h;obtain⟨s,rfl⟩:=fP h;refine zH oi ij dK (y:=gI s) zK
def Uz:jf Try.prog pre cB aaf:=aN c53 OZ
def c35:bn Try.prog 35 s35 (pre 35) (cB 35):=by refine zO Uz Try.func35 (v:=afJ) ?_;intro b h a;have hs:=h;obtain⟨s,rfl⟩:=fP h;refine zH oi ij dK (y:=ib s) zK
def UP:jf Try.prog pre cB aan:=aN c35 Uz
def agv(x:D)(s:RS):Prop:=
 (true=true->((s.msgs++([aE 46 x [(1,D.int i64 s.id),(3,D.int i64 s.term)]]:Tah)):Tah).length<=maxLen/\((s.msgs++([aE 46 x [(1,D.int i64 s.id),(3,D.int i64 s.term)]]:Tah)):Tah).length*536<=140737488355328)/\(
 True)
def QZ(x:D)(s:RS)(hs:dr (.Y eV) (encS s))(h:Ok s 1):agv x s:=by refine⟨fun _=>?_,trivial⟩;have:=h.nm;simp only[ah,ba,maxLen];omega
def c64:bn Try.prog 64 s64 (pre 64) (cB 64):=by refine zO UP Try.func64 (v:=afG) ?_;intro d h b;obtain⟨x,_,rfl,c,a⟩:=aA.1 h;have hs:=a;obtain⟨s,rfl⟩:=fP a;refine zH oi ij dK (y:=gH x s) (zE (QZ x s hs b))
def Us:jf Try.prog pre cB VL:=aN c64 UP
def c41:bn Try.prog 41 s41 (pre 41) (cB 41):=by refine zO Us Try.func41 (v:=ZK) ?_;intro f h e;obtain⟨_,_,rfl,⟨x,rfl,d⟩,b⟩:=aA.1 h;obtain⟨_,_,rfl,⟨y,rfl,c⟩,a⟩:=aA.1 b;have hs:=a;obtain⟨s,rfl⟩:=fP a;refine zH oi ij dK (y:=fQ x y s) zK
def UK:jf Try.prog pre cB aal:=aN c41 Us
def c34:bn Try.prog 34 s34 (pre 34) (cB 34):=by refine zO UK Try.func34 (v:=afK) ?_;intro b h a;have hs:=h;obtain⟨s,rfl⟩:=fP h;refine zH Qz E9 (.top,dK) (y:=bk s) zK
def UQ:jf Try.prog pre cB VW:=aN c34 UK
def agE(x:D)(s:RS):Prop:=
 ((true=true->gn s.li s.lt s.le=true/\s.le.length<4294967296))/\(
 let xM:=Qu s.li s.lt s.le s.term (aE 27 x [])
 (((xM.1.2==0)=true->
  (True)/\(
  let a:=gI ({s with li:=xM.2.1,lt:=xM.2.2.1,le:=xM.2.2.2}:RS)
  (true=true->((a.dB++([aE 29 xM.1.1 []]:Tah)):Tah).length<=maxLen/\((a.dB++([aE 29 xM.1.1 []]:Tah)):Tah).length*320<=140737488355328)/\(
  True))))/\(True))
def Ra(x:D)(s:RS)(hs:dr (.Y eV) (encS s))(h:Ok s 1):agE x s:=by refine⟨fun _=>⟨h.may,by have:=h.tM;omega⟩,fun _=>⟨trivial,fun _=>?_,trivial⟩,trivial⟩;have:=h.ne;simp only[gI,ah,ba,maxLen];omega
def c39:bn Try.prog 39 s39 (pre 39) (cB 39):=by refine zO UQ Try.func39 (v:=ZL) ?_;intro d h b;obtain⟨x,_,rfl,c,a⟩:=aA.1 h;have hs:=a;obtain⟨s,rfl⟩:=fP a;refine zH adL JA ((.top,0),dK) (y:=oc x s) (zE (Ra x s hs b))
def UM:jf Try.prog pre cB VU:=aN c39 UQ
def I0(x:Int)(a b c d e f:Prop):Prop:=((x==0)=true->a)/\((x==0)=false->((x==1)=true->b)/\((x==1)=false->((x==2)=true->c)/\((x==2)=false->((x==3)=true->d)/\((x==3)=false->((x==4)=true->e)/\((x==4)=false->((x==5)=true->f)/\((x==5)=false->False))))))
def z8{x:Int}{a b c d e f:Prop}(t:0<=x)(s:x<=5)(l:a)(k:b)(j:c)(i:d)(h:e)(g:f):I0 x a b c d e f:=by refine⟨fun _=>l,fun r=>⟨fun _=>k,fun q=>⟨fun _=>j,fun p=>⟨fun _=>i,fun o=>⟨fun _=>h,fun n=>⟨fun _=>g,fun m=>?_⟩⟩⟩⟩⟩⟩;simp only[beq_eq_false_iff_ne,ne_eq]at*;omega
@[irreducible] def xW (s so:RS) (n o:Int):Prop:=
 (True)/\((decide (n<=(jZ s.li s.lt s.le).1)=true->
   (True)/\((true=true->(decide (0<=o)&&(decide (o<=jy (i64.wrap (o+256)) (s.iI.length:Int))&&decide (jy (i64.wrap (o+256)) (s.iI.length:Int)<=(s.iI.length:Int))))=true)/\((True)/\((true=true->Ok so 1)/\True))))/\(decide (n<=(jZ s.li s.lt s.le).1)=false->
   (true=true->gn s.li s.lt s.le=true)/\((true=true->okB s.li s.lt=true)/\((true=true->Ok s 1)/\True))))
def agH(x:Int)(s:RS):Prop:=
 I0 x (xW s {s with I3:=ig s.I3 s} s.Dn (ig s.I3 s)) (xW s {s with I2:=ig s.I2 s} s.BM (ig s.I2 s)) (xW s {s with Dm:=ig s.Dm s} s.rl (ig s.Dm s)) (xW s {s with Dl:=ig s.Dl s} s.rk (ig s.Dl s)) (xW s {s with Dk:=ig s.Dk s} s.rh (ig s.Dk s)) (xW s {s with Dj:=ig s.Dj s} s.rf (ig s.Dj s))
def Pt{s so:RS}{n o:Int}(a:s.iI.length<=140737488355328)(h:Ok s 1)(e:er so=er s):xW s so n (ig o s):=by
 unfold xW
 (repeat' (first|exact trivial|apply And.intro|intro _))
 all_goals first
  |exact Pj _ _ a
  |exact h.may
  |exact h.Mr
  |exact h
  |exact h.same (kV e)
def Re(x:Int)(s:RS)(d:kL i64 x)(hs:dr (.Y eV) (encS s))(h:Ok s 1/\0<=x/\x<=5):agH x s:=by have a:=KU hs;obtain⟨h,c,b⟩:=h;refine z8 c b ?_ ?_ ?_ ?_ ?_ ?_<;>exact Pt a h rfl
def c33:bn Try.prog 33 s33 (pre 33) (cB 33):=by refine hU (given:=[(0,{drop:=[4006001]})]) mix UM Try.func33 rfl (by kernel_rfl) (v:=ZO) (by kernel_rfl) ?_;intro d h c;obtain⟨_,_,rfl,⟨x,rfl,b⟩,a⟩:=aA.1 h;have hs:=a;obtain⟨s,rfl⟩:=fP a;refine zH oi ij dK (y:=fx x s) (zE (Re x s b hs c))
def UR:jf Try.prog pre cB aao:=aN c33 UM
def c84:bn Try.prog 84 ET (pre 84) (cB 84):=by refine zF UR Try.func84 (v:=afD) ?_;intro c h b;obtain⟨x,_,rfl,a,rfl⟩:=h;refine zH D.Z D.bool false (y:=pv x) zK
def Ua:jf Try.prog pre cB ZX:=aN c84 UR
def adU:bn Try.prog 80 Ta (pre 80) (cB 80):=by
 refine zF Ua Try.func80 (v:=Ol) ?_;intro w h t;obtain⟨_,_,rfl,⟨l,rfl,e,u⟩,_,_,rfl,⟨_,rfl,rfl⟩,rfl⟩:=h;have i:=e.1;simp only[maxLen]at i;have s:cB 80 [.list l,.fn 84 []]=.int i64 (findF (wY (.fn 84 [])) l 0):=rfl;rw[s];have r:∀x,cB 84 [x]=.bool (wY (.fn 84 []) x):=fun _=>rfl;simp[Ol,fc,ep,dZ,cF,eh,dw,fb,fg,ff,fJ,den,U.den,B.den,fy,aV,cO,ez,ev,ew,fA,bR,cK,pre,r];obtain⟨J,c⟩:∃J:Tah->Prop,∀d,J d↔∃n:Nat,∃y:Int,d=[.int i64 y,.int i64 n]/\n<=l.length/\findF (wY (.fn 84 [])) (l.drop n) n=findF (wY (.fn 84 [])) l 0:=⟨_,fun _=>dt⟩;obtain⟨M,f⟩:∃M:Tah->Nat,∀d,M d=l.length-((d.getD 1 .top).J).toNat:=⟨_,fun _=>rfl⟩;refine kT.intro J M ((c _).2 ⟨0,0,rfl,aB _,by simp⟩) ?_;intro d g m;obtain⟨n,y,rfl,p,a⟩:=(c _).1 m;clear m g;simp[fc,ep,dZ,cF,eh,dw,fb,fg,ff,fJ,den,U.den,B.den,fy,aV,cO,ez,ev,ew,fA,bR,cK];refine⟨fun b=>?_,fun j=>?_⟩
 .have o:l[n]?=some l[n]:=aR b;have q:l.drop n=l[n] ::l.drop (n+1):=bJ b;rw[q]at a;simp only[findF]at a;rw[o,bq];refine⟨by omega,fun k=>?_,fun k=>?_⟩
  .rw[if_pos k]at a;exact a
  rw[wrap64 (by omega) (by omega)];refine⟨(c _).2 ⟨n+1,y,by simp,b,?_⟩,?_⟩
  .rw[if_neg (by rw[k];simp)]at a;rw[<-a];simp
  rw[f,f];simp[bR];omega
 have:l.drop n=[]:=bQ j;rw[this]at a;exact a
def J9:jf Try.prog pre cB Ou:=aN adU Ua
def adV:bn Try.prog 59 Tc (pre 59) (cB 59):=by refine zF J9 Try.func59 (v:=On) ?_;intro f h d;obtain⟨_,_,rfl,⟨l,rfl,a,e⟩,_,_,rfl,⟨_,rfl,rfl⟩,rfl⟩:=h;have b:cB 59 [.list l,.fn 84 []]=.bool (mw l (.fn 84 [])):=rfl;have c:cB 80 [.list l,.fn 84 []]=.int i64 (findF (wY (.fn 84 [])) l 0):=rfl;rw[b];simp[On,fc,ep,dZ,cF,eh,dw,fb,fg,ff,fJ,den,U.den,B.den,fy,aV,cO,ez,ev,ew,fA,bR,cK,pre,c];rw[cT,bg];exact(xE _ l 0 (aJ 0)).symm
def Kb:jf Try.prog pre cB Hj:=aN adV J9
def agr(x:Int)(s:RS):Prop:=
 (True)/\((decide (x<=s.bH)=false->
  ((true=true->okB s.li s.lt=true))/\(
  let a:=fi s.li s.lt s.le (i64.wrap (s.bH+1)) (i64.wrap (x-s.bH))
  (true=true->((s.aW++a):Tah).length<=maxLen/\((s.aW++a):Tah).length*320<=140737488355328)/\(
  True))))
def QV(x:Int)(s:RS)(a:kL i64 x)(hs:dr (.Y eV) (encS s))(h:Ok s 1):agr x s:=by have b:=tq (i:=s.li) (f:=i64.wrap (s.bH+1)) (m:=i64.wrap (x-s.bH)) (l:=s.le);have d:=h.nc;have c:=h.tM;refine⟨trivial,fun _=>⟨fun _=>h.Mr,fun _=>?_,trivial⟩⟩;show(s.aW++fG _ _ _ _).length<=maxLen/\(s.aW++fG _ _ _ _).length*320<=_;rw[ah];simp only[maxLen];omega
def c73:bn Try.prog 73 s73 (pre 73) (cB 73):=by refine zO Kb Try.func73 (v:=Zo) ?_;intro d h c;obtain⟨_,_,rfl,⟨x,rfl,b⟩,a⟩:=aA.1 h;have hs:=a;obtain⟨s,rfl⟩:=fP a;refine zH T9 JB (false,dK) (y:=gK x s) (zE (QV x s b hs c))
def Uj:jf Try.prog pre cB VH:=aN c73 Kb
def agD(s:RS):Prop:=
 ((true=true->gn s.li s.lt s.le=true))/\(
 let a:=(fW s.li s.lt s.le)
 VC.E0 cB pre ij (fun _ _ l=>pW s a (l.getD 0 .top).V (l.getD 1 .top).J) [] (VC.lp 69 Vz) (fy (fun i=>([]++encS s).getD i .top) 58 (D.fa [D.int i64 a.1,D.int i64 a.2])))
def ade(s:RS)(g:Int×Int)(b:Tah)(a:Int):Prop:=
 ((decide (a<((([D.int i64 0,D.int i64 0,D.int i64 0,D.int i64 0,D.int i64 0]:Tah):Tah).length:Int))=true->
  (((a==0)=true->
   (true=true->((decide (0<=0))&&(decide (0<((b:Tah).length:Int))))=true)/\(
   True)))/\(((a==0)=false->
   (((a==1)=true->
    (true=true->((decide (0<=1))&&(decide (1<((b:Tah).length:Int))))=true)/\(
    True)))/\(((a==1)=false->
    (((a==2)=true->
     (true=true->((decide (0<=2))&&(decide (2<((b:Tah).length:Int))))=true)/\(
     True)))/\(((a==2)=false->
     (((a==3)=true->
      (true=true->((decide (0<=3))&&(decide (3<((b:Tah).length:Int))))=true)/\(
      True)))/\(((a==3)=false->
      (((a==4)=true->
       (true=true->((decide (0<=4))&&(decide (4<((b:Tah).length:Int))))=true)/\(
       True)))/\(((a==4)=false->
       False))))))))))))/\((decide (a<((([D.int i64 0,D.int i64 0,D.int i64 0,D.int i64 0,D.int i64 0]:Tah):Tah).length:Int))=false->
  (true=true->((decide (0<=(i64.wrap (s.id-1))))&&(decide ((i64.wrap (s.id-1))<((b:Tah).length:Int))))=true)/\(
  ((true=true->Ok s 0))/\(
  let f:=(dU s)
  (True)/\(
  let d:=(mR (aE 2 f []) (D.list ((b.take ((i64.wrap (s.id-1)):Int).toNat)++(D.int i64 g.1::((b.drop ((i64.wrap (s.id-1)):Int).toNat).drop (1:Int).toNat)))))
  ((true=true->gn s.li s.lt s.le=true))/\(
  let e:=(ny s.li s.lt s.le d)
  (True)/\(((((decide (d<=s.bH))||(e.2 !=0))||(e.1 !=s.term))=false->
   ((true=true->Ok s 1))/\(
   let c:=gK d s
   ((((c.1==true)&&true)=true->Ok c.2 0))/\(
   True))))))))))
def xx(s:RS)(k:Int×Int)(a:Tah)(b:Int):(Tah×Int)⊕(RS):=
 if decide (b<((([D.int i64 0,D.int i64 0,D.int i64 0,D.int i64 0,D.int i64 0]:Tah):Tah).length:Int)) then(
  if(b==0) then(
   .inl (((a.take (0:Int).toNat)++(D.int i64 s.EU::((a.drop (0:Int).toNat).drop (1:Int).toNat))),(i64.wrap (b+1))))
  else(
   if(b==1) then(
    .inl (((a.take (1:Int).toNat)++(D.int i64 s.uZ::((a.drop (1:Int).toNat).drop (1:Int).toNat))),(i64.wrap (b+1))))
   else(
    if(b==2) then(
     .inl (((a.take (2:Int).toNat)++(D.int i64 s.uY::((a.drop (2:Int).toNat).drop (1:Int).toNat))),(i64.wrap (b+1))))
    else(
     if(b==3) then(
      .inl (((a.take (3:Int).toNat)++(D.int i64 s.uX::((a.drop (3:Int).toNat).drop (1:Int).toNat))),(i64.wrap (b+1))))
     else(
      if(b==4) then(
       .inl (((a.take (4:Int).toNat)++(D.int i64 s.uW::((a.drop (4:Int).toNat).drop (1:Int).toNat))),(i64.wrap (b+1))))
      else(
       .inr dK))))))
 else(
  let j:=(dU s);let d:=(mR (aE 2 j []) (D.list ((a.take ((i64.wrap (s.id-1)):Int).toNat)++(D.int i64 k.1::((a.drop ((i64.wrap (s.id-1)):Int).toNat).drop (1:Int).toNat)))));let e:=(ny s.li s.lt s.le d)
  if(((decide (d<=s.bH))||(e.2 !=0))||(e.1 !=s.term)) then(
   .inr (s))
  else(
   let c:=gK d s;let g:=(dU c.2);let f:=(jo (aE 2 g []) c.2.id)
   if(c.1&&(!f)) then(
    let i:=fQ c.2.term 0 c.2;let h:=ib i
    .inr (h))
   else(
    .inr (c.2))))
def Eu(s:RS)(a:Int×Int)(b:Tah)(j69:Int):xx s a b j69=lK s a b j69:=by
 unfold xx lK kC;dsimp only
 repeat (first|rfl|split)
def Q9(s:RS)(hs:dr (.Y eV) (encS s))(h:Ok s 1):agD s:=by
 refine⟨fun _=>h.may,?_⟩;intro c
 clear_value c
 refine VC.jk 69 (by kernel_rfl) ?_;refine VC.hH (Φ:=cB) (Pre:=pre) (triv:=triv) (v0:=69) (decL:=fun l=>((l.getD 0 .top).V,(l.getD 1 .top).J)) (encL:=fun a:Tah×Int=>([D.list a.1,D.int i64 a.2])) (dec:=oi) (enc:=ij) (lp:=fun _ _ _ _=>dK) (bad:=.inr dK) (bd:=dK) (by kernel_rfl) (fun a:Tah×Int=>lK s c a.1 a.2) (fun a:Tah×Int=>a.1.length=5/\0<=a.2/\a.2<=5) (fun a:Tah×Int=>lL s c a.1 a.2) ([D.int i64 0,D.int i64 0,D.int i64 0,D.int i64 0,D.int i64 0],0) kf (by kernel_rfl) ?Sv (fun a=>rfl) ?Sy (by kernel_rfl) (fun a k=>Eq.trans (b:=xx s c a.1 a.2) (by kernel_rfl) (Eu s c a.1 a.2)) (fun a=>by kernel_rfl) (fun a=>by kernel_rfl) (fun a k r=>zE (β:=ade s c a.1 a.2) ?E6) (by kernel_rfl)
 .exact⟨rfl,by decide,by decide⟩
 .rintro⟨l,j⟩ ⟨d,g,f⟩;simp only at d g f;unfold lK;dsimp only;have u:j=0\/j=1\/j=2\/j=3\/j=4\/j=5:=by omega
  have e:∀(x:D) (n:Int),n.toNat<5->(l.take n.toNat++(x::(l.drop n.toNat).drop (1:Int).toNat)).length=5:=by intro x n B;simp only[ah,aO,bu,bh,d];omega
  rcases u with rfl|rfl|rfl|rfl|rfl|rfl
  .rw[if_pos (by rfl),if_pos (by rfl)];refine⟨⟨e _ 0 (by decide),?_,?_⟩,?_⟩<;>first|(dsimp only;decide)|(unfold lL;dsimp only;decide)
  .rw[if_pos (by rfl),if_neg (by simp),if_pos (by rfl)];refine⟨⟨e _ 1 (by decide),?_,?_⟩,?_⟩<;>first|(dsimp only;decide)|(unfold lL;dsimp only;decide)
  .rw[if_pos (by rfl),if_neg (by simp),if_neg (by simp),if_pos (by rfl)];refine⟨⟨e _ 2 (by decide),?_,?_⟩,?_⟩<;>first|(dsimp only;decide)|(unfold lL;dsimp only;decide)
  .rw[if_pos (by rfl),if_neg (by simp),if_neg (by simp),if_neg (by simp),if_pos (by rfl)];refine⟨⟨e _ 3 (by decide),?_,?_⟩,?_⟩<;>first|(dsimp only;decide)|(unfold lL;dsimp only;decide)
  .rw[if_pos (by rfl),if_neg (by simp),if_neg (by simp),if_neg (by simp),if_neg (by simp),if_pos (by rfl)];refine⟨⟨e _ 4 (by decide),?_,?_⟩,?_⟩<;>first|(dsimp only;decide)|(unfold lL;dsimp only;decide)
  rw[if_neg (by simp)];trivial
 obtain⟨l,j⟩:=a;obtain⟨d,g,f⟩:=k;simp only at d g f
 have v:∀n:Int,0<=n->n<5->(decide (0<=n)&&decide (n<((l:Tah).length:Int)))=true:=by intro n y w;rw[d,aP,bg,bg];exact⟨y,w⟩
 have A:=h.yM;have z:=h.yL;have q:IntKind.wrap i64 (s.id-1)=s.id-1:=wrap64 (by omega) (by omega);refine⟨fun t=>?_,fun _=>⟨fun _=>?_,fun _=>h.le (by omega),?_⟩⟩
 ·(repeat' (first|exact trivial|apply And.intro|intro _))
  all_goals first
   |(rw[d];rfl)
   |(simp only[beq_eq_false_iff_ne,ne_eq,bg,bu,fC]at*;omega)
 .show(decide (0<=IntKind.wrap i64 (s.id-1))&&decide (IntKind.wrap i64 (s.id-1)<_))=true;rw[q];exact v _ (by omega) (by omega)
 intro p;refine⟨trivial,?_⟩;intro o;refine⟨fun _=>h.may,?_⟩;intro m;refine⟨trivial,fun _=>⟨fun _=>h,?_⟩⟩;intro i;exact⟨fun _=>h.aW,trivial⟩
def c40:bn Try.prog 40 s40 (pre 40) (cB 40):=by refine hU (given:=[(1000000,{drop:=[18]}),(3,{own:=[(4,3)]}),(5,{drop:=[4005005]})]) mix Uj Try.func40 rfl (by kernel_rfl) (v:=Vz) (by kernel_rfl) ?_;intro c h b;have hs:=h;obtain⟨s,rfl⟩:=fP h;refine zL oi ij dK (fun _ _ l=>(let a:=(fW s.li s.lt s.le);pW s a (l.getD 0 .top).V (l.getD 1 .top).J)) (y:=jn s) (zE (Q9 s hs b))
def UL:jf Try.prog pre cB VS:=aN c40 Uj
def agu(s:RS):Prop:=
 ((true=true->gn s.li s.lt s.le=true))/\(
 let a:=(fW s.li s.lt s.le)
 VC.E0 cB pre ij (fun _ _ l=>rN a (l.getD 0 .top).J (qY (l.drop 1))) [] (VC.lp 89 Qq) (fy (fun i=>([]++encS s).getD i .top) 58 (D.fa [D.int i64 a.1,D.int i64 a.2])))
def ada(s:RS)(f:Int×Int)(a:Int)(e:RS):Prop:=
 ((decide (a<6)=true->
  (True)/\(((a==0)=false->
   (True)/\(((a==1)=false->
    (True)/\(((a==2)=false->
     (True)/\(((a==3)=false->
      (True)/\(((a==4)=false->
       (True)/\(((a==5)=false->
        False))))))))))))))/\((decide (a<6)=false->
  ((true=true->Ok e 1))/\(
  let b:=oc (aE 27 Kz [(0,D.int i64 1)]) e
  ((true=true->Ok b.2 0))/\(
  let c:=(dU b.2)
  ((true=true->Ok b.2 0/\gp (aE 2 c [])=true))/\(
  let d:=(gq (aE 2 c []) b.2)
  VC.Wj cB pre ij (fun _ _ l=>xw d (l.getD 0 .top).J (qY (l.drop 1))) [] (VC.lp 153 Qq) (fy (fy (fy (fJ (fy (fun i=>([]++encS s).getD i .top) 58 (D.fa [D.int i64 f.1,D.int i64 f.2])) 89 ([D.int i64 a]++Hc e)) 146 (JA b)) 149 (c)) 150 (D.list d)))))))
def ac9(b:Tah)(a:Int)(c:RS):Prop:=
 ((decide (a<((b:Tah).length:Int))=true->
  (true=true->((decide (0<=a))&&(decide (a<((b:Tah).length:Int))))=true)/\(
  ((true=true->Ok c 1/\(0:Int)<=((((b).getD (a:Int).toNat .top)).J)/\(((((b).getD (a:Int).toNat .top)).J):Int)<=5))/\(
  True))))/\((decide (a<((b:Tah).length:Int))=false->
  ((true=true->Ok c 1))/\(
  True)))
def QY(s:RS)(hs:dr (.Y eV) (encS s))(h:Ok s 13):agu s:=by
 refine⟨fun _=>h.may,?_⟩;intro n
 clear_value n
 refine VC.jk 89 (by kernel_rfl) ?_;refine VC.hH (Φ:=cB) (Pre:=pre) (triv:=triv) (v0:=89) (decL:=fun l=>((l.getD 0 .top).J,qY (l.drop 1))) (encL:=fun a:Int×RS=>([D.int i64 a.1]++Hc a.2)) (dec:=oi) (enc:=ij) (lp:=fun a _ _ l=>(let F:=a.1;let x:=a.2;let d:=oc (aE 27 Kz [(0,D.int i64 1)]) x;let f:=(dU d.2);let b:=(gq (aE 2 f []) d.2);xw b (l.getD 0 .top).J (qY (l.drop 1)))) (bad:=.inr dK) (bd:=dK) (by kernel_rfl) (fun a:Int×RS=>rM n a.1 a.2) (fun a:Int×RS=>0<=a.1/\a.1<=6/\Ok a.2 13) (fun a:Int×RS=>mr n a.1 a.2) (0,{s with role:=2,br:=s.id,wait:=0,round:=0,reads:=[]}) kf (by kernel_rfl) ?Sv (fun a=>rfl) ?Sy (by kernel_rfl) (fun a u=>by kernel_rfl) (fun a=>by kernel_rfl) (fun a=>by kernel_rfl) (fun a u z=>zE (β:=ada s n a.1 a.2) ?E6) (by kernel_rfl)
 .exact⟨aJ 0,by show(0:Int)<=6;decide,⟨h.may,h.yM,h.yL,h.tM,h.nm,h.ne,h.nc,h.nv,h.cf,h.cs,h.cl,h.tm,h.tx,rfl⟩⟩
 .rintro⟨j,t⟩ ⟨w,A,m⟩;simp only at w A m;unfold rM;dsimp only;have K:j=0\/j=1\/j=2\/j=3\/j=4\/j=5\/j=6:=by omega
  rcases K with rfl|rfl|rfl|rfl|rfl|rfl|rfl
  .rw[if_pos (by rfl),if_pos (by rfl)];refine⟨⟨?_,?_,m.same jh⟩,?_⟩<;>first|(dsimp only;decide)|(unfold mr;dsimp only;decide)
  .rw[if_pos (by rfl),if_neg (by simp),if_pos (by rfl)];refine⟨⟨?_,?_,m.same jh⟩,?_⟩<;>first|(dsimp only;decide)|(unfold mr;dsimp only;decide)
  .rw[if_pos (by rfl),if_neg (by simp),if_neg (by simp),if_pos (by rfl)];refine⟨⟨?_,?_,m.same jh⟩,?_⟩<;>first|(dsimp only;decide)|(unfold mr;dsimp only;decide)
  .rw[if_pos (by rfl),if_neg (by simp),if_neg (by simp),if_neg (by simp),if_pos (by rfl)];refine⟨⟨?_,?_,m.same jh⟩,?_⟩<;>first|(dsimp only;decide)|(unfold mr;dsimp only;decide)
  .rw[if_pos (by rfl),if_neg (by simp),if_neg (by simp),if_neg (by simp),if_neg (by simp),if_pos (by rfl)];refine⟨⟨?_,?_,m.same jh⟩,?_⟩<;>first|(dsimp only;decide)|(unfold mr;dsimp only;decide)
  .rw[if_pos (by rfl),if_neg (by simp),if_neg (by simp),if_neg (by simp),if_neg (by simp),if_neg (by simp),if_pos (by rfl)];refine⟨⟨?_,?_,m.same jh⟩,?_⟩<;>first|(dsimp only;decide)|(unfold mr;dsimp only;decide)
  rw[if_neg (by simp)];trivial
 obtain⟨j,t⟩:=a;obtain⟨w,A,m⟩:=u;simp only at w A m;refine⟨fun e=>?_,fun _=>⟨fun _=>m.le (by omega),?_⟩⟩
 ·(repeat' (first|exact trivial|apply And.intro|intro _))
  all_goals (simp only[beq_eq_false_iff_ne,ne_eq,bg]at*;omega)
 intro d;have v:Ok d.2 12:=m.put (k:=12) (by intro I;exact absurd I (by decide))
 clear_value d
 refine⟨fun _=>v.le (by omega),?_⟩;intro f;have o:gp (aE 2 f [])=true:=iQ v
 clear_value f
 refine⟨fun _=>⟨v.le (by omega),o⟩,?_⟩;intro b;have g:=iy (c:=aE 2 f []) (s:=d.2) o;change b.length<=10/\∀y∈b,1<=y.J/\y.J<=5 at g
 clear_value b
 obtain⟨M,H⟩:=g
 have E:∀i:Int,0<=i->i<b.length->1<=(b.getD i.toNat .top).J/\(b.getD i.toNat .top).J<=5:=by
  intro i w p;have r:i.toNat<b.length:=by omega
  rw[ag,aR r];exact H _ (aF r)
 intro J;refine VC.jk 153 (by kernel_rfl) ?_;refine VC.hH (Φ:=cB) (Pre:=pre) (triv:=triv) (v0:=153) (decL:=fun l=>((l.getD 0 .top).J,qY (l.drop 1))) (encL:=fun a:Int×RS=>([D.int i64 a.1]++Hc a.2)) (dec:=oi) (enc:=ij) (lp:=fun _ _ _ _=>dK) (bad:=.inr dK) (bd:=dK) (by kernel_rfl) (fun a:Int×RS=>xu b a.1 a.2) (fun a:Int×RS=>0<=a.1/\a.1<=b.length/\Ok a.2 (1+(10-a.1.toNat))) (fun a:Int×RS=>CM b a.1 a.2) (0,d.2) kf (by kernel_rfl) ?i0c (fun a=>rfl) ?hsc (by kernel_rfl) (fun a u=>by kernel_rfl) (fun a=>by kernel_rfl) (fun a=>by kernel_rfl) (fun a u z=>zE (β:=ac9 b a.1 a.2) ?ajQ) (by kernel_rfl)
 .exact⟨aJ 0,eB _,v.le (by show 1+(10-0)<=_;omega)⟩
 .rintro⟨i,t⟩ ⟨p,B,q⟩;simp only at p B q;unfold xu;by_cases e:decide (i<(b.length:Int))=true
  .rw[if_pos e];rw[bg]at e;have G:IntKind.wrap i64 (i+1)=i+1:=wrap64 (by omega) (by omega);dsimp only;rw[G];obtain⟨L,C⟩:=E i p e;refine⟨⟨by show 0<=i+1;omega,by show i+1<=_;omega,?_⟩,by show b.length-(i+1).toNat<b.length-i.toNat;omega⟩;exact cP.lD (q.le (by show 1+(10-(i+1).toNat)+1<=_;omega)) (by omega) C
  rw[if_neg e];trivial
 obtain⟨i,t⟩:=a;obtain⟨p,B,q⟩:=u;simp only at p B q;refine⟨fun e=>?_,fun _=>⟨fun _=>q.le (by omega),trivial⟩⟩;rw[bg]at e;obtain⟨L,C⟩:=E i p e;refine⟨fun _=>?_,fun _=>⟨q.le (by omega),by show 0<=(b.getD i.toNat .top).J;omega,C⟩,trivial⟩;rw[aP,bg,bg];exact⟨p,e⟩
def c67:bn Try.prog 67 jX (pre 67) (cB 67):=by refine hU (given:=[(3,{boxes:=yY}),(9,{boxes:=yY}),(5,{drop:=[4006004]})]) mix UL Try.func67 rfl (by kernel_rfl) (v:=Qq) (by kernel_rfl) ?_;intro c h b;have hs:=h;obtain⟨s,rfl⟩:=fP h;refine zL oi ij dK (fun _ _ l=>(let a:=(fW s.li s.lt s.le);rN a (l.getD 0 .top).J (qY (l.drop 1)))) (y:=xR s) (zE (QY s hs b))
def Up:jf Try.prog pre cB VJ:=aN c67 UL
def agG(x:D)(s:RS):Prop:=
 (True)/\(
 let qN:=gI ({s with term:=(i64.wrap (s.term+1)),vote:=s.id}:RS)
 (True)/\(
 let c:=(lO (aE 2 x []) (D.list ([D.int i64 qN.id]:Tah)))
 ((c=true->
  ((true=true->Ok ({qN with role:=1,br:=0,aT:=([D.int i64 qN.id]:Tah)}:RS) 13))/\(
  True)))/\((c=false->
  ((true=true->gn qN.li qN.lt qN.le=true))/\(
  let a:=(fW qN.li qN.lt qN.le)
  ((true=true->Ok ({qN with role:=1,br:=0,aT:=([D.int i64 qN.id]:Tah)}:RS) 0/\gp (aE 2 x [])=true))/\(
  let b:=(gq (aE 2 x []) ({qN with role:=1,br:=0,aT:=([D.int i64 qN.id]:Tah)}:RS))
  VC.E0 cB pre ij (fun _ _ l=>lQ x a b (l.getD 0 .top).J (qY (l.drop 1))) [] (VC.lp 113 VA) (fy (fy (fy (fy (fun i=>([x]++encS s).getD i .top) 74 (ij qN)) 97 (D.bool c)) 102 (D.fa [D.int i64 a.1,D.int i64 a.2])) 110 (D.list b))))))))
def adf(x:D)(e:Int×Int)(b:Tah)(a:Int)(d:RS):Prop:=
 ((decide (a<((b:Tah).length:Int))=true->
  (true=true->((decide (0<=a))&&(decide (a<((b:Tah).length:Int))))=true)/\(
  (True)/\(
  let c:=(jo (aE 2 x []) ((((b).getD (a:Int).toNat .top)).J))
  ((c=true->
   ((true=true->Ok d 1))/\(
   True)))/\(True)))))/\(True)
def Rc(x:D)(s:RS)(hs:dr (.Y eV) (encS s))(h:Ok s 14/\gp x=true/\s.term<MX):agG x s:=by
 obtain⟨h,n,r⟩:=h;have m:=h.Hl r;refine⟨trivial,trivial,fun _=>⟨fun _=>m.le (by omega),trivial⟩,fun _=>⟨fun _=>h.may,?_⟩⟩;intro d;refine⟨fun _=>⟨m.le (by omega),n⟩,?_⟩;intro b;have j:b.length<=10:=(iy (c:=aE 2 x []) n).1
 clear_value d b
 refine VC.jk 113 (by kernel_rfl) ?_;refine VC.hH (Φ:=cB) (Pre:=pre) (triv:=triv) (v0:=113) (decL:=fun l=>((l.getD 0 .top).J,qY (l.drop 1))) (encL:=fun a:Int×RS=>([D.int i64 a.1]++Hc a.2)) (dec:=oi) (enc:=ij) (lp:=fun _ _ _ _=>dK) (bad:=.inr dK) (bd:=dK) (by kernel_rfl) (fun a:Int×RS=>nR x d b a.1 a.2) (fun a:Int×RS=>0<=a.1/\a.1<=b.length/\Ok a.2 (1+(10-a.1.toNat))) (fun a:Int×RS=>Bm x d b a.1 a.2) (0,{gI ({s with term:=i64.wrap (s.term+1),vote:=s.id}:RS) with role:=1,br:=0,aT:=[.int i64 s.id]}) kf (by kernel_rfl) ?Sv (fun a=>rfl) ?Sy (by kernel_rfl) (fun a o=>by kernel_rfl) (fun a=>by kernel_rfl) (fun a=>by kernel_rfl) (fun a o q=>zE (β:=adf x d b a.1 a.2) ?E6) (by kernel_rfl)
 .exact⟨aJ 0,eB _,m.le (by show 1+(10-0)<=_;omega)⟩
 .rintro⟨i,t⟩ ⟨g,k,f⟩;simp only at g k f;unfold nR;by_cases e:decide (i<(b.length:Int))=true
  .rw[if_pos e];rw[bg]at e;have p:IntKind.wrap i64 (i+1)=i+1:=wrap64 (by omega) (by omega);dsimp only;rw[p];generalize jo (aE 2 x []) ((b.getD i.toNat .top).J)=c;cases c with
   |true=>
    refine⟨⟨by show 0<=i+1;omega,by show i+1<=_;omega,?_⟩,by show b.length-(i+1).toNat<b.length-i.toNat;omega⟩;exact cP.send (f.le (by show 1+(10-(i+1).toNat)+1<=_;omega))
   |false=>exact⟨⟨by show 0<=i+1;omega,by show i+1<=_;omega,f.le (by show 1+(10-(i+1).toNat)<=_;omega)⟩,by show b.length-(i+1).toNat<b.length-i.toNat;omega⟩
  rw[if_neg e];trivial
 obtain⟨i,t⟩:=a;obtain⟨g,k,f⟩:=o;simp only at g k f;refine⟨fun e=>⟨fun _=>?_,trivial,fun _=>⟨fun _=>f.le (by omega),trivial⟩,trivial⟩,trivial⟩;rw[bg]at e;rw[aP,bg,bg];exact⟨g,e⟩
def c37:bn Try.prog 37 s37 (pre 37) (cB 37):=by refine hU (given:=[(8,{boxes:=yY})]) mix Up Try.func37 rfl (by kernel_rfl) (v:=VA) (by kernel_rfl) ?_;intro g h e;obtain⟨x,_,rfl,f,c⟩:=aA.1 h;have hs:=c;obtain⟨s,rfl⟩:=fP c;refine zL oi ij dK (fun _ _ l=>(let qN:=gI ({s with term:=(i64.wrap (s.term+1)),vote:=s.id}:RS);let d:=(lO (aE 2 x []) (D.list ([D.int i64 qN.id]:Tah)));let b:=(fW qN.li qN.lt qN.le);let a:=(gq (aE 2 x []) ({qN with role:=1,br:=0,aT:=([D.int i64 qN.id]:Tah)}:RS));lQ x b a (l.getD 0 .top).J (qY (l.drop 1)))) (y:=lG x s) (zE (Rc x s hs e))
def UN:jf Try.prog pre cB VV:=aN c37 Up
end Go.Proofs.Ytjhmkaninmgilaa
