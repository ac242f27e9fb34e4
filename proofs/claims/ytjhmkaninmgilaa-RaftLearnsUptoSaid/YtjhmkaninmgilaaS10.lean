/- Part 10 of the proof of RaftLearns; no condition. -/
import Derived.Test.YtjhmkaninmgilaaS09
set_option linter.defProp false
set_option linter.unusedVariables false
set_option linter.unusedSimpArgs false
set_option maxHeartbeats 4000000
namespace Go.Proofs.Ytjhmkaninmgilaa
open Go Go.RowKit Go.dF Go.Proofs
attribute [local irreducible] TL
def kU{w:Tam}{S:bE}{ow:Ow}{T:Tba}{zs us:Tac}(k:Wf w S ow):bD aB (iI w.heap.size) w S ow ((w.alloc (.cells zs.toArray T)).setRow w.heap.size us.toArray) S ow/\Wf ((w.alloc (.cells zs.toArray T)).setRow w.heap.size us.toArray) S ow/\fF ((w.alloc (.cells zs.toArray T)).setRow w.heap.size us.toArray) S ow w.heap.size T us:=by obtain⟨f,d⟩:=bD.alloc k (.cells zs.toArray T);obtain⟨e,j,l⟩:=(fF.new k T zs).set d (us:=us);have c:bD aB (iI w.heap.size) w S ow _ S ow:=f.mono (fun _ h=>h) nE;exact⟨(c.tr k d e (fun _ h=>.inl h)).mono (fun _ h=>h.elim id id) (fun _ h=>h),j,l⟩
def fill_eq{zs us:Tac}{n:Nat}(c:zs.length=n)(d:us.length=n):(zs.toArray.toList.take 0++us++zs.toArray.toList.drop (0+us.length))=us:=by have:zs.toArray.toList.drop (0+us.length)=[]:=bL (by simp;omega);rw[this];simp
noncomputable def Fx:Code:=.seq (.seq (.region 12 Hy false) (.cond (.tmp 78) (.seq (.region 13 Hx false) Ad) .skip)) (.region 21 zD true)
section
variable{w0 w:Tam}{S0 S:bE}{kG ow:Ow}{b b5 b6 i:Nat}{g:GS}{R:GR}{o:D}{Q:Iv}{a:Act}
def Cp{A3 A7:Tao Addr}{c3 c7:Nat}{oe bs:Taf}{vo:Tac}{y t E C B A z:Tan}{t1 t2 s2 s3 s4 s5 s6:D}(hQ:QP Q)(p:Wf w0 S0 kG)(b0:pC kG)(O:∀a w,Fy w0 S0 kG b {g with saved:=g.saved.set i (.agg [t1,t2,s2,s3,s4,s5,s6,.list (if oe=[] then bs else mG bs (cD 0 (oe.getD 0 .top)).q++oe)])} .normal a w->Q .normal a w)(st:bD TT aB w0 S0 kG w S ow)(hn:pC ow)(gm:GM w S ow b (R.cells g.bad) R g)(b1:R.la=R.lb)(a4:R.va=R.vv)(lo:fF w S ow b5 75 vo)(lx:fF w S ow b6 65 [y,t,E,C,B,A,z,.slice A7 bs.length c7])(h6:w0.heap.size<=b6)(a7:b5≠b6)(K:vo[3]?=some (.slice A3 oe.length c3))(a6:cg w S (.slice A3 oe.length c3) (.list oe))(b2:Has (.list dY) (.list oe))(r:∀(j:Nat) u c,[y,t,E,C,B,A,z][j]?=some u->[t1,t2,s2,s3,s4,s5,s6][j]?=some c->cg w S u c)(M:dx (.V (zu++kz)) [t1,t2,s2,s3,s4,s5,s6])(N:cg w S (.slice A7 bs.length c7) (.list bs))(U:Has (.list dY) (.list bs))(a5:bs.length+oe.length<=300000000000)(hi:i<g.saved.length)(k:Kn 119 a [(5,.pointer (some ⟨b5,0,none⟩)),(6,.pointer (some ⟨b6,0,none⟩)),(0,aI b),(1,.int .i64 i)]):Fx.wp Try.prog Q a w:=by
 have T:∀u∈[y,t,E,C,B,A,z],u.oneCell'=true:=by intro u hu;obtain⟨q,hq⟩:=aE hu;have P:q<7:=(aO.1 hq).1;obtain⟨d,hd,hh⟩:=cJ M q ((zu++kz)[q]'P) (by rw[Ty.dm];exact aS _);exact(r q u d hq hd).iE hh (bY.1 (show(zu++kz).all Ty.scalar=true from rfl) _ (aN P))
 have X:∀(a:Act) (W:Tam) (s:bE) (f:Ow) (n:Tan),Kn 119 a [(6,.pointer (some ⟨b6,0,none⟩)),(0,aI b),(1,.int .i64 i)]->bD TT aB w0 S0 kG W s f->(∀u d,cg w S u d->cg W s u d)->GM W s f b (R.cells g.bad) R g->fF W s f b6 65 [y,t,E,C,B,A,z,n]->pC f->n.oneCell'=true->
   cg W s n (.list (if oe=[] then bs else mG bs (cD 0 (oe.getD 0 .top)).q++oe))->Has (.list dY) (.list (if oe=[] then bs else mG bs (cD 0 (oe.getD 0 .top)).q++oe))->(Code.region 21 zD true).wp Try.prog Q a W:=by
  intro a W s f n k sG l b4 a1 a9 h7 h m;refine OY hQ O p b0 sG a9 b4 b1 a4 a1 rfl ?_ (dU.2 ⟨_,rfl,AA (a:=zu++kz) (x:=[t1,t2,s2,s3,s4,s5,s6]) rfl M (aJ.2 ⟨_,_,rfl,m,dy.2 rfl⟩)⟩) ?_ hi k
  .intro j u c V h2;by_cases hj:j<7
   .refine l _ _ (r j u c ?_ ?_)
    .rw[<-V,show [y,t,E,C,B,A,z,n]=[y,t,E,C,B,A,z]++[n] from rfl,an hj]
    rw[<-h2];show _=([t1,t2,s2,s3,s4,s5,s6]++[_])[j]?;rw[an hj]
   have h8:j<8:=(aO.1 V).1;have:j=7:=by omega
   subst this;injection V with V;injection h2 with h2;subst V h2;exact h
  intro v L;rcases aM.1 (show v∈[y,t,E,C,B,A,z]++[n] from L) with L|L
  .exact T v L
  rw[ax.1 L];exact h7
 unfold Fx;refine wp_seq (wp_seq (rg aB hQ WB ?_));intro w8 Z;have H:=gm.O Z;have J:=lo.O Z;have I:=lx.O Z;have sI:=rJ p gm.wf st (bD.O Z aB aB S ow) nE;have s0:=SX.refl aB w8;have G:∀u d,cg w S u d->cg w8 S u d:=fun u d r=>r.J (bD.O Z aB aB S ow)
 repeat (first|refine sm k fun a k=>?_|refine ld k (J.cell id K) fun a k=>?_)
 refine cm (c:=decide ((oe.length:Int)>0)) k rfl rfl rfl fun a k=>?_;refine ay (bf k rfl ?_);by_cases e:oe=[]
 .rw[if_neg (by subst e;simp)];refine wp_skip (X a w8 S ow _ (k.sb) sI G H I hn rfl ?_ ?_)
  .rw[if_pos e];exact G _ _ N
  rw[if_pos e];exact U
 have b8:0<oe.length:=eQ.2 e;rw[if_pos (by simp;omega)];refine wp_seq (rg aB hQ WA ?_);intro w9 Y;have b7:=H.O Y;have a3:=J.O Y;have a2:=I.O Y;have sJ:=rJ p H.wf sI (bD.O Y aB aB S ow) nE;have s0:=SX.refl aB w9;have F:∀u d,cg w S u d->cg w9 S u d:=fun u d r=>(G u d r).J (bD.O Y aB aB S ow)
 repeat refine sm k fun a k=>?_
 refine ay ?_;refine Lc (g:=g) (i:=i) (by exact hQ) p sJ hn b7 a3 a2 h6 a7 K (F _ _ a6) b2 rfl rfl (F _ _ N) U a5 e (k.sb) ?_;intro a W s f n k sK l b3 a0 a8 h7 h m;refine X a W s f n k sK (fun u d r=>l u d (F u d r)) b3 a0 a8 h7 ?_ ?_
 .rw[if_neg e];exact h
 rw[if_neg e];exact m
end
def II{w:Tam}{S:bE}{ow:Ow}{b i:Nat}{g:GS}{vo:Tan}{o:D}(h:kv w S ow b g)(hn:pC ow)(hi:i<g.saved.length)(ho:cg w S vo o)(j3:Has zk o)(j5:i<g.ew.length)(j4:Ok (cG g i) 0)(a8:(cD 7 (g.saved.getD i .top)).A.length+(cD 3 o).A.length<=300000000000):
  Calls Try.prog 30 [aI b,.int .i64 i,vo].toArray w (rD w S ow b (mH i o g)):=by
 obtain⟨R,gm,f1,g9⟩:=h;obtain⟨co,g0,rfl,rfl,i4,i0,E,K,b3⟩:=ML ho j3 rfl;obtain⟨d,hd⟩:∃d,g.saved[i]?=some d:=⟨_,aS hi⟩;have f6:g.saved.getD i .top=d:=by rw[ae,hd,bz]
 have h9:Has iU d:=gm.saved.all d (bQ hd);rw[f6]at a8
 obtain⟨y,m,f,z,t,c5,C,B,rfl⟩:∃y m f z t c5 C B,co=[y,m,f,z,t,c5,C,B]:=by
  have f8:co.length=8:=i4
  match co,f8 with
  | [y,m,f,z,t,c5,C,B],_=>exact⟨y,m,f,z,t,c5,C,B,rfl⟩
 obtain⟨d0,d1,d2,d3,d4,d5,d6,d7,rfl⟩:∃y m f z t c5 C B,g0=[y,m,f,z,t,c5,C,B]:=by
  have f7:g0.length=8:=i0
  match g0,f7 with
  | [y,m,f,z,t,c5,C,B],_=>exact⟨y,m,f,z,t,c5,C,B,rfl⟩
 obtain⟨x3,d9,f5⟩:=cJ K 3 (.list dY) (by rw[Ty.dm];rfl);injection d9 with d9;subst d9;obtain⟨i3,A3,q3,k7⟩:=tv (E 3 _ _ rfl rfl) f5;subst k7;have e8:=E 3 _ _ rfl rfl;have h8:(cD 3 (D.agg [d0,d1,d2,d3,d4,d5,d6,d7])).A=d3.A:=rfl;generalize l3:d3.A=I at i3 e8 h8 b3 E;subst i3;refine kD Try.func30 Oa XR afO (by show 3<=119;omega) ?_;intro a k;have hQ:=jD (P:=Try.prog) (fn:=Try.f30) (R:=rD w S ow b (mH i (D.agg [d0,d1,d2,.list I,d4,d5,d6,d7]) g));refine wp_seq (rg aB hQ abn ?_);intro w1 e1;refine rW (us:=[y,m,f,.slice A3 I.length q3,t,c5,C,B]) k (by decide) rfl (by decide) rfl rfl (fun h=>absurd rfl h) fun a k=>?_;refine ay ?_;have a1:=gm.O e1;have sA:bD TT aB w S ow w1 S ow:=bD.O e1 TT aB S ow;obtain⟨a2,g8⟩:=bD.alloc a1.wf (.cells [y,m,f,.slice A3 I.length q3,t,c5,C,B].toArray 75);have a6:=fF.new a1.wf 75 [y,m,f,.slice A3 I.length q3,t,c5,C,B];have b1:=a1.J a2 g8;have sB:=rJ gm.wf a1.wf sA a2 nE;have h5:w.heap.size<=w1.heap.size:=by rw[e1.heap];exact aU _
 generalize l0:w1.heap.size=b5 at k a6 h5;generalize w1.alloc _=w2 at a6 b1 sB a2 g8⊢;have k0:∀u d,cg w S u d->cg w2 S u d:=fun u d hr=>hr.J sB;clear a2 sA a1 l0 e1 w1;refine wp_seq (rg aB hQ abm ?_);intro w3 e3;have M:=b1.O e3;have a5:=a6.O e3;have sC:=rJ gm.wf b1.wf sB (bD.O e3 aB aB S ow) nE;have s0:=SX.refl aB w3;obtain⟨bt,l5,us,i7,i5,k1,h0,e6,e4⟩:=M.saved.elem hd;have A:us.length=8:=h0;have h3:iU.cells.length=8:=rfl;rw[h3]at e6
 repeat (first|refine sm k fun a k=>?_|refine ld k (M.cell id rfl) fun a k=>?_)
 rw[i7]at k;refine wQ (el:=65) (sz:=8) k rfl rfl hi fun a k=>?_;refine lN (vs:=us) k rfl A (fun w' a7 j v hv=>eP i5 (fun h=>h) (e6 j v hv) w' a7) fun a k=>?_;refine jO (nn:=8) k (by decide) rfl (by decide) (by kernel_rfl) (fun zs _=>SX.alloc _ _ _) fun zs g4 a k=>?_
 have V:∀u∈us,u.oneCell'=true:=by
  intro u hu;obtain⟨q,hq⟩:=aE hu;have l7:q<us.length:=(aO.1 hq).1;obtain⟨l8,k4⟩:=cB h9;have e9:q<iU.cells.length:=by rw[h3];omega
  obtain⟨c,k9,k8⟩:=k4 q (iU.cells[q]'e9) (aS e9);exact(e4 q u c hq k9).iE k8 (bY.1 (show iU.cells.all Ty.scalar=true from rfl) _ (aN e9))
 refine ln (vs:=us) (cur:=zs.toArray) k (by decide) rfl (by rw[A];kernel_rfl) rfl rfl rfl (heap_alloc_new w3 _) (by rw[bV];omega) V (fun h=>absurd rfl h) fun a k=>?_;refine ay ?_;rw[fill_eq g4 A];obtain⟨O,g7,U⟩:=kU (T:=65) (zs:=zs) (us:=us) M.wf;have a0:=M.J O g7;have h6:w.heap.size<=w3.heap.size:=sC.size;have a4:=a5.J O (fun e=>by have:=a5.lt;rw[show b5=w3.heap.size from e]at this;omega);have X:b5≠w3.heap.size:=fun e=>by have:=a5.lt;omega
 have sD:=rJ gm.wf M.wf sC O (fun bb hb=>by rw[show bb=_ from hb];exact h6);have s:∀(j:Nat) u c,us[j]?=some u->d.cells[j]?=some c->cg _ S u c:=fun j u c p r=>(e4 j u c p r).J O;generalize m0:w3.heap.size=b6 at k U h6 X sD a0 a4 s⊢;generalize l1:(w3.alloc _).setRow b6 _=w4 at U sD a0 a4 s⊢;have j9:∀u d,cg w S u d->cg w4 S u d:=fun u d hr=>hr.J sD;have k:=k.sb (l:=[(5,.pointer (some ⟨b5,0,none⟩)),(6,.pointer (some ⟨b6,0,none⟩)),(0,aI b),(1,.int .i64 i)]);clear O g7 l1 i7 i5 k1 e6 e4 s0 sC a5 M k0 sB a6 b1 g4;obtain⟨dd,k3,Z⟩:=dU.1 h9;subst k3;have i1:dd.length=8:=by rw[fH Z,Ty.dm];rfl
 obtain⟨u0,u1,u2,u3,u4,u5,u6,u7,rfl⟩:∃y m f z t c5 C B,us=[y,m,f,z,t,c5,C,B]:=by
  match us,A with
  | [y,m,f,z,t,c5,C,B],_=>exact⟨y,m,f,z,t,c5,C,B,rfl⟩
 obtain⟨y0,y1,y2,y3,y4,y5,y6,y7,rfl⟩:∃y m f z t c5 C B,dd=[y,m,f,z,t,c5,C,B]:=by
  match dd,i1 with
  | [y,m,f,z,t,c5,C,B],_=>exact⟨y,m,f,z,t,c5,C,B,rfl⟩
 obtain⟨x7,d8,f4⟩:=cJ Z 7 (.list dY) (by rw[Ty.dm];rfl);injection d8 with d8;subst d8;obtain⟨i2,A7,q7,k5⟩:=tv (s 7 _ _ rfl rfl) f4;subst k5;have j7:=s 7 _ _ rfl rfl;have b2:(cD 7 (D.agg [y0,y1,y2,y3,y4,y5,y6,y7])).A=y7.A:=rfl;rw[b2,h8]at a8;generalize l4:y7.A=N at i2 j7 a8 U s b2 V;subst i2;refine wp_seq (rg aB hQ abl ?_);intro w5 e5;have b0:=a0.O e5;have a3:=a4.O e5;have b4:=U.O e5;have sE:=rJ gm.wf a0.wf sD (bD.O e5 aB aB S ow) nE;have s0:=SX.refl aB w5
 repeat refine sm k fun a k=>?_
 refine lN (vs:=[m,f]) k rfl rfl (fun w' a7 j v hv=>by
  match j,hv with
  |0,hv=>exact a3.cell id (j:=1) hv w' a7
  |1,hv=>exact a3.cell id (j:=2) hv w' a7) fun a k=>?_
 repeat refine sm k fun a k=>?_
 have f0:∀u∈[m,f],u.oneCell'=true:=fun u hu=>b3 u (by simp at hu⊢;rcases hu with rfl|rfl<;>simp);refine ln (vs:=[m,f]) (cur:=[u0,u1,u2,u3,u4,u5,u6,.slice A7 N.length q7].toArray) k (by decide) rfl (by kernel_rfl) rfl rfl rfl b4.heap (by show 2<=8;omega) f0 (fun h=>absurd rfl h) fun a k=>?_;refine ay ?_;obtain⟨L,e2,g2⟩:=b4.set b0.wf (us:=[m,f,u2,u3,u4,u5,u6,.slice A7 N.length q7]);have f9:=b0.J L e2;have g3:=a3.J L X;have sF:=rJ gm.wf b0.wf sE L (fun bb hb=>by rw[show bb=b6 from hb];exact h6);have k:=k.sb (l:=[(5,.pointer (some ⟨b5,0,none⟩)),(6,.pointer (some ⟨b6,0,none⟩)),(0,aI b),(1,.int .i64 i)]);have J:∀(j:Nat) u c,[u0,u1,u2,u3,u4,u5,u6,.slice A7 N.length q7][j]?=some u->(D.agg [y0,y1,y2,y3,y4,y5,y6,.list N]).cells[j]?=some c->cg (w5.setRow b6 [m,f,u2,u3,u4,u5,u6,.slice A7 N.length q7].toArray) S u c:=fun j u c p r=>((s j u c p r).J (bD.O e5 aB aB S ow)).J L;show Code.wp Try.prog _ _ a (w5.setRow b6 [m,f,u2,u3,u4,u5,u6,.slice A7 N.length q7].toArray);generalize w5.setRow b6 [m,f,u2,u3,u4,u5,u6,.slice A7 N.length q7].toArray=w6 at g2 f9 g3 sF J L e2⊢;have j8:∀u d,cg w S u d->cg w6 S u d:=fun u d hr=>hr.J sF;clear L e2 sE b4 a3 b0 e5 s0 s U a4 a0 sD j9;obtain⟨z1,c9,g6⟩:=cJ K 1 I6 (by rw[Ty.dm];rfl);obtain⟨z2,b9,g5⟩:=cJ K 2 I6 (by rw[Ty.dm];rfl);obtain⟨z4,b8,j2⟩:=cJ K 4 (.ptr (.V kz)) (by rw[Ty.dm];rfl);injection c9 with c9;injection b9 with b9;injection b8 with b8;subst c9 b9 b8;have j1:dx (.V kz) [y2,y3,y4,y5,y6]:=CI (a:=kz) (b:=[.list dY]) (n:=5) rfl (x:=[y2,y3,y4,y5,y6,.list N]) (tP (a:=zu) Z);have H:=E 4 _ _ rfl rfl;refine wp_seq (wp_seq (rg aB hQ abk ?_));intro w7 e7;have i8:=f9.O e7;have b7:=g3.O e7;have g1:=g2.O e7;have sH:=rJ gm.wf f9.wf sF (bD.O e7 aB aB S ow) nE;have s0:=SX.refl aB w7;have F:∀u d,cg w S u d->cg w7 S u d:=fun u d hr=>(j8 u d hr).J (bD.O e7 aB aB S ow)
 repeat (first|refine sm k fun a k=>?_|refine ld k (b7.cell id rfl) fun a k=>?_)
 rcases kJ.1 j2 with rfl|⟨pl,rfl,a9⟩
 ·
  have k6:=H.sq;subst k6;refine N3 (by kernel_rfl) k (by assumption) rfl (by decide) rfl rfl fun a k=>?_;refine ay (bf k rfl (wp_skip ?_));refine Cp (t1:=d1) (t2:=d2) (s2:=y2) (s3:=y3) (s4:=y4) (s5:=y5) (s6:=y6) (bs:=N) (oe:=I) (by exact hQ) gm.wf hn ?_ sH hn i8 f1 g9 b7 g1 h6 X rfl (F _ _ e8) f5 ?_ (aJ.2 ⟨_,_,rfl,g6,aJ.2 ⟨_,_,rfl,g5,j1⟩⟩) ((J 7 _ _ rfl rfl).J (bD.O e7 aB aB S ow)) f4 a8 hi (k.sb)
  .intro a w' hp
   have:mH i (D.agg [d0,d1,d2,.list I,.gI,d5,d6,d7]) g={g with saved:=g.saved.set i (.agg [d1,d2,y2,y3,y4,y5,y6,.list (if I=[] then N else mG N (cD 0 (I.getD 0 .top)).q++I)])}:=by unfold mH;rw[f6];rfl
   rw[this];exact hp
  intro j u c p r
  match j,p,r with
  |0,p,r=>injection p with p;injection r with r;subst p r;exact F _ _ (E 1 _ _ rfl rfl)
  |1,p,r=>injection p with p;injection r with r;subst p r;exact F _ _ (E 2 _ _ rfl rfl)
  |j+2,p,r=>
   have hj:j+2<7:=(aO.1 p).1;refine(J (j+2) u c ?_ ?_).J (bD.O e7 aB aB S ow)
   .rw[<-p];show([u0,u1,u2,u3,u4,u5,u6]++[_])[j+2]?=_;rw[an hj];rfl
   rw[<-r];show([y0,y1,y2,y3,y4,y5,y6]++[_])[j+2]?=_;rw[an hj];rfl
 ·
  obtain⟨bp,cp,rfl,_⟩:=H.qJ;refine N3 (by kernel_rfl) k (by assumption) rfl (by decide) rfl rfl fun a k=>?_;refine ay (bf k rfl ?_);have h7:pl.length=5:=by rw[fH a9,Ty.dm];rfl
  obtain⟨q0,q1,q2,q3,q4,rfl⟩:∃y m f z t,pl=[y,m,f,z,t]:=by
   match pl,h7 with
   | [y,m,f,z,t],_=>exact⟨y,m,f,z,t,rfl⟩
  obtain⟨_,_,e0,⟨si,h4,_⟩,_⟩:=aJ.1 a9;injection e0 with e0 _;subst e0 h4;refine Lb (g:=g) (i:=i) (si:=si) (pr:=[q1,q2,q3,q4]) (by exact hQ) gm.wf sH hn i8 f1 b7 g1 h6 X j5 j4 rfl (F _ _ H) rfl a9 ((J 7 _ _ rfl rfl).J (bD.O e7 aB aB S ow)) f4 (by omega) (k.sb) ?_;intro a W S' l6 m2 m3 m4 m5 m6 v7 k sK f3 l2 j0 i9 k2 j6 G Y;have f2:∀u d,cg w S u d->cg W S' u d:=fun u d hr=>f3 u d (F u d hr);generalize i6:oW N si (decide ((cG g i).li+(cG g i).le.length>si))=bs at G Y;have l9:bs.length<=N.length:=by rw[<-i6];exact FK
  obtain⟨A',q',rfl⟩:=G.qf;refine Cp (t1:=d1) (t2:=d2) (s2:=.int .i64 si) (s3:=q1) (s4:=q2) (s5:=q3) (s6:=q4) (bs:=bs) (oe:=I) (by exact hQ) gm.wf hn ?_ sK k2 l2 f1 g9 j0 i9 h6 X rfl (f2 _ _ e8) f5 ?_ (aJ.2 ⟨_,_,rfl,g6,aJ.2 ⟨_,_,rfl,g5,a9⟩⟩) G Y (by omega) hi k
  .intro a w' hp
   have:mH i (D.agg [d0,d1,d2,.list I,.ptr [.int .i64 si,q1,q2,q3,q4],d5,d6,d7]) g={g with saved:=g.saved.set i (.agg [d1,d2,.int .i64 si,q1,q2,q3,q4,.list (if I=[] then bs else mG bs (cD 0 (I.getD 0 .top)).q++I)])}:=by unfold mH;rw[f6,<-i6];rfl
   rw[this];exact hp
  intro j u c p r
  match j,p,r with
  |0,p,r=>injection p with p;injection r with r;subst p r;exact f2 _ _ (E 1 _ _ rfl rfl)
  |1,p,r=>injection p with p;injection r with r;subst p r;exact f2 _ _ (E 2 _ _ rfl rfl)
  |j+2,p,r=>exact j6 j u c p r
end Go.Proofs.Ytjhmkaninmgilaa
