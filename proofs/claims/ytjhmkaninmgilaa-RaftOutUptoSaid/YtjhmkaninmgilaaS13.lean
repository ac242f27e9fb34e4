/- Part 13 of the proof of RaftOut; no condition. -/
import Derived.Test.YtjhmkaninmgilaaS12
set_option linter.defProp false
set_option linter.unusedVariables false
set_option linter.unusedSimpArgs false
set_option maxHeartbeats 4000000
namespace Go.Proofs.Ytjhmkaninmgilaa
open Go Go.RowKit Go.dI Go.Proofs
attribute [local irreducible] TL
def PJ{t:Ty}{d:D}(h:Has t d)(c:t.scalar=true):1<=d.wt:=by
 cases t with
 |int k=>obtain⟨n,rfl,_⟩:=dr.1 h;simp[D.wt]
 |bool=>obtain⟨n,rfl⟩:=dh.1 h;simp[D.wt]
 |str=>obtain⟨n,rfl⟩:=mg.1 h;simp[D.wt]
 |list t=>obtain⟨l,rfl,_⟩:=bL.1 h;simp[D.wt]
 |box t=>obtain⟨l,rfl,_⟩:=iF.1 h;simp[D.wt]
 |ptr t=>rcases kC.1 h with rfl|⟨l,rfl,_⟩<;>simp[D.wt]
 |fn f t=>obtain⟨l,rfl,_⟩:=kH.1 h;simp[D.wt]
 |agg t=>cases c
 |eS t=>cases c
 |nil=>cases c
 |cons h t=>cases c
def Ez: ∀{l:Taf},(∀d∈l,1<=d.wt)->l.length<=tB l
 | [],_=>aC _
 |d::r,h=>by have f:=h d bw;have e:=Ez (l:=r) (fun x c=>h x (aH _ c));simp only[tB,bu];omega
def Ey{c:Nat}: ∀{l:Taf},(∀d∈l,c<=d.wt)->c*l.length<=tB l
 | [],_=>aC _
 |d::r,h=>by have k:=h d bw;have f:=Ey (l:=r) (fun x e=>h x (aH _ e));simp only[tB,bu,Nat.mul_succ];omega
def Ks{ts:Tal}{l:Taf}(h:dn (.V ts) l)(f:ts.all Ty.scalar=true): ∀d∈l,1<=d.wt:=by
 intro d o;obtain⟨j,e⟩:=aw o;have p:l.length=ts.length:=by rw[fU h,Ty.dq]
 have k:=(aG.1 e).1;obtain⟨x,c,m⟩:=cI h j _ (by rw[Ty.dq];exact aQ (show j<ts.length by omega));rw[e]at c;injection c with c;subst c;exact PJ m (bY.1 f _ (aF _))
def OX{ls:Taf}(h: ∀d∈ls,Has yV d):76*ls.length<=tB ls:=Ey fun d e=>by
 obtain⟨q,rfl,c⟩:=dQ.1 (h d e);have k:=Ez (Ks c rfl);have f:q.length=76:=by rw[fU c,Ty.dq];rfl
 simp only[D.wt];omega
def yu(w0:Tam):HP:=bodyPost Try.prog Try.f3 (fun e w'=>e= .returned (.bool true)∧Kp w0 w')
noncomputable def wX:Code:=.seq (.region 7 UQ false) (.block 2 (.loop (.seq (.seq (.region 8 UP false) (.cond (.tmp 31) .skip (.exit 2))) (.seq (.block 3 zN) (.region 9 UO false)))))
section
variable{w w0 w':Tam}{S S0 S':bz}{ow ko bR:Ow}{b i j n K:Nat}{N:Int}{g:GS}{vl:Tan}{Q:HP}{a:Act}
def pM(j n b:Nat)(vl:Tan):Tab:=[(6,.int .i64 (j:Int)),(5,az b),(4,.bool false),(1,vl),(0,.int .i64 (n:Int))]
def Io(q:QP Q)(D:kg w S ow b g)(J:nq ow)(A:GI n K N g)(y:n<=5)(k:Kn 87 a (pM j n b vl))(f: ∀a W S' bR,Kn 87 a (pM j n b vl)->bD LG ax w S ow W S' bR->kg W S' bR b g->nq bR->Q .normal a W):wX.wp Try.prog Q a w:=by
 have e:=D.wf;unfold wX;unfold pM at k f;refine wp_seq (rg ax q ad5 ?_);intro I G;have v:=SX.refl ax I
 repeat refine sm k fun a k=> ?_
 refine ar ?_
 refine wp_block (wp_loop_ghost (fun C a W=> ∃(i:Nat) (r:bz) (d:Ow),C=n-i∧i<=n∧Kn 87 a (oMq i j n b vl)∧bD LG ax w S ow W r d∧kg W r d b g∧nq d) (n-0)
  ⟨0,S,ow,rfl,aC _,k.sb,(bD.refl LG ax w S ow).W e e G,D.O G,J⟩ ?_)
 clear k v;rintro C a W ⟨i,r,d,rfl,hin,k,DZ,Ra,hn1⟩;unfold oMq at k;refine wp_seq (wp_seq (rg ax q ad4 ?_));intro B F;have h:=Ra.O F;have m:=DZ.W e Ra.wf F;have v:=SX.refl ax B
 repeat refine sm k fun a k=> ?_
 refine cm (c:=decide ((i:Int)<(n:Int))) k rfl rfl rfl fun a k=> ?_;refine ar (aV k rfl ?_);have k:=k.sb (l:=oMq i j n b vl);by_cases o:(i:Int)<(n:Int)
 ·rw[if_pos (by simpa using o)];refine wp_skip ?_;refine wp_seq (wp_block (KV (by exact q) h hn1 A y (by omega) k ?_));intro a M L x k u p z;have t:=jZ e h.wf m u nE;unfold oMq at k;refine rg ax (by exact q) ad3 ?_;intro H E;have v:=SX.refl ax H
  repeat refine sm k fun a k=> ?_
  refine ik (s:=((i+1:Nat):Int)) k (by assumption) rfl (by decide) rfl rfl (wrap64 (by omega) (by omega)) fun a k=> ?_
  repeat refine sm k fun a k=> ?_
  exact ar ⟨n-(i+1),by omega,i+1,L,x,rfl,by omega,k.sb,t.W e p.wf E,p.O E,z⟩
 ·rw[if_neg (by simpa using o)];refine wp_exit ?_;unfold oMq at k;exact f a B r d (k.sb) m h hn1
noncomputable def Db:Code:=.seq (.region 6 UR false) wX
noncomputable def GB:Code:=.seq (.region 17 Mt false) .ret
noncomputable def Js:Code:=.seq (.region 3 UU false) (.block 0 (.loop (.seq (.seq (.region 4 UT false) (.cond (.tmp 20) .skip (.exit 0))) (.seq (.block 1 Db) (.region 5 US false)))))
def Oy{A:Tao Addr}{f:Nat}{ls:Taf}{d:D}(hQ:QP Q)(Z:kg w S ow b g)(X:nq ow)(P:GI n K N g)(h1:1<=n)(t:n<=5)(hN:N<=99990000)(hK:12040<=K)(hr:ca w S (.slice A ls.length f) (.list ls))(Y:ls[j]? =some d)(T:Has yV d)(k:Kn 87 a (pM j n b (.slice A ls.length f)))(o: ∀a W S' bR g',Kn 87 a (pM j n b (.slice A ls.length f))->bD LG ax w S ow W S' bR->kg W S' bR b g'->nq bR->GI n (K-12040) (N+430) g'->Q .normal a W):Db.wp Try.prog Q a w:=by
 have c:=Z.wf;have u:yV.cells.length=76:=rfl;unfold Db;unfold pM at k;refine wp_seq (rg ax hQ ad6 ?_);intro z V;have p:=Z.O V;have E:=(bD.refl LG ax w S ow).W c c V;have s0:=SX.refl ax z;have L:=hr.J (bD.O V ax ax S ow);have a1:j<ls.length:=(aG.1 Y).1;obtain⟨bm,F,a0,y,H,hS,m,r,I⟩:=L.Nh Y T (by rw[u];omega);rw[u]at hS m r;injection H with hA _ x;subst hA x;have U:bm<z.heap.size:=p.wf.s _ _ hS
 have J:ca z S (.agg y.toArray) d:=by obtain⟨lm,rfl,O⟩:=dQ.1 T;refine .agg y lm ?_ I;have:=fU O;rw[this,m,Ty.dq];rfl
 repeat refine sm k fun a k=> ?_
 refine px (el:=51) (sz:=76) k (by assumption) rfl (by decide) rfl rfl (by kernel_rfl) (by kernel_rfl) (by omega) (by omega) fun a k=> ?_;rw[bW]at k;refine lN (vs:=y) k rfl m (fun w' G q v H=>eF U (fun h=>h) (r q v H) w' G) fun a k=> ?_;refine gH (vs:=[az b,.agg y.toArray]) k (by decide) rfl (by decide) JH rfl (IG p X P t h1 hN hK T J) ?_;rintro e w2 ⟨S2,D2,g2,rfl,mZ,Pr,Zq⟩;refine⟨_,rfl,fun h=>absurd rfl h,fun a k=>ar ?_⟩;have B:=jZ c p.wf E mZ nE;refine Io hQ Pr (X.J mZ (fun _ h=>h)) Zq t (k.sb (l:=pM j n b (.slice (some ⟨bm,F,none⟩) ls.length f))) ?_;intro a W S' bR k C R M;exact o a W S' bR g2 k (jZ c Pr.wf B C nE) R M Zq
end
def Oz{w:Tam}{S:bz}{ls:Taf}{A:Tao Addr}{d:Nat}{n0:Int}{a:Act}(m:Wf w S (fun _=>none))(hr:ca w S (.slice A ls.length d) (.list ls))(hh:Has (.list yV) (.list ls))(G:jo .i64 n0)(a1:tB [.int .i64 n0,.list ls] <=1048576)(k:Kn 87 a [(0,.int .i64 n0),(1,.slice A ls.length d)]):(iB Try.f3).wp Try.prog (yu w) a w:=by
 have r:QP (yu w):=ju
 have a3:76*ls.length<=1048576:=by have T:=OX (mh hh);simp only[tB,D.wt]at a1;omega
 rw[Nk];show(Code.seq (.region 0 UY false) (.seq (.region 1 UX false) (.seq (.region 2 UW false) (.seq Js GB)))).wp Try.prog (yu w) a w;refine wp_seq (rg ax r aec ?_);intro w1 e1;have E:=m.O e1;have v:bD LG ax w S (fun _=>none) w1 S (fun _=>none):=bD.O e1 LG ax S _;have f:=SX.refl ax w1
 repeat refine sm k fun a k=> ?_
 refine ar ?_;have k:=k.sb (l:=[(4,.bool false),(1,.slice A ls.length d),(0,.int .i64 n0)]);clear f;refine wp_seq (rg ax r aeb ?_);intro w2 e2;have C:=E.O e2;have Z:=v.W m E e2;have f:=SX.refl ax w2;obtain⟨p0,p5⟩:=py (b:=5) G (by omega)
 repeat refine sm k fun a k=> ?_
 refine gH (vs:=[.int .i64 n0,.int .i64 5]) k (by decide) rfl (by decide) c8.enter rfl (jS C G (by decide) (by decide)) ?_;rintro e w3 ⟨rfl,wo,FX⟩;have R:=wo.tu ax;refine⟨_,rfl,fun _=>R,fun a k=> ?_⟩;generalize hn:(1+gP n0 5).toNat=n;have x:1+gP n0 5=(n:Int):=by omega
 have T:1<=n:=by omega
 have h5:n<=5:=by omega
 refine ik (s:=(n:Int)) k (by assumption) rfl (by decide) rfl rfl (by rw[x];exact wrap64 (by omega) (by omega)) fun a k=> ?_
 repeat refine sm k fun a k=> ?_
 refine ar ?_;have X:=Z.Z m C wo nE;have k:=k.sb (l:=[(4,.bool false),(1,.slice A ls.length d),(0,.int .i64 (n:Int))]);clear f R wo hn;refine wp_seq (rg ax r aea ?_);intro w4 e4;have B:=FX.O e4;have Y:=X.W m FX e4;have f:=SX.refl ax w4
 repeat refine sm k fun a k=> ?_
 refine gH (vs:=[.int .i64 (n:Int),.int .i64 (n:Int)]) k (by decide) rfl (by decide) N2 rfl (xO B T h5) ?_;rintro e w5 ⟨b,S5,JT,rfl,qT,LM⟩;refine⟨_,rfl,fun _=>⟨qT.size,fun P O hx=>qT.free P O rfl (fun h=>h)⟩,fun a k=> ?_⟩;have R:SX ax w4 w5:=⟨qT.size,fun P O hx=>qT.free P O rfl (fun h=>h)⟩
 repeat refine sm k fun a k=> ?_
 refine ar ?_;have y:=jZ m B Y qT nE;have F:nq JT:=(show nq (fun _=>none) from fun _ _ h=>by cases h).J qT (fun _ h=>h);have k:=k.sb (l:=[(5,az b),(4,.bool false),(1,.slice A ls.length d),(0,.int .i64 (n:Int))]);clear f R qT;have L:=GI.start (K:=12040*ls.length) T h5 (by omega);unfold Js;refine wp_seq (wp_seq (rg ax r ad9 ?_));intro w6 e6;have M:=LM.O e6;have z:=y.W m LM.wf e6;have f:=SX.refl ax w6
 repeat refine sm k fun a k=> ?_
 refine ar ?_
 refine wp_block (wp_loop_ghost (fun mm a W=> ∃(j:Nat) (S1:bz) (o:Ow) (g1:GS),mm=ls.length-j∧j<=ls.length∧Kn 87 a (pM j n b (.slice A ls.length d))∧bD LG ax w S (fun _=>none) W S1 o∧kg W S1 o b g1∧nq o∧GI n (12040*ls.length-12040*j) (430*(j:Int)) g1) (ls.length-0)
  ⟨0,S5,JT,gB n n,rfl,aC _,k.sb,z,M,F,by simpa using L⟩ ?_)
 clear k f L F M z LM y;rintro mm a W ⟨j,S1,o,g1,rfl,hjl,k,v,Ra,x,aeV⟩;unfold pM at k;refine wp_seq (wp_seq (rg ax (by exact r) ad8 ?_));intro w7 e7;have q:=Ra.O e7;have u:=v.W m Ra.wf e7;have f:=SX.refl ax w7
 repeat refine sm k fun a k=> ?_
 refine cm (c:=decide ((j:Int)<(ls.length:Int))) k rfl rfl rfl fun a k=> ?_;refine ar (aV k rfl ?_);have k:=k.sb (l:=pM j n b (.slice A ls.length d));by_cases H:(j:Int)<(ls.length:Int)
 ·rw[if_pos (by simpa using H)];refine wp_skip ?_;have I:j<ls.length:=by omega
  have hd:=mh hh _ (aF I);refine wp_seq (wp_block (Oy (by exact r) q x aeV T h5 (by omega) (by omega) (hr.J u) (aQ I) hd k ?_));intro a U S8 a0 g8 k t p a2 J;have V:=jZ m q.wf u t nE;unfold pM at k;refine rg ax (by exact r) ad7 ?_;intro w9 e9;have f:=SX.refl ax w9
  repeat refine sm k fun a k=> ?_
  refine ik (s:=((j+1:Nat):Int)) k (by assumption) rfl (by decide) rfl rfl (wrap64 (by omega) (by omega)) fun a k=> ?_
  repeat refine sm k fun a k=> ?_
  refine ar ⟨ls.length-(j+1),by omega,j+1,S8,a0,g8,rfl,by omega,k.sb,V.W m p.wf e9,p.O e9,a2,J.le (by omega) (by omega)⟩
 ·rw[if_neg (by simpa using H)];refine wp_exit ?_;show GB.wp Try.prog (yu w) a w7;unfold GB;unfold pM at k;refine wp_seq (rg ax r Z7 ?_);intro U e8;have p:=q.O e8;have t:=u.W m q.wf e8;have f:=SX.refl ax U;refine gH (vs:=[]) k (by decide) rfl (by decide) QH rfl (FE p.wf.bare) ?_;rintro e w9 ⟨S9,W7,rfl,LB⟩;have kp:=Kp.of LB;have s3:SX ax U w9:=⟨kp.size,fun P O hx=>kp.Pg P O⟩;refine⟨_,rfl,fun _=>s3,fun a k=> ?_⟩
  repeat refine sm k fun a k=> ?_
  refine ar ?_;exact wp_ret (rH adR k rfl ⟨rfl,(Kp.of t).trans kp⟩).1
def CB:dH:=⟨[I6,.list yV],[(false,[(.bool,none)])],none⟩
def c3:bj Try.prog 3 CB (fun u=>tB u<=1048576) (fun _=>.bool true) where
 enter:=WJ
 calls _ w S vs ds Bg hlen Ge T5 U6:=by
  obtain⟨G,E,rfl,⟨x,rfl,r⟩,D⟩:=ag.1 T5;obtain⟨F,v,rfl,d,C⟩:=ag.1 D;have s:v=[] :=C;subst s
  obtain⟨m,l,rfl⟩: ∃m l,vs=[m,l] :=by
   have B:vs.length=2:=hlen
   match vs,B with
   | [m,l],_=>exact⟨m,l,rfl⟩
  have q:=Ge 0 _ _ rfl rfl;have c:=Ge 1 _ _ rfl rfl;have p:=q.cn;subst p;obtain⟨y,rfl,_,_⟩:=bL.1 d;obtain⟨A,t,rfl⟩:=c.pA;have z:Wf w S (fun _=>none):=⟨Bg,fun _ _ h=>(by cases h),fun _ _ _ _ h=>(by cases h)⟩;refine(kv (R:=fun e w'=>e= .returned (.bool true)∧Kp w w') (vs:=[.int .i64 x,.slice A y.length t]) Try.func3 Ro Nk nt3 (by show 2<=87;omega) ?_).mono ?_
  ·intro a k;have:=Oz z c d r U6 (k.sb);rw[Nk]at this;exact this
  ·rintro e w' ⟨rfl,kp⟩;refine⟨.bool true,S,fun _=>.nilIface,rfl,{size:=kp.size,os:=kp.os,tape:=kp.tape,output:=kp.output,block:=kp.Pg},fun _ _ h=>h,fun b o h=>av (Bg b o h) kp.size,fun _ _ h=>.inl h,.inl ⟨_,rfl,?_⟩,fun j b f=>by simp[CB,cK]at f,fun j k b f=>by simp[CB,cK]at f,fun j f=>by simp[CB,cK]at f⟩;unfold gl;simp only[ai,if_false];exact⟨_,rfl,.bool true,dh.2 ⟨true,rfl⟩⟩
 y9 ob h:=by cases h
 GA ob h:=by cases h
end Go.Proofs.Ytjhmkaninmgilaa
