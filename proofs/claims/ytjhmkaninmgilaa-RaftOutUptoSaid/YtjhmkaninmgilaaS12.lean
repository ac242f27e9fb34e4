/- Part 12 of the proof of RaftOut; no condition. -/
import Derived.Test.YtjhmkaninmgilaaS11
import Derived.Test.YtjhmkaninmgilaaS09
import Derived.Test.YtjhmkaninmgilaaS08
import Derived.Test.YtjhmkaninmgilaaS05
set_option linter.defProp false
set_option linter.unusedVariables false
set_option linter.unusedSimpArgs false
set_option maxHeartbeats 4000000
open Go.IntKind (i64)
namespace Go.Proofs.Ytjhmkaninmgilaa
open Go Go.RowKit Go.dI Go.Proofs
attribute [local irreducible] TL
def _root_.Go.dI.uH.tr{w c w2:Tam}(h:uH w c)(k:uH c w2):uH w w2:=by obtain⟨o,m,l,j⟩:=h;obtain⟨f,e,c3,d⟩:=k;exact⟨f.trans o,e.trans m,c3.trans l,d.trans j⟩
section
variable{w w0:Tam}{S S0:bz}{ow ko:Ow}{b b3 i n K:Nat}{N:Int}{g:GS}{dv:Tac}{Q:HP}{a:Act}
def mI{id e o:Nat}{c d:Int}{ops:Tad}{l:Tab}{p:HP}(x:QP Q)(t:bC ops=[(some e,.binOp .eql 3 (.tmp 32) (.const (.int .i64 c)) 3,none),(some o,.assign (.tmp e),none)])(k:Kn 359 a l)(s:lk l 32=some (.int .i64 d))(m:e<359)(j:o<359)(h: ∀r f,uH w f->Kn 359 r ((o,.bool (d==c))::(e,.bool (d==c))::l)->p .normal r f)(u: ∀c a w,p (.panic c) a w=Q (.panic c) a w:=by intro _ _ _;rfl):(Code.region id ops false).wp Try.prog p a w:=by refine rg ax x t ?_ (fun h=>by cases h) u;intro f y;have q:=SX.refl ax f;refine cm (c:=d==c) k s rfl rfl (fun a k=> ?_) q rfl m;refine sm k (v:=.bool (d==c)) (fun a k=> ?_) q rfl j (by show lk ((e,Value.bool (d==c))::l) e=_;simp[lk]);exact ar (h _ _ y k)
noncomputable def Fc(A5 A7 A14 A27 A35 A43 A49 A53:Code):Code:=.seq (.seq (.region 3 M6 false) (.cond (.tmp 33) .skip (.region 4 M5 false))) (.cond (.tmp 33) A5 (.seq (.region 6 M4 false) (.cond (.tmp 50) A7 (.seq (.seq (.region 11 HG false) (.cond (.tmp 70) .skip (.seq (.region 12 HF false) (.cond (.tmp 70) .skip (.region 13 HE false))))) (.cond (.tmp 70) A14 (.seq (.region 26 Hs false) (.cond (.tmp 163) A27 (.seq (.region 34 Hk false) (.cond (.tmp 222) A35 (.seq (.seq (.region 41 Hd false) (.cond (.tmp 260) .skip (.region 42 Hc false))) (.cond (.tmp 260) A43 (.seq (.region 48 G7 false) (.cond (.tmp 291) A49 (.seq (.region 52 G4 false) (.cond (.tmp 328) A53 .skip)))))))))))))))
def km(c s:Int)(b3 b:Nat):Tab:=[(32,.int .i64 c),(4,.int .i64 s),(3,az b3),(0,az b)]
def afa{A5 A7 A14 A27 A35 A43 A49 A53:Code}{c s:Int}(d:QP Q)(k:Kn 359 a (km c s b3 b))(H: ∀(A:Code),(((c=0∨c=1)∧A=A5)∨(c=2∧A=A7)∨((c=3∨c=4∨c=5)∧A=A14)∨(c=6∧A=A27)∨(c=7∧A=A35)∨((c=8∨c=9)∧A=A43)∨(c=10∧A=A49)∨(c=11∧A=A53)∨A= .skip)-> ∀P L,uH w L->Kn 359 P (km c s b3 b)->A.wp Try.prog Q P L):
  (Fc A5 A7 A14 A27 A35 A43 A49 A53).wp Try.prog Q a w:=by
 unfold Fc;refine wp_seq (wp_seq (mI d RB k rfl (by decide) (by decide) fun a w1 O k=> ?_));refine aV k rfl ?_;by_cases o:c=0
 ·rw[if_pos (by simpa using o)];refine wp_skip (aV k rfl ?_);rw[if_pos (by simpa using o)];exact H A5 (.inl ⟨.inl o,rfl⟩) _ _ O (k.sb (l:=km c s b3 b))
 rw[if_neg (by simpa using o)];have k:=k.sb (l:=km c s b3 b);refine mI d RA k rfl (by decide) (by decide) fun a w2 C k=> ?_;have C:=O.tr C;refine aV k rfl ?_;by_cases J:c=1
 ·rw[if_pos (by simpa using J)];exact H A5 (.inl ⟨.inr J,rfl⟩) _ _ C (k.sb (l:=km c s b3 b))
 rw[if_neg (by simpa using J)];have k:=k.sb (l:=km c s b3 b);refine wp_seq (mI d Rz k rfl (by decide) (by decide) fun a w3 B k=> ?_);have B:=C.tr B;refine aV k rfl ?_;by_cases I:c=2
 ·rw[if_pos (by simpa using I)];exact H A7 (.inr (.inl ⟨I,rfl⟩)) _ _ B (k.sb (l:=km c s b3 b))
 rw[if_neg (by simpa using I)];have k:=k.sb (l:=km c s b3 b);refine wp_seq (wp_seq (mI d NR k rfl (by decide) (by decide) fun a w4 z k=> ?_));have z:=B.tr z;refine aV k rfl ?_;by_cases m:c=3
 ·rw[if_pos (by simpa using m)];refine wp_skip (aV k rfl ?_);rw[if_pos (by simpa using m)];exact H A14 (.inr (.inr (.inl ⟨.inl m,rfl⟩))) _ _ z (k.sb (l:=km c s b3 b))
 rw[if_neg (by simpa using m)];have k:=k.sb (l:=km c s b3 b);refine wp_seq (mI d NP k rfl (by decide) (by decide) fun a Z y k=> ?_);have y:=z.tr y;refine aV k rfl ?_;by_cases j:c=4
 ·rw[if_pos (by simpa using j)];refine wp_skip (aV k rfl ?_);rw[if_pos (by simpa using j)];exact H A14 (.inr (.inr (.inl ⟨.inr (.inl j),rfl⟩))) _ _ y (k.sb (l:=km c s b3 b))
 rw[if_neg (by simpa using j)];have k:=k.sb (l:=km c s b3 b);refine mI d NO k rfl (by decide) (by decide) fun a Y x k=> ?_;have x:=y.tr x;refine aV k rfl ?_;by_cases G:c=5
 ·rw[if_pos (by simpa using G)];exact H A14 (.inr (.inr (.inl ⟨.inr (.inr G),rfl⟩))) _ _ x (k.sb (l:=km c s b3 b))
 rw[if_neg (by simpa using G)];have k:=k.sb (l:=km c s b3 b);refine wp_seq (mI d NN k rfl (by decide) (by decide) fun a X v k=> ?_);have v:=x.tr v;refine aV k rfl ?_;by_cases F:c=6
 ·rw[if_pos (by simpa using F)];exact H A27 (.inr (.inr (.inr (.inl ⟨F,rfl⟩)))) _ _ v (k.sb (l:=km c s b3 b))
 rw[if_neg (by simpa using F)];have k:=k.sb (l:=km c s b3 b);refine wp_seq (mI d Wb k rfl (by decide) (by decide) fun a W u k=> ?_);have u:=v.tr u;refine aV k rfl ?_;by_cases E:c=7
 ·rw[if_pos (by simpa using E)];exact H A35 (.inr (.inr (.inr (.inr (.inl ⟨E,rfl⟩))))) _ _ u (k.sb (l:=km c s b3 b))
 rw[if_neg (by simpa using E)];have k:=k.sb (l:=km c s b3 b);refine wp_seq (wp_seq (mI d V4 k rfl (by decide) (by decide) fun a V t k=> ?_));have t:=u.tr t;refine aV k rfl ?_;by_cases h:c=8
 ·rw[if_pos (by simpa using h)];refine wp_skip (aV k rfl ?_);rw[if_pos (by simpa using h)];exact H A43 (.inr (.inr (.inr (.inr (.inr (.inl ⟨.inl h,rfl⟩)))))) _ _ t (k.sb (l:=km c s b3 b))
 rw[if_neg (by simpa using h)];have k:=k.sb (l:=km c s b3 b);refine mI d V3 k rfl (by decide) (by decide) fun a U r k=> ?_;have r:=t.tr r;refine aV k rfl ?_;by_cases D:c=9
 ·rw[if_pos (by simpa using D)];exact H A43 (.inr (.inr (.inr (.inr (.inr (.inl ⟨.inr D,rfl⟩)))))) _ _ r (k.sb (l:=km c s b3 b))
 rw[if_neg (by simpa using D)];have k:=k.sb (l:=km c s b3 b);refine wp_seq (mI d VY k rfl (by decide) (by decide) fun a T q k=> ?_);have q:=r.tr q;refine aV k rfl ?_;by_cases f:c=10
 ·rw[if_pos (by simpa using f)];exact H A49 (.inr (.inr (.inr (.inr (.inr (.inr (.inl ⟨f,rfl⟩))))))) _ _ q (k.sb (l:=km c s b3 b))
 rw[if_neg (by simpa using f)];have k:=k.sb (l:=km c s b3 b);refine wp_seq (mI d VV k rfl (by decide) (by decide) fun a R p k=> ?_);have p:=q.tr p;refine aV k rfl ?_;have M:=k.sb (l:=km c s b3 b);by_cases e:c=11
 ·rw[if_pos (by simpa using e)];exact H A53 (.inr (.inr (.inr (.inr (.inr (.inr (.inr (.inl ⟨e,rfl⟩)))))))) _ _ p M
 ·rw[if_neg (by simpa using e)];exact H .skip (.inr (.inr (.inr (.inr (.inr (.inr (.inr (.inr rfl)))))))) _ _ p M
end
structure DS(w:Tam)(S:bz)(ow:Ow)(b b3:Nat)(dv:Tac)(n K:Nat)(N:Int)(g:GS):Prop where
 xW:kg w S ow b g
 Pa:nq ow
 lx:fG w S ow b3 51 dv
 gi:GI n K N g
 n5:n<=5
 nN:N<=99999000
section
variable{w w0 w':Tam}{S S0 S':bz}{ow ko bR:Ow}{b b3 i n K L:Nat}{N c:Int}{g g':GS}{dv:Tac}{Q:HP}{a:Act}
def DS.O{d:Tam}(h:DS w S ow b b3 dv n K N g)(e:uH w d):DS d S ow b b3 dv n K N g:=⟨h.xW.O e,h.Pa,h.lx.O e,h.gi,h.n5,h.nN⟩
def DS.to{j:Nat}{e:Int}(h:DS w S ow b b3 dv n K N g)(f:bD LG ax w S ow w' S' bR)(k:kg w' S' bR b g')(d:GI n j e g')(l:e<=99999000):DS w' S' bR b b3 dv n j e g':=
 ⟨k,h.Pa.J f (fun _ h=>h),h.lx.J f id,d,h.n5,l⟩
def DS.wf(h:DS w S ow b b3 dv n K N g):Wf w S ow:=h.xW.wf
def GI.tick(h:GI n (L+28) N g)(hi:i<n)(f:N<=100000000)(c:Int):Ok (bX g i) 20∧TW i (jW c (bX g i)).1 (jh i (jW c (bX g i)).2 g)=true∧GI n L (N+1) (Er i c g):=by obtain⟨e,d,l,m⟩:=h.get hi;obtain⟨k,j⟩:=h.PC hi f rfl (o:=(jW c (bX g i)).1) (s':=(jW c (bX g i)).2) ((K7 l e (K:=L) (d.le (by omega))).mono (ba _) (bf _));exact⟨d.ok e (by omega) (by omega),k,j⟩
def ZD(hQ:QP Q)(h:DS w S ow b b3 dv n (L+28) N g)(hi:i<n)(Z:dv[11]? =some (.int .i64 c))(J:jo .i64 c)(k:Kn 359 a [(4,.int .i64 (i:Int)),(3,az b3),(0,az b)])(m: ∀a W S' bR g',Kn 359 a [(4,.int .i64 (i:Int)),(3,az b3),(0,az b)] ->bD LG ax w S ow W S' bR->kg W S' bR b g'->GI n L (N+1) g'->Q .normal a W):(Code.region 5 Jb true).wp Try.prog Q a w:=by
 have f:=h.gi;have a1:=h.nN;obtain⟨F,s,t⟩:=f.tick hi (by omega) c;have a2:=h.n5;have p:i<g.eX.length:=by rw[f.n1];exact hi
 have D:g.bc.length<=5:=by rw[f.len.bc];exact f.len.n5
 obtain⟨R,y,o,C⟩:=h.xW;have lx:=h.lx;refine IW (n0:=12) (fun X=>ow X=some (1000+i)) mix (by exact hQ) aa1 (by kernel_rfl) ?_;intro w1 U;have d:=y.O U;have j:=lx.O U;have A:=(bD.refl LG ax w S ow).W y.wf y.wf U;have s0:=SX.refl (fun X=>ow X=some (1000+i)) w1;have q: ¬ow b=some (1000+i):=by rw[d.obj.ow];intro h;injection h with h;omega
 have r: ¬ow b3=some (1000+i):=by rw[j.ow];intro h;cases h
 obtain⟨V,x,G,a0⟩:=d.eX i _ (jG p);obtain⟨bl,a3,P,M,E,I⟩:=d.arr.elem (i:=i) (u:=az V) (by rw[o,ab,x];rfl);have O:(R.la.map az).length=g.eX.length:=by rw[ak,o];exact d.qF
 have B: ¬ow bl=some (1000+i):=by rw[E];intro h;injection h with h;omega
 repeat (first|refine sm k fun a k=> ?_|refine ld k (j.cell r Z) fun a k=> ?_|refine ld k (d.cell q rfl) fun a k=> ?_)
 rw[P]at k;refine uN (el:=52) (sz:=1) k rfl rfl (by rw[O];exact p) fun a k=> ?_;refine kr (v:=az V) k (by assumption) rfl (by decide) rfl (by kernel_rfl) (by kernel_rfl) (eF M B (by rw[bG];exact I)) fun a k=> ?_
 repeat (first|refine sm k fun a k=> ?_|refine ld k (j.cell r Z) fun a k=> ?_|refine ld k (d.cell q rfl) fun a k=> ?_)
 refine gH (vs:=[az V,.int .i64 c]) k (by decide) rfl (by decide) XC.enter rfl (wO G d.wf (by omega) J F) ?_;rintro e w2 ⟨v,S2,D2,rfl,mZ,uF,Eg,Xx,T6⟩;refine⟨_,rfl,fun _=>SX.iu (fun _ h=>h) mZ,fun a k=> ?_⟩;have T:=d.ua (i:=i) mZ uF p x Eg (fF Eg) D;have z:=A.eY y.wf d.wf mZ (.inr (by omega));have H:nq D2:=h.Pa.J mZ (fun l Y=>by simp only[iE]at Y;subst Y;exact .inr (by omega));refine gH (vs:=[az b,.int .i64 (i:Int),v,.bool false]) k (by decide) rfl (by decide) qk rfl (qg (g:=jh i (jW c (bX g i)).2 g) ⟨_,T,o,C⟩ H Xx T6 s) ?_;rintro e w5 ⟨S5,JT,rfl,qT,LM⟩;refine⟨_,rfl,fun h=>absurd rfl h,fun a k=> ?_⟩;exact ar (m _ _ S5 JT (Er i c g) (k.sb) (jZ y.wf uF z qT nE) LM t)
def Vl{j:Int}(hQ:QP Q)(h:DS w S ow b b3 dv n (L+28) N g)(hi:i<n)(hc:dv[11]? =some (.int .i64 c))(M:jo .i64 c)(k:Kn 359 a [(5,.int .i64 j),(4,.int .i64 (i:Int)),(3,az b3),(0,az b)])(o: ∀a W S' bR g',Kn 359 a [(5,.int .i64 j),(4,.int .i64 (i:Int)),(3,az b3),(0,az b)] ->bD LG ax w S ow W S' bR->kg W S' bR b g'->GI n L (N+1) g'->Q .normal a W):(Code.region 10 CP true).wp Try.prog Q a w:=by
 have f:=h.gi;have a1:=h.nN;obtain⟨G,t,x⟩:=f.tick hi (by omega) c;have a2:=h.n5;have q:i<g.eX.length:=by rw[f.n1];exact hi
 have E:g.bc.length<=5:=by rw[f.len.bc];exact f.len.n5
 obtain⟨R,z,p,D⟩:=h.xW;have lx:=h.lx;refine IW (n0:=12) (fun Y=>ow Y=some (1000+i)) mix (by exact hQ) Ww (by kernel_rfl) ?_;intro w1 V;have d:=z.O V;have m:=lx.O V;have B:=(bD.refl LG ax w S ow).W z.wf z.wf V;have s0:=SX.refl (fun Y=>ow Y=some (1000+i)) w1;have r: ¬ow b=some (1000+i):=by rw[d.obj.ow];intro h;injection h with h;omega
 have s: ¬ow b3=some (1000+i):=by rw[m.ow];intro h;cases h
 obtain⟨X,y,H,a0⟩:=d.eX i _ (jG q);obtain⟨bl,a3,T,O,F,J⟩:=d.arr.elem (i:=i) (u:=az X) (by rw[p,ab,y];rfl);have P:(R.la.map az).length=g.eX.length:=by rw[ak,p];exact d.qF
 have C: ¬ow bl=some (1000+i):=by rw[F];intro h;injection h with h;omega
 repeat (first|refine sm k fun a k=> ?_|refine ld k (m.cell s hc) fun a k=> ?_|refine ld k (d.cell r rfl) fun a k=> ?_)
 rw[T]at k;refine uN (el:=52) (sz:=1) k rfl rfl (by rw[P];exact q) fun a k=> ?_;refine kr (v:=az X) k (by assumption) rfl (by decide) rfl (by kernel_rfl) (by kernel_rfl) (eF O C (by rw[bG];exact J)) fun a k=> ?_
 repeat (first|refine sm k fun a k=> ?_|refine ld k (m.cell s hc) fun a k=> ?_|refine ld k (d.cell r rfl) fun a k=> ?_)
 refine gH (vs:=[az X,.int .i64 c]) k (by decide) rfl (by decide) XC.enter rfl (wO H d.wf (by omega) M G) ?_;rintro e w2 ⟨v,S2,D2,rfl,mZ,uF,Eg,Xx,T6⟩;refine⟨_,rfl,fun _=>SX.iu (fun _ h=>h) mZ,fun a k=> ?_⟩;have U:=d.ua (i:=i) mZ uF q y Eg (fF Eg) E;have A:=B.eY z.wf d.wf mZ (.inr (by omega));have I:nq D2:=h.Pa.J mZ (fun l Z=>by simp only[iE]at Z;subst Z;exact .inr (by omega));refine gH (vs:=[az b,.int .i64 (i:Int),v,.bool false]) k (by decide) rfl (by decide) qk rfl (qg (g:=jh i (jW c (bX g i)).2 g) ⟨_,U,p,D⟩ I Xx T6 t) ?_;rintro e w5 ⟨S5,JT,rfl,qT,LM⟩;refine⟨_,rfl,fun h=>absurd rfl h,fun a k=> ?_⟩;exact ar (o _ _ S5 JT (Er i c g) (k.sb) (jZ z.wf uF A qT nE) LM x)
noncomputable def zr:Code:=.seq (.region 7 M0 false) (.block 1 (.loop (.seq (.seq (.region 8 MZ false) (.cond (.tmp 53) .skip (.exit 1))) (.seq (.block 2 (.region 10 CP true)) (.region 9 MY false)))))
def Kg(u:QP Q)(h:DS w S ow b b3 dv n K N g)(X:336<=K)(hi:i<n)(P:dv[11]? =some (.int .i64 c))(B:jo .i64 c)(k:Kn 359 a [(4,.int .i64 (i:Int)),(3,az b3),(0,az b)])(V:N<=99998000)(f: ∀a W S' bR g',Kn 359 a [(4,.int .i64 (i:Int)),(3,az b3),(0,az b)] ->bD LG ax w S ow W S' bR->kg W S' bR b g'->GI n (K-336) (N+12) g'->Q .normal a W):zr.wp Try.prog Q a w:=by
 unfold zr;refine wp_seq (rg ax u aa0 ?_);intro O J;have y:=SX.refl ax O
 repeat refine sm k fun a k=> ?_
 refine ar ?_;have d:=h.wf
 refine wp_block (wp_loop_ghost (fun F a W=> ∃(j:Nat) (v:bz) (e:Ow) (D:GS),F=12-j∧j<=12∧Kn 359 a [(5,.int .i64 (j:Int)),(4,.int .i64 (i:Int)),(3,az b3),(0,az b)] ∧bD LG ax w S ow W v e∧DS W v e b b3 dv n (K-28*j) (N+j) D) (12-0)
  ⟨0,S,ow,g,rfl,aC _,k.sb,(bD.refl LG ax w S ow).W d d J,by simpa using h.O J⟩ ?_)
 clear k y;rintro F a W ⟨j,v,e,D,rfl,hj,k,DZ,h1⟩;refine wp_seq (wp_seq (rg ax u aaZ ?_));intro E I;have m:=h1.O I;have p:=DZ.W d h1.wf I;have y:=SX.refl ax E
 repeat refine sm k fun a k=> ?_
 refine cm (c:=decide ((j:Int)<12)) k rfl rfl rfl fun a k=> ?_;refine ar (aV k rfl ?_);have k:=k.sb (l:=[(5,.int .i64 (j:Int)),(4,.int .i64 (i:Int)),(3,az b3),(0,az b)]);by_cases q:(j:Int)<12
 ·rw[if_pos (by simpa using q)];refine wp_skip ?_;have C:K-28*j=(K-28*(j+1))+28:=by omega
  rw[C]at m;refine wp_seq (wp_block (Vl (by exact u) m hi P B k ?_));intro a U T z R k o A t;have x:=jZ d m.wf p o nE;have G:=m.to o A t (by omega);refine rg ax (by exact u) aaY ?_;intro M H;have y:=SX.refl ax M
  repeat refine sm k fun a k=> ?_
  refine ik (s:=((j+1:Nat):Int)) k (by assumption) rfl (by decide) rfl rfl (wrap64 (by omega) (by omega)) fun a k=> ?_
  repeat refine sm k fun a k=> ?_
  refine ar ⟨12-(j+1),by omega,j+1,T,z,R,rfl,by omega,k.sb,x.W d G.wf H,?_⟩;have:=G.O H;rw[show N+((j+1:Nat):Int)=N+j+1 by omega];exact this
 ·rw[if_neg (by simpa using q)];refine wp_exit ?_;have r:j=12:=by omega
  subst r;exact f a E v e D (k.sb) p m.xW m.gi
end
end Go.Proofs.Ytjhmkaninmgilaa
namespace Go.dI
open Go Go.RowKit
def iA(n:Nat)(p:Tah):Tbd Bool:=((List.range n).map fun j=>decide (j∈p)).toArray
def uz{n i:Nat}{p:Tah}:(iA n p).setIfInBounds i true=iA n (p++[i]):=by
 apply Array.ext
 ·simp[iA]
 ·intro j b c;simp only[iA,Array.size_setIfInBounds,bH,ak,fM]at b;rw[Array.getElem_setIfInBounds (by simpa [iA]using b)];by_cases a:i=j
  ·subst a;simp[iA]
  ·rw[if_neg a];simp only[iA,List.getElem_toArray,List.getElem_map,List.getElem_range,aI,aB];congr 1;exact propext ⟨fun h=>.inl h,fun h=>h.resolve_right (Ne.symm a)⟩
def Iz(n:Nat):Array.replicate n false=iA n [] :=by
 apply Array.ext
 ·simp[iA]
 ·intro j b a;simp[iA]
def NQ(N:Act->Tae)(Q:HP):HP
 |.normal=>N
 |.exit i=>Q (.exit i)
 |.goto i=>Q (.goto i)
 |.ret=>Q .ret
 |.panic c=>Q (.panic c)
 |.outgrown=>Q .outgrown
section
variable{P:Tap}{ops ops':Tad}{Q Q':HP}{S:Tae}{N:Act->Tae}
def BM{i:Nat}{K:Act->Tae}{a:Act}{w:Tam}(h:wpOp P ops (NQ N Q) i K a w):wpOp P ops Q i K a w:=by
 have d:LetsOut (NQ N Q)->LetsOut Q:=fun⟨a,w,h⟩=>⟨a,w,h⟩;unfold wpOp at h⊢;cases ho:ops[i]? with
 |none=>rw[ho]at h;exact h
 |some o=>
  rw[ho]at h;simp only at h⊢;split at h
  ·rename_i b;rw[if_pos b];rcases h with h|⟨g,f⟩
   ·refine .inl ?_;unfold Oper.wp at h⊢;generalize (execOp a.eval o).run P w=r at h⊢;unfold Oper.upon at h⊢;split<;>simp only at h⊢
    all_goals first
     |exact h
     |(refine h.mono fun e j c=> ?_
       cases e<;>simp only at c⊢ <;>first|exact c|exact d c)
   ·exact .inr ⟨g,d f⟩
  ·rename_i b;rw[if_neg b];exact h
def AT(P:Tap)(ops:Tad)(Q:HP)(S:Tae)(p:Tah)(a:Act)(w:Tam):Prop:=
 nD P ops Q S ops.size (ops.size-p.length) (iA ops.size p) a w
def nY(ops:Tad)(a p:Tah)(n0:Nat):Bool:=
 Region.noSelect ops&&decide (a.length+p.length<=ops.size)&&p.all (fun i=>match ops[i]? with|some o=>o.guard.isNone|none=>false)&&(List.range p.length).all fun k=>
  match p[k]? with
  |none=>false
  |some i=>if k<n0 then Region.free .any ops (iA ops.size (a++p.take k)) i&&(Region.ready .any ops (iA ops.size (a++p.take k))).contains i
   else Region.ready .any ops (iA ops.size (a++p.take k))==[i]
def BT{h p:Tah}{n0:Nat}(a:nY ops h p n0=true)(k:Nat){i:Nat}(e:p[k]? =some i): ∃o,ops[i]? =some o∧o.guard=none∧(fI ops p)[k]? =some o:=by
 unfold nY at a;simp only[aS,bk,bY]at a;obtain⟨⟨⟨l,d⟩,c⟩,f⟩:=a;have b:=c i (bU e);cases ho:ops[i]? with
 |none=>rw[ho]at b;cases b
 |some o=>
  rw[ho]at b;refine⟨o,rfl,by simpa using b,?_⟩;unfold fI;rw[dj,ph (fun j m=> ?_) k,e]
  ·exact ho
  ·have g:=c j m;cases hoj:ops[j]? with
   |none=>rw[hoj]at g;cases g
   |some oj=>exact(aL.1 hoj).1
def PQ{m p:Tah}{n0:Nat}(b:nY ops m p n0=true)(R:QP Q):
  ∀(f k:Nat) (a:Act) (w:Tam),k+f=p.length->ml P (fI ops p) (NQ (fun a w=>S w∧AT P ops Q S (m++p) a w) Q) S n0 f k a w->(f=0->S w)∧AT P ops Q S (m++p.take k) a w:=by
 intro f
 induction f with
 |zero=>
  intro k a w M h;rw[eB (by omega)];exact⟨fun _=>h.1,h.2⟩
 |succ f ih=>
  intro k a w M h;refine⟨fun e=>(by cases e),?_⟩;have l:p[k]? =some (p[k]'(by omega)):=aQ _;generalize p[k]'(by omega)=i at l;obtain⟨o,s,F,r⟩:=BT b k l;have C:=b;unfold nY at b;simp only[aS,bk,bY,db]at b;obtain⟨⟨⟨z,D⟩,U⟩,u⟩:=b;have q:=u k (by omega);rw[l]at q;simp only at q;have B:m++p.take (k+1)=m++p.take k++[i] :=by rw[cO,l,dN];rfl
  have A:ops.size-(m++p.take k).length=(ops.size-(m++p.take (k+1)).length)+1:=by simp only[ah,aK];omega
  unfold ml at h;rw[r]at h;simp only at h;unfold AT;rw[A];by_cases t:k<n0
  ·rw[if_pos t]at h q;obtain⟨O,v,L,x⟩:=h;simp only[aS]at q;obtain⟨n,d⟩:=q;refine qt s (fun e=> ?_) (fun oL y=> ?_) (Region.noSelect_spec z) (fun c a w=>R c a _ _ w) _ _ a w (Region.free_spec s n) (by simpa using d) (YieldsIf.plain (ops':=fI ops p) (fun g e=>by rw[F]at e;cases e) L) O ?_
   ·rw[e]at s;simp at s
   ·simp at y
   ·rw[uz,<-B];exact(ih (k+1) _ w (by omega) x).2
  ·rw[if_neg t]at h q;have x:Region.ready .any ops (iA ops.size (m++p.take k))=[i] :=by simpa using q
   refine⟨fun I=>(by rw[x]at I;cases I),fun j E=> ?_⟩;rw[x,aB]at E;subst E;refine wpOp_mono (fun T K J=> ?_) (BM (uj (fun g e=>by rw[F]at e;cases e) r s h));have H:=ih (k+1) T K (by omega) J.2;refine⟨fun _=> ?_,?_⟩
   ·by_cases G:f=0
    ·exact H.1 G
    ·exact J.1 G
   ·rw[uz,<-B];exact H.2
def Kq{d p:Tah}{n0:Nat}(a:nY ops d p n0=true):(bC (fI ops p)).length=p.length:=by
 unfold bC fI;rw[ak]
 have: ∀(q:Tah),(∀i∈q,i<ops.size)->(q.filterMap (ops[·]?)).length=q.length:=by
  intro q
  induction q with
  |nil=>intro _;rfl
  |cons i q ih=>
   intro c;have g:ops[i]? =some (ops[i]'(c i bw)):=dw _;rw[List.filterMap_cons,g];simp only[bu];rw[ih (fun j b=>c j (aH _ b))]
 refine this p fun j b=> ?_;obtain⟨k,f⟩:=aw b;obtain⟨o,e,_⟩:=BT a k f;exact(aL.1 e).1
def IK{d p p2:Tah}{n0:Nat}{L:List OK}{a:Act}{w:Tam}(b:nY ops d p n0=true)(g:QP Q)(e:bC (fI ops p)=L)(f:d++p=p2)(h:TL P (fI ops p) (NQ (fun a w=>S w∧AT P ops Q S p2 a w) Q) S n0 L L 0 a w):AT P ops Q S d a w:=by
 subst f;have c:L.length=p.length:=by rw[<-e];exact Kq b
 have:=(PQ (P:=P) (S:=S) b g p.length 0 a w (by omega) (c▸h e rfl)).2;rw[List.take_zero,cN]at this;exact this
def pX{b R:Tah}{a:Act}{w:Tam}(l:b.length<ops.size)(d:Region.ready .any ops (iA ops.size b)=R)(k:R≠ [])(h: ∀i∈R,wpOp P ops Q i (fun j c=>S c∧AT P ops Q S (b++[i]) j c) a w):AT P ops Q S b a w:=by unfold AT;rw[show ops.size-b.length=(ops.size-b.length-1)+1 by omega];refine⟨fun m=>absurd (d▸m) k,fun i e=> ?_⟩;rw[d]at e;refine wpOp_mono (fun j c g=>⟨fun _=>g.1,?_⟩) (h i e);rw[uz];have f:=g.2;unfold AT at f;rw[show ops.size-b.length-1=ops.size-(b++[i]).length by rw[ah];simp;omega];exact f
def gV{i:Nat}{L:List OK}{a:Act}{w:Tam}(b:(match ops[i]? with|some o=>o.guard.isNone|none=>false)=true)(d:bC (fI ops [i])=L)(h:TL P (fI ops [i]) (NQ N Q) S 0 L L 0 a w):wpOp P ops Q i N a w:=by
 cases ho:ops[i]? with
 |none=>rw[ho]at b;cases b
 |some o=>
  rw[ho]at b;have b:o.guard=none:=by simpa using b
  have c:fI ops [i] = #[o] :=by simp[fI,ho]
  have j:L.length=1:=by rw[<-d,c];rfl
  have h:=h d rfl;rw[j]at h;unfold ml at h;have f:(fI ops [i])[0]? =some o:=by rw[c];rfl
  rw[f]at h;simp only at h;rw[if_neg (by omega)]at h;exact wpOp_mono (fun m l k=>k.2) (BM (uj (fun g e=>by rw[b]at e;cases e) f ho h))
def Jl{p:Tah}{a:Act}{w:Tam}(c:ops.size<=p.length)(b:Region.ready .any ops (iA ops.size p)=[])(h:Q .normal a w):AT P ops Q S p a w:=by unfold AT;rw[show ops.size-p.length=0 by omega];exact⟨b,h⟩
def Rw{id:Nat}(X:Tai)(d:P.follows .mixedOrders=true){w:Tam}{a:Act}(h: ∀b,uH w b->AT P ops Q (SX X b) [] a b):(Code.region id ops true).wp P Q a w:=by refine wp_region_any d ?_;have c:=h _ (uH.drew w);unfold AT at c;rw[<-Iz,fO,Nat.sub_zero]at c;exact nL _ _ _ _ c
end
variable{P:Tap}{w:Tam}{S:bz}{a:Act}{dst:Tak}{ty:Tba}{pos:String}{af:Tbd Edge}{gd:Tao (Nat×Bool)}
def qp{t el:Tba}{x:Tbb}{lo hi:Tao Tbb}{u:Ty}{ds:Taf}{n m:Int}(W:P.underlying t=some (.slice el))(L:iv P el=some u.cells.length)(I:ca w S (a.eval x) (.list ds))(G: ∀d∈ds,Has u d)(T: ∀i,lo=some i-> ∃k,a.eval i= .int k n)(F:lo=none->n=0)(X: ∀i,hi=some i-> ∃k,a.eval i= .int k m)(N:hi=none->m=ds.length)(b1:0<=n)(b2:n<=m)(b3:m<=ds.length):
  ∃v,(execOp a.eval ⟨dst,.slice t x lo hi none,ty,pos,af,gd⟩).run P w= .ok (.value v) w∧ca w S v (.list ((ds.take m.toNat).drop n.toNat)):=by
 have p:((ds.take m.toNat).drop n.toNat).length=m.toNat-n.toNat:=by simp;omega
 have M: ∀(o:Tao Addr) (cap:Nat),ds.length<=cap->(Instr.sliceAt t (.slice o ds.length cap) (lo.map a.eval) (hi.map a.eval) none).run P w=
   .ok (.slice (if cap=n.toNat then o else o.map (·.add (n.toNat*u.cells.length))) (m.toNat-n.toNat) (cap-n.toNat)) w:=by
  intro o cap f;have Y:=gZ (P:=P) (w:=w) L;have V: ∀q g,(Instr.sliceBound (.int q m) cap g).run P w= .ok m.toNat w:=fun q g=>run_sliceBound w q m cap g (by omega) (by omega);have Q: ∀q g,(Instr.sliceBound (.int q n) m.toNat g).run P w= .ok n.toNat w:=fun q g=>run_sliceBound w q n m.toNat g (by omega) (by omega)
  have e1:(do
    let m'<-match (none:Tao Tan) with
     |some v=>Instr.sliceBound v cap (if true then .slice3Acap else .slice3Alen)
     |none=>pure cap
    let h<-match hi.map a.eval,(none:Tao Tan) with
     |some v,some _=>Instr.sliceBound v m' .slice3B
     |some v,none=>Instr.sliceBound v m' (if true then .sliceAcap else .sliceAlen)
     |none,none=>pure ds.length
     |none,some _=>stuck "Slice: max without high"
    let l<-match lo.map a.eval with
     |some v=>Instr.sliceBound v h (if(none:Tao Tan).isSome then .slice3C else .sliceB)
     |none=>pure 0
    pure (l,h,m'):Sem (Nat×Nat×Nat)).run P w= .ok (n.toNat,m.toNat,cap) w:=by
   cases hi with
   |none=>
    have:=N rfl;have A:m.toNat=ds.length:=by omega
    cases lo with
    |none=>have:=F rfl;simp[this,A]
    |some i=>obtain⟨q,hi⟩:=T i rfl;rw[A]at Q;simp[hi,Q,A]
   |some j=>
    obtain⟨q,J⟩:=X j rfl;cases lo with
    |none=>have:=F rfl;simp[this,J,V]
    |some i=>obtain⟨q,hi⟩:=T i rfl;simp[hi,Q,J,V]
  have Z:(Instr.sliceBounds true ds.length cap (lo.map a.eval) (hi.map a.eval) none).run P w= .ok (n.toNat,m.toNat,cap) w:=e1;simp[Instr.sliceAt,Instr.slice,run_underlying W,Z,Y]
 have H: ∀{o:Tao Addr} {cap:Nat},a.eval x= .slice o ds.length cap->ds.length<=cap->(∀v,v=Value.slice (if cap=n.toNat then o else o.map (·.add (n.toNat*u.cells.length))) (m.toNat-n.toNat) (cap-n.toNat)->ca w S v (.list ((ds.take m.toNat).drop n.toNat)))->
   ∃v,(execOp a.eval ⟨dst,.slice t x lo hi none,ty,pos,af,gd⟩).run P w= .ok (.value v) w∧ca w S v (.list ((ds.take m.toNat).drop n.toNat)):=by intro o cap s f C;refine⟨_,?_,C _ rfl⟩;unfold execOp;simp only[s,Option.map_none,bg,M o cap f,bV];rfl
 by_cases R:m.toNat-n.toNat=0
 ·have E:(ds.take m.toNat).drop n.toNat=[] :=an (by omega)
  have O: ∃o cap,a.eval x= .slice o ds.length cap∧ds.length<=cap:=by
   generalize a.eval x=v at I;cases I with
   |nil o cap=>exact⟨o,cap,rfl,aC _⟩
   |list b off cap sz xs _ _ _ f=>exact⟨_,cap,rfl,f⟩
  obtain⟨o,cap,s,f⟩:=O;refine H s f fun v z=> ?_;rw[E,z,R];exact .nil _ _
 ·generalize K:a.eval x=v at I;cases I with
  |nil o cap=>simp at b3;omega
  |list b off cap sz xs _ LX tv f LI hS hc hw hr=>
   refine H K f fun v' z=> ?_
   have y:sz=u.cells.length:=by
    cases F7:ds with
    |nil=>exact absurd F7 tv
    |cons d r=>
     have:=hw 0 d (by rw[F7];rfl);rw[<-this];exact(cd (G d (by rw[F7];simp))).1
   have B:cap≠n.toNat:=by omega
   rw[z,if_neg B,<-p];simp only[aP,fJ];have U:n.toNat*sz<=xs.length:=by rw[LI];exact au _ (by omega)
   refine .list b _ _ sz ((xs.drop (n.toNat*sz)).take ((m.toNat-n.toNat)*sz)) _ LX (fun e=>R (by rw[<-p,e];rfl)) (by omega) ?_ ?_ ?_ ?_ ?_
   ·rw[p,aK,aX,LI,<-Nat.sub_mul];exact Nat.min_eq_left (au _ (by omega))
   ·intro i hi;have:i<xs.length-n.toNat*sz:=by simp at hi;omega
    rw[<-y,en];exact hS _ (by omega)
   ·intro i v hi;simp only[ay,aE]at hi;split at hi
    ·rw[<-y,en];exact hc _ v hi
    ·cases hi
   ·intro i d hi;exact hw _ d (by simp only[aE,ay]at hi;split at hi;exact hi;cases hi)
   ·intro i d j v c hi J s;simp only[aE,ay]at hi;split at hi
    ·refine hr (n.toNat+i) d j v c hi J ?_;simp only[ay,aE]at s;split at s
     ·rw[<-s,cb,en]
     ·cases s
    ·cases hi
end Go.dI
namespace Go.Proofs.Ytjhmkaninmgilaa
open Go Go.RowKit Go.dI Go.Proofs
attribute [local irreducible] TL
def py{a b:Int}(h:jo .i64 a)(d:0<b):0<=gP a b∧gP a b<b:=by
 obtain⟨j,f⟩:=h;rw[show i64.min= -9223372036854775808 by decide]at j;rw[show i64.max=9223372036854775807 by decide]at f;unfold gP;by_cases e:a<0
 ·rw[if_pos e,wrap64 (n:=a+1) (by omega) (by omega),wrap64 (by omega) (by omega)];exact⟨Int.tmod_nonneg _ (by omega),Int.tmod_lt_of_pos _ d⟩
 ·rw[if_neg e];exact⟨Int.tmod_nonneg _ (by omega),Int.tmod_lt_of_pos _ d⟩
def PD(l:Taf)(i:Nat):Taf:=l.take i++l.drop (i+1)
def O1{l:Taf}{i:Nat}{m:D}(h:m∈PD l i):m∈l:=(aI.1 h).elim cF cG
def GI.cut{n K:Nat}{N:Int}{g:GS}(h:GI n K N g)(i:Nat):GI n K N {g with eE:=PD g.eE i}:=
 ⟨⟨h.len.n5,h.len.df,h.len.bc,h.len.saved,h.len.lead,h.len.vl⟩,h.n1,h.cf,h.eX,fun m d=>h.eE m (O1 d),by have:=h.nl;show(g.eE.take i++g.eE.drop (i+1)).length<=430;rw[ah,aK,aX];omega,h.told,h.nn⟩
def GI.del{n L:Nat}{N:Int}{g:GS}{m:D}(h:GI n (L+28) N g)(p:N<=100000000)(e:mr N m)(l:Has hH m):yP m g=true∧GI n L (N+1) (pR m g):=by
 unfold yP pR;by_cases d:IM m g=true
 ·have f:tq m<n:=by unfold IM at d;simp only[aS,bk]at d;unfold tq;rw[<-h.n1];omega
  obtain⟨k,j,s,u⟩:=h.get f;obtain⟨r,q⟩:=h.PC f p rfl (o:=(jy m (bX g (tq m))).1) (s':=(jy m (bX g (tq m))).2) (K8 s k (K:=L) j e l);have t:=e.n8;rw[d,if_pos rfl,r];simp only[Bool.not_true,Bool.false_or,Bool.and_true,aS,bk];exact⟨⟨⟨⟨by rw[h.len.bc];exact h.len.n5,h.len.n5⟩,NU (j.ok k (by omega) (by omega))⟩,by omega⟩,q⟩
 ·rw[Bool.not_eq_true]at d;rw[d];exact⟨rfl,h.le (by omega) (by omega)⟩
def GI.all{n L:Nat}: ∀{l:Taf} {N:Int} {g:GS},GI n (L+28*l.length) N g->N+l.length<=100000000->(∀m∈l,mr N m∧Has hH m)->tE l g=true∧GI n L (N+l.length) (l.foldl (fun g m=>pR m g) g)
 | [],N,g,h,_,_=>⟨rfl,h.le (by simp) (by simp)⟩
 |m::r,N,g,h,hN,hm=>by simp only[bu]at h hN⊢;obtain⟨f,e⟩:=hm m bw;obtain⟨p,o⟩:=GI.del (L:=L+28*r.length) (h.le (by omega) (ba _)) (by omega) f e;obtain⟨k,j⟩:=GI.all o (by omega) (fun x d=>⟨(hm x (aH _ d)).1.mono (by omega),(hm x (aH _ d)).2⟩);refine⟨by unfold tE;rw[p,k];rfl,?_⟩;rw[show N+((r.length+1:Nat):Int)=N+1+r.length by omega];exact j
section
variable{w w0 w':Tam}{S S0 S':bz}{ow ko bR:Ow}{b b3 b8 i n K L at_:Nat}{N c:Int}{g g':GS}{dv us:Tac}{Q:HP}{a:Act}
def DS.J5(h:DS w S ow b b3 dv n K N g)(f:bD ax ax w S ow w' S ow)(j:Wf w' S ow):DS w' S ow b b3 dv n K N g:=by obtain⟨R,k,e,d⟩:=h.xW;exact⟨⟨R,k.J f j,e,d⟩,h.Pa,h.lx.J f id,h.gi,h.n5,h.nN⟩
noncomputable def Dl:Code:=.seq (.region 20 Hy false) (.seq (.region 21 Hx false) (.seq (.region 22 Hw false) (.region 23 Hv false)))
def O0{j:Int}(hQ:QP Q)(h:kg w S ow b g)(f2:at_<g.eE.length)(f1:g.eE.length<=430)(k:Kn 359 a [(7,.int .i64 (at_:Int)),(8,az b8),(6,.int .i64 j),(4,.int .i64 (i:Int)),(3,az b3),(0,az b)])(a0: ∀a W S' bR,Kn 359 a [(8,az b8),(6,.int .i64 j),(4,.int .i64 (i:Int)),(3,az b3),(0,az b)] ->bD LG ax w S ow W S' bR->kg W S' bR b {g with eE:=PD g.eE at_}->Q .normal a W):Dl.wp Try.prog Q a w:=by
 obtain⟨R,gm,d8,d3⟩:=h;have e:=gm.wf;have f:=gm.eE.all;unfold Dl;refine wp_seq (rg ax hQ Wp ?_);intro w1 e1;have v:=gm.O e1;have a3:=(bD.refl LG ax w S ow).W e e e1;have s0:=SX.refl ax w1
 repeat refine sm k fun a k=> ?_
 refine ar ?_;obtain⟨A,e9,hv⟩:=v.eE.slice;have D:=v.eE;rw[hv]at D;obtain⟨S2,o,a2,a6,d6,f0⟩:=Di D v.wf;have e8:=v.oh a2 a6 (dA.nil (w:=w1) (S:=S2) (ow:=o) (T:=49) (t:=hH) (l:=11) (by rw[nK];omega) (by omega));have c4:=a3.eY e v.wf a2 (.inl (by decide));have E:(R.cells g.bad)[4]? =some (.slice A g.eE.length e9):=congrArg some hv;clear D v a3 s0;have k:=k.sb (l:=[(9,iw),(7,.int .i64 (at_:Int)),(8,az b8),(6,.int .i64 j),(4,.int .i64 (i:Int)),(3,az b3),(0,az b)]);refine wp_seq (rg (fun G=>o G=some 11) hQ Wo ?_);intro w3 e3;have r:=e8.O e3;have c9:=c4.W e a6 e3;have s0:=SX.refl (fun G=>o G=some 11) w3;have U: ¬o b=some 11:=by rw[r.obj.ow];decide
 have a8:=d6.J (bD.O e3 ax ax S2 o)
 repeat (first|refine sm k fun a k=> ?_|refine ld k (r.cell U E) fun a k=> ?_)
 refine nr k (by decide) rfl (by decide) fun I y af=> ?_
 obtain⟨v1,Z,C⟩:=qp (P:=Try.prog) (w:=w3) (S:=S2) (a:=a) (dst:=some 119) (ty:=I) (pos:=y) (af:=af) (gd:=none) (t:=56) (el:=49) (x:=.tmp 117) (lo:=none) (hi:=some (.tmp 118)) (u:=hH) (ds:=g.eE) (n:=0) (m:=(at_:Int)) (by kernel_rfl) (by kernel_rfl) (by rw[k.op (x:=.tmp 117) rfl];exact a8) f
  (fun _ h=>by cases h) (fun _=>rfl) (fun q h=>by injection h with h;subst h;exact⟨_,k.op rfl⟩) (fun h=>by cases h) (ba _) (by omega) (by omega)
 refine⟨v1,w3,Z,fun _=>s0,fun a k=> ?_⟩;rw[bW,show(0:Int).toNat=0 from rfl,List.drop_zero]at C;have b9: ∀d∈g.eE.take at_,Has hH d:=fun d hd=>f d (cF hd);refine nr k (by decide) rfl (by decide) fun I y af=> ?_;obtain⟨A1,c1,O,rfl,e0,b4,b6,b1⟩:=C.source (fun d hd=>(cd (b9 d hd)).1);obtain⟨v2,w4,Y,z,H,a5,d7⟩:=r.eE.mc (P:=Try.prog) (tt:=56) (ys:=g.eE.take at_) (by kernel_rfl) rfl r.wf I A1 c1 O e0 b4 b6 b9 b1 (pG (by show 0+(g.eE.take at_).length<=_;rw[aK];omega));have s4:SX (fun G=>o G=some 11) w3 w4:=SX.iu (fun _ h=>h) H;refine⟨v2,w4,iq (k.op rfl) (k.op rfl) Y,fun _=>s4,fun a k=> ?_⟩
 repeat refine sm k fun a k=> ?_
 refine ar ?_;have e6:=r.oh H a5 d7;have c2:=c9.eY e r.wf H (.inl (by decide));have d5:=a8.J H;have k:=k.sb (l:=[(9,v2),(7,.int .i64 (at_:Int)),(8,az b8),(6,.int .i64 j),(4,.int .i64 (i:Int)),(3,az b3),(0,az b)]);refine wp_seq (rg (fun G=>z G=some 11) hQ Wn ?_);intro w5 e5;have p:=e6.O e5;have c7:=c2.W e a5 e5;have s0:=SX.refl (fun G=>z G=some 11) w5;have U: ¬z b=some 11:=by rw[p.obj.ow];decide
 have d4:=d5.J (bD.O e5 ax ax S2 z)
 repeat (first|refine sm k fun a k=> ?_|refine ld k (p.cell U E) fun a k=> ?_)
 refine ik (s:=((at_+1:Nat):Int)) k (by assumption) rfl (by decide) rfl rfl (wrap64 (by omega) (by omega)) fun a k=> ?_;refine nr k (by decide) rfl (by decide) fun I y af=> ?_
 obtain⟨v3,X,B⟩:=qp (P:=Try.prog) (w:=w5) (S:=S2) (a:=a) (dst:=some 128) (ty:=I) (pos:=y) (af:=af) (gd:=none) (t:=56) (el:=49) (x:=.tmp 125) (lo:=some (.tmp 127)) (hi:=none) (u:=hH) (ds:=g.eE) (n:=((at_+1:Nat):Int)) (m:=(g.eE.length:Int)) (by kernel_rfl) (by kernel_rfl) (by rw[k.op (x:=.tmp 125) rfl];exact d4) f
  (fun q h=>by injection h with h;subst h;exact⟨_,k.op rfl⟩) (fun h=>by cases h) (fun _ h=>by cases h) (fun _=>rfl) (by omega) (by omega) (ba _)
 refine⟨v3,w5,X,fun _=>s0,fun a k=> ?_⟩;rw[bW,bW,dG]at B;have b7: ∀d∈g.eE.drop (at_+1),Has hH d:=fun d hd=>f d (cG hd);refine nr k (by decide) rfl (by decide) fun I y af=> ?_;obtain⟨A3,c3,M,rfl,d9,b2,b5,b0⟩:=B.source (fun d hd=>(cd (b7 d hd)).1);obtain⟨v4,w6,V,d0,J,a4,a9⟩:=p.eE.mc (P:=Try.prog) (tt:=56) (ys:=g.eE.drop (at_+1)) (by kernel_rfl) rfl p.wf I A3 c3 M d9 b2 b5 b7 b0 (pG (by show([] ++g.eE.take at_).length+(g.eE.drop (at_+1)).length<=_;rw[cX,aK,aX];omega));have s6:SX (fun G=>z G=some 11) w5 w6:=SX.iu (fun _ h=>h) J;refine⟨v4,w6,iq (k.op rfl) (k.op rfl) V,fun _=>s6,fun a k=> ?_⟩
 repeat refine sm k fun a k=> ?_
 refine ar ?_;have e4:=p.oh J a4 a9;have c0:=c7.eY e p.wf J (.inl (by decide));obtain⟨A6,c6,a7⟩:=a9.slice;have k:=k.sb (l:=[(9,v4),(8,az b8),(6,.int .i64 j),(4,.int .i64 (i:Int)),(3,az b3),(0,az b)]);refine rg ax hQ Wm ?_;intro w7 e7;have F:=e4.O e7;have c5:=c0.W e a4 e7;have s0:=SX.refl ax w7
 repeat refine sm k fun a k=> ?_
 refine jE (cur:=R.cells g.bad) k (by decide) rfl (by kernel_rfl) rfl rfl (by rw[a7];rfl) F.obj.heap (by show 4<11;omega) (by rw[a7];rfl) (fun h=>absurd rfl h) fun a k=> ?_;refine ar ?_;obtain⟨a1,d2,d1⟩:=F.obj.set F.wf (us:=(R.cells g.bad).set 4 v4);have e2:=F.setObj a1 d2 d1;have oT:=c5.eY e F.wf a1 (.inl (by decide));refine a0 _ _ S2 d0 (k.sb) oT ⟨{R with eE:=v4},?_,d8,d3⟩;exact e2
end
section
variable{w w0 w':Tam}{S S0 S':bz}{ow ko bR:Ow}{b b3 b8 i n K L:Nat}{N c:Int}{g g':GS}{dv us:Tac}{Q:HP}{a:Act}{X:Tai}
def DS.Pw(h:DS w S ow b b3 dv n K N g)(f:bD ax X w S ow w' S ow)(j:Wf w' S ow)(k: ¬X b3):DS w' S ow b b3 dv n K N g:=by obtain⟨R,l,e,d⟩:=h.xW;exact⟨⟨R,l.J f j,e,d⟩,h.Pa,h.lx.J f k,h.gi,h.n5,h.nN⟩
def WD{m:D}(o:Has hH m)(k:us.length=46)(l:ca w S (.agg us.toArray) m):us[2]? =some (.int .i64 (cD 2 m).q):=by
 obtain⟨j,rfl,f⟩:=dQ.1 o;obtain⟨r,d,h⟩:=cI f 2 I6 (by rw[Ty.dq];rfl);obtain⟨q,rfl,t⟩:=h;obtain⟨s,e⟩: ∃u,us[2]? =some u:=⟨_,aQ (by omega)⟩;have p:cD 2 (D.agg j)= .int .i64 q:=by show j.getD 2 .top=_;rw[aj,d];rfl
 rw[e,p,(l.yM 2 e d).cn];rfl
noncomputable def vM:Code:=.seq (.region 24 Hu true) (.cond (.tmp 146) (.region 25 Ht true) .skip)
def Lp{j:Int}{m:D}(hQ:QP Q)(h:DS w S ow b b3 dv n (L+28) N g)(a4:fG w S ow b8 49 us)(T:us.length=46)(U:ca w S (.agg us.toArray) m)(hm:Has hH m)(b2:mr N m)(k:Kn 359 a [(8,az b8),(6,.int .i64 j),(4,.int .i64 (i:Int)),(3,az b3),(0,az b)])(p: ∀a W S' bR g',Kn 359 a [(6,.int .i64 j),(4,.int .i64 (i:Int)),(3,az b3),(0,az b)] ->bD LG ax w S ow W S' bR->kg W S' bR b g'->GI n L (N+1) g'->Q .normal a W):vM.wp Try.prog Q a w:=by
 have Y:=h.gi;have c4:=h.nN;obtain⟨y,r⟩:=Y.del (by omega) b2 hm;have x:=WD hm T U;obtain⟨R,J,z,P⟩:=h.xW;unfold vM;refine wp_seq (jj (n0:=13) ax mix (by exact hQ) Wl (fun _=>by kernel_rfl) ?_);intro w1 e1;have d:=J.O e1;have G:=a4.O e1;have O:=(bD.refl LG ax w S ow).W J.wf J.wf e1;have s0:=SX.refl ax w1
 have F: ∀(a:Act),IM m g=false->Kn 359 a [(6,.int .i64 j),(4,.int .i64 (i:Int)),(3,az b3),(0,az b)] ->Q .normal a w1:=by intro a I k;exact p _ _ S ow g k O ⟨R,d,z,P⟩ (Y.le (by omega) (by omega))
 obtain⟨Al,c1,b7⟩:=d.arr.slice;have a0:(R.la.map az).length=g.eX.length:=by rw[ak,z];exact d.qF
 repeat (first|refine sm k fun a k=> ?_|refine ld k (G.cell id x) fun a k=> ?_)
 by_cases h1:decide ((cD 2 m).q≥1)=true
 ·refine cm (c:=true) k rfl rfl (congrArg some h1) fun a k=> ?_
  repeat (first|refine sm k fun a k=> ?_|refine ld k (d.cell id rfl) fun a k=> ?_|refine ld k (G.cell id x) fun a k=> ?_)
  rw[b7]at k
  repeat refine sm k fun a k=> ?_
  rw[a0]at k;by_cases h2:decide ((cD 2 m).q<=(g.eX.length:Int))=true
  ·refine cm (c:=true) k rfl rfl (congrArg some h2) fun a k=> ?_;refine pk k rfl rfl fun a k=> ?_;refine ar (aV k rfl ?_);have k:=k.sb (l:=[(8,az b8),(6,.int .i64 j),(4,.int .i64 (i:Int)),(3,az b3),(0,az b)]);have c6:=of_decide_eq_true h1;have c5:=of_decide_eq_true h2;have I:IM m g=true:=by unfold IM;rw[h2,show decide (1<=(cD 2 m).q)=true from h1];rfl
   have hg:pR m g=u9 (tq m) (jy m (bX g (tq m))).1 false (jh (tq m) (jy m (bX g (tq m))).2 g):=by unfold pR;rw[I];rfl
   unfold yP at y;rw[I,Bool.not_true,Bool.false_or]at y;simp only[aS,bk]at y;obtain⟨⟨⟨⟨a8,Z⟩,C⟩,b4⟩,B⟩:=y;rw[hg]at r;have A:(cD 2 m).q-1=((tq m:Nat):Int):=by unfold tq;omega
   have hi:tq m<g.eX.length:=by unfold tq;omega
   have o:i64.wrap ((cD 2 m).q-1)=((tq m:Nat):Int):=by rw[A];exact wrap64 (by omega) (by omega)
   generalize tq m=q at A hi o C B r;obtain⟨bs,E,b0,c2⟩:=d.eX q _ (jG hi);refine IW (n0:=14) (fun bb=>ow bb=some (1000+q)) mix (by exact hQ) Wk (by kernel_rfl) ?_;intro w2 e2;have f:=d.O e2;have t:=G.O e2;have a3:=O.W J.wf d.wf e2;have M:=bD.O e2 ax ax S ow;have V:=b0.J d.wf f.wf M (fun h=>h) rfl;have s1:=SX.refl (fun bb=>ow bb=some (1000+q)) w2;have a6: ¬ow b=some (1000+q):=by rw[f.obj.ow];intro h;injection h with h;omega
   have H: ¬ow b8=some (1000+q):=by rw[t.ow];intro h;cases h
   obtain⟨bl,c0,a1,b6,a9,b5⟩:=f.arr.elem (i:=q) (u:=az bs) (by rw[z,ab,E];rfl);have a5: ¬ow bl=some (1000+q):=by rw[a9];intro h;injection h with h;omega
   repeat (first|refine sm k fun a k=> ?_|refine ld k (t.cell H x) fun a k=> ?_)
   refine Cz (s:=((q:Nat):Int)) k (by assumption) rfl (by decide) rfl rfl o fun a k=> ?_
   repeat (first|refine sm k fun a k=> ?_|refine ld k (f.cell a6 (j:=2) rfl) fun a k=> ?_)
   refine ld k (t.cell H x) fun a k=> ?_;refine Cz (s:=((q:Nat):Int)) k (by assumption) rfl (by decide) rfl rfl o fun a k=> ?_;rw[a1]at k;refine uN (el:=52) (sz:=1) k rfl rfl (by rw[a0];exact hi) fun a k=> ?_;refine kr (v:=az bs) k (by assumption) rfl (by decide) rfl (by kernel_rfl) (by kernel_rfl) (eF b6 a5 (by rw[bG];exact b5)) fun a k=> ?_;refine lN (vs:=us) k rfl T (fun w' a7 q v hv=>by rw[ao];exact t.cell H hv w' a7) fun a k=> ?_;refine gH (vs:=[az bs,.agg us.toArray]) k (by decide) rfl (by decide) c17.enter rfl (BQ V f.wf (by omega) hm ((U.J (bD.O e1 ax ax S ow)).J M) (y8 C) b4) ?_;rintro e w3 ⟨v,S3,JU,rfl,wo,FX,LZ,hr3,ht3⟩;refine⟨_,rfl,fun _=>SX.iu (fun _ h=>h) wo,fun a k=> ?_⟩;have b9:=f.ua (i:=q) wo FX hi E LZ (fF LZ) a8;have a2:=a3.eY J.wf f.wf wo (.inr (by omega));have b1:nq JU:=h.Pa.J wo (fun l hl=>by simp only[iE]at hl;subst hl;exact .inr (by omega));refine gH (vs:=[az b,.int .i64 ((q:Nat):Int),v,.bool false]) k (by decide) rfl (by decide) qk rfl (qg (g:=jh q (jy m (bX g q)).2 g) ⟨_,b9,z,P⟩ b1 hr3 ht3 B) ?_;rintro e w5 ⟨S5,JT,rfl,qT,Z⟩;refine⟨_,rfl,fun h=>absurd rfl h,fun a k=> ?_⟩;exact ar (p _ _ S5 JT _ (k.sb) (jZ J.wf FX a2 qT nE) Z r)
  ·refine cm (c:=false) k rfl rfl (congrArg some (cw.2 h2)) fun a k=> ?_;refine pk k rfl rfl fun a k=> ?_;refine ar (aV k rfl (wp_skip (F _ (by unfold IM;rw[cw.2 h2,Bool.and_false]) (k.sb))))
 ·refine cm (c:=false) k rfl rfl (congrArg some (cw.2 h1)) fun a k=> ?_
  repeat refine sm k fun a k=> ?_
  refine pk k rfl rfl fun a k=> ?_;refine ar (aV k rfl (wp_skip (F _ (by unfold IM;rw[show decide (1<=(cD 2 m).q)=false from cw.2 h1,Bool.false_and]) (k.sb))))
noncomputable def zD:Code:=.seq (.region 14 HD false) (.block 3 (.loop (.seq (.seq (.region 15 HC false) (.cond (.tmp 88) .skip (.exit 3))) (.seq (.block 4 (.seq (.region 17 HB true) (.seq (.region 18 HA false) (.seq (.seq (.region 19 Hz false) (.cond (.tmp 112) Dl .skip)) vM)))) (.region 16 CO false)))))
def KF{x7:Int}{rj:Bool}(I:QP Q)(h:DS w S ow b b3 dv n K N g)(hK:112<=K)(hN:N<=99998000)(hc:dv[11]? =some (.int .i64 c))(hx:dv[7]? =some (.int .i64 x7))(b4:jo .i64 x7)(hj:dv[10]? =some (.bool rj))(k:Kn 359 a [(4,.int .i64 (i:Int)),(3,az b3),(0,az b)])(a5: ∀a W S' bR g',Kn 359 a [(4,.int .i64 (i:Int)),(3,az b3),(0,az b)] ->bD LG ax w S ow W S' bR->kg W S' bR b g'->GI n (K-112) (N+4) g'->Q .normal a W):zD.wp Try.prog Q a w:=by
 unfold zD;refine wp_seq (rg ax I Wv ?_);intro w1 e1;have G:=SX.refl ax w1
 repeat refine sm k fun a k=> ?_
 refine ar ?_;have d:=h.wf;obtain⟨p0,p4⟩:=py (b:=4) b4 (by omega)
 refine wp_block (wp_loop_ghost (fun mm a W=> ∃(j:Nat) (D:bz) (o:Ow) (t:GS),mm=4-j∧j<=4∧Kn 359 a [(6,.int .i64 (j:Int)),(4,.int .i64 (i:Int)),(3,az b3),(0,az b)] ∧bD LG ax w S ow W D o∧DS W D o b b3 dv n (K-28*j) (N+j) t) (4-0)
  ⟨0,S,ow,g,rfl,aC _,k.sb,(bD.refl LG ax w S ow).W d d e1,by simpa using h.O e1⟩ ?_)
 clear k G;rintro mm a W ⟨j,D,o,t,rfl,hj4,k,DZ,h1⟩;refine wp_seq (wp_seq (rg ax I Wu ?_));intro w2 e2;have M:=h1.O e2;have b0:=DZ.W d h1.wf e2;have G:=SX.refl ax w2
 repeat (first|refine sm k fun a k=> ?_|refine ld k (M.lx.cell id hx) fun a k=> ?_)
 refine gH (vs:=[.int .i64 x7,.int .i64 4]) k (by decide) rfl (by decide) c8.enter rfl (jS M.wf b4 (by decide) (by decide)) ?_;rintro e w3 ⟨rfl,p,FX⟩;have s1:=p.tu ax;refine⟨_,rfl,fun _=>s1,fun a k=> ?_⟩;obtain⟨R,P,c1,b6⟩:=M.xW;have J:=M.J5 p FX;have a7:=b0.Z d M.wf p nE;obtain⟨A,f5,hv⟩:=P.eE.slice;have B:=P.eE.all;refine ik (s:=1+gP x7 4) k (by assumption) rfl (by decide) rfl rfl (wrap64 (by omega) (by omega)) fun a k=> ?_;have b1: ∀(a:Act),Kn 359 a [(4,.int .i64 (i:Int)),(3,az b3),(0,az b)] ->Q .normal a w3:=fun a k=>a5 a w3 D o t k a7 J.xW (J.gi.le (by omega) (by omega));by_cases c0:(j:Int)<1+gP x7 4
 ·refine cm (c:=true) k rfl rfl (N7 c0) fun a k=> ?_
  repeat (first|refine sm k fun a k=> ?_|refine ld k (P.cell id (j:=4) rfl) fun a k=> ?_)
  rw[hv]at k
  repeat refine sm k fun a k=> ?_
  refine cm (c:=decide ((t.eE.length:Int)>0)) k rfl rfl rfl fun a k=> ?_;refine pk k rfl rfl fun a k=> ?_;refine ar (aV k rfl ?_);by_cases hp:(t.eE.length:Int)>0
  ·rw[if_pos (by simpa using hp)];refine wp_skip ?_;have k:=k.sb (l:=[(6,.int .i64 (j:Int)),(4,.int .i64 (i:Int)),(3,az b3),(0,az b)]);have e0:=J.gi.nl;generalize c4:i64.wrap (c+(j:Int))=cj;have Y:jo .i64 cj:=by rw[<-c4];exact lu _ _
   obtain⟨q0,q1⟩:=py (b:=(t.eE.length:Int)) Y hp;generalize g0:(gP cj (t.eE.length:Int)).toNat=r;have c6:gP cj (t.eE.length:Int)=(r:Int):=by omega
   have C:r<t.eE.length:=by omega
   obtain⟨m,hm⟩: ∃m,t.eE[r]? =some m:=⟨_,aQ C⟩;have H:=bU hm;clear G s1 p FX b0 e2 P;refine wp_seq (wp_block (wp_seq (jj (n0:=10) ax mix (by exact I) Ws (fun _=>by kernel_rfl) ?_)));intro w4 e4;have h4:=J.O e4;have a9:=a7.W d J.wf e4;have G:=SX.refl ax w4;obtain⟨R,a6,c1,b6⟩:=h4.xW;obtain⟨A,f5,hv⟩:=a6.eE.slice
   repeat (first|refine sm k fun a k=> ?_|refine ld k (h4.lx.cell id hc) fun a k=> ?_)
   refine ik (s:=cj) k (by assumption) rfl (by decide) rfl rfl c4 fun a k=> ?_
   repeat (first|refine sm k fun a k=> ?_|refine ld k (a6.cell id (j:=4) rfl) fun a k=> ?_)
   rw[hv]at k
   repeat refine sm k fun a k=> ?_
   refine gH (vs:=[.int .i64 cj,.int .i64 (t.eE.length:Int)]) k (by decide) rfl (by decide) c8.enter rfl (jS h4.wf Y (iC (by omega) (by omega)) (by omega)) ?_;rintro e w5 ⟨rfl,qT,Q8⟩;have s1:=qT.tu ax;refine⟨_,rfl,fun _=>s1,fun a k=> ?_⟩
   repeat refine sm k fun a k=> ?_
   refine ar ?_;rw[c6]at k;have h5:=h4.J5 qT Q8;have d2:=a9.Z d h4.wf qT nE;have k:=k.sb (l:=[(7,.int .i64 (r:Int)),(6,.int .i64 (j:Int)),(4,.int .i64 (i:Int)),(3,az b3),(0,az b)]);clear G s1 qT Q8 a9 e4 a6;refine wp_seq (rg ax I Wr ?_);intro w6 e6;have h6:=h5.O e6;have a0:=d2.W d h5.wf e6;have G:=SX.refl ax w6;obtain⟨R,O,c1,b6⟩:=h6.xW;obtain⟨bt,f6,us,c7,c5,d8,f,a3,a2⟩:=O.eE.elem hm;rw[nK]at f a3
   have b7:ca w6 D (.agg us.toArray) m:=by obtain⟨lm,rfl,e3⟩:=dQ.1 (B m H);refine .agg us lm ?_ a2;have:=fU e3;rw[this,f,Ty.dq];rfl
   have b9: ∀u∈us,u.oneCell'=true:=by
    intro u hu;obtain⟨q,hq⟩:=aw hu;have f7:q<us.length:=(aG.1 hq).1;obtain⟨f8,e7⟩:=cd (B m H);have a4:q<hH.cells.length:=by rw[nK];omega
    obtain⟨c,f1,f0⟩:=e7 q (hH.cells[q]'a4) (aQ a4);exact(a2 q u c hq f1).hZ f0 (bY.1 (show hH.cells.all Ty.scalar=true from rfl) _ (aF a4))
   repeat (first|refine sm k fun a k=> ?_|refine ld k (O.cell id (j:=4) rfl) fun a k=> ?_)
   rw[c7]at k;refine uN (el:=49) (sz:=46) k rfl rfl C fun a k=> ?_;refine lN (vs:=us) k rfl f (fun w' d6 q v hv=>eF c5 (fun h=>h) (a3 q v hv) w' d6) fun a k=> ?_;refine iV (nn:=46) k (by decide) rfl (by decide) (by kernel_rfl) (fun zs _=>SX.alloc _ _ _) fun zs d5 a k=> ?_;refine jU (vs:=us) (cur:=zs.toArray) k (by decide) rfl (by rw[f];kernel_rfl) rfl rfl rfl (heap_alloc_new w6 _) (by rw[bH];omega) b9 (fun h=>absurd rfl h) fun a k=> ?_;refine ar ?_;rw[fill_eq d5 f];obtain⟨F,b5,a1⟩:=jf (T:=49) (zs:=zs) (us:=us) O.wf;have h8:w.heap.size<=w6.heap.size:=a0.size;have h7:=h6.Pw F b5 (fun e=>by have:=h6.lx.lt;rw[show b3=w6.heap.size from e]at this;omega);have oT:=a0.Z d h6.wf F (fun bb hb=>by rw[show bb=_ from hb];exact h8);have z:=b7.J F;generalize f9:w6.heap.size=b8 at k a1 h7 oT z h8⊢;generalize f2:(w6.alloc _).setRow b8 _=w7 at a1 h7 oT z⊢;have k:=k.sb (l:=[(7,.int .i64 (r:Int)),(8,az b8),(6,.int .i64 (j:Int)),(4,.int .i64 (i:Int)),(3,az b3),(0,az b)]);clear F b5 f2 c7 c5 d8 a3 a2 G a0 e6 O b7
   have Z: ∀(Q2:HP),QP Q2->(∀a W S' bR g',Kn 359 a [(6,.int .i64 (j:Int)),(4,.int .i64 (i:Int)),(3,az b3),(0,az b)] ->bD LG ax w S ow W S' bR->DS W S' bR b b3 dv n (K-28*(j+1)) (N+((j+1:Nat):Int)) g'->Q2 .normal a W)->
     ∀a W S2 x g2,Kn 359 a [(8,az b8),(6,.int .i64 (j:Int)),(4,.int .i64 (i:Int)),(3,az b3),(0,az b)] ->bD LG ax w S ow W S2 x->DS W S2 x b b3 dv n (K-28*j) (N+j) g2->fG W S2 x b8 49 us->ca W S2 (.agg us.toArray) m->vM.wp Try.prog Q2 a W:=by
    intro Q2 f3 d9 a W S2 x g2 k d1 hE d4 d7;have f4:K-28*j=(K-28*(j+1))+28:=by omega
    rw[f4]at hE;refine Lp (L:=K-28*(j+1)) f3 hE d4 f d7 (B m H) (h7.gi.eE m H) k ?_;intro a W3 S3 d3 g3 k p e5 c2;refine d9 a W3 S3 d3 g3 k (jZ d hE.wf d1 p nE) ?_;have:=hE.to p e5 c2 (by omega);rw[show N+((j+1:Nat):Int)=N+j+1 by omega];exact this
   have U: ∀a W S' bR g',Kn 359 a [(6,.int .i64 (j:Int)),(4,.int .i64 (i:Int)),(3,az b3),(0,az b)] ->bD LG ax w S ow W S' bR->DS W S' bR b b3 dv n (K-28*(j+1)) (N+((j+1:Nat):Int)) g'->
     (Code.region 16 CO false).wp Try.prog (Exit.then (fun a W=> ∃n',n'<4-j∧ ∃(j:Nat) (D:bz) (o:Ow) (t:GS),n'=4-j∧j<=4∧Kn 359 a [(6,.int .i64 (j:Int)),(4,.int .i64 (i:Int)),(3,az b3),(0,az b)] ∧bD LG ax w S ow W D o∧DS W D o b b3 dv n (K-28*j) (N+j) t) (Exit.inBlock 3 Q)) a W:=by
    intro a W S' bR g' k d0 hF;refine rg ax (by exact I) Wt ?_;intro w9 e9;have G:=SX.refl ax w9
    repeat refine sm k fun a k=> ?_
    refine ik (s:=((j+1:Nat):Int)) k (by assumption) rfl (by decide) rfl rfl (wrap64 (by omega) (by omega)) fun a k=> ?_
    repeat refine sm k fun a k=> ?_
    exact ar ⟨4-(j+1),by omega,j+1,S',bR,g',rfl,by omega,k.sb,d0.Z d hF.wf (bD.O e9 ax ax S' bR) nE,hF.O e9⟩
   refine wp_seq (wp_seq (rg ax (by exact I) Wq ?_));intro w8 e8;have y:=h7.O e8;have b2:=a1.O e8;have a8:=oT.W d h7.wf e8;have G:=SX.refl ax w8;have V:=z.J (bD.O e8 ax ax D o)
   repeat (first|refine sm k fun a k=> ?_|refine ld k (y.lx.cell id hj) fun a k=> ?_)
   refine pV k (by assumption) rfl (by decide) rfl fun a k=> ?_;refine ar (aV k rfl ?_);have k':=k.sb (l:=[(7,.int .i64 (r:Int)),(8,az b8),(6,.int .i64 (j:Int)),(4,.int .i64 (i:Int)),(3,az b3),(0,az b)]);cases rj with
   |true=>
    refine wp_skip (Z _ (by exact I) (fun a W S' bR g' h1 M J=>U a W S' bR g' h1 M J) a w8 D o t (k'.sb) a8 y b2 V)
   |false=>
    refine O0 (by exact I) y.xW C e0 k' ?_;intro a W S2 x k E hG;have c9:=jZ d y.wf a8 E nE;exact Z _ (by exact I) (fun a W S' bR g' h1 M J=>U a W S' bR g' h1 M J) a W S2 x _ k c9 (y.to E hG (y.gi.cut r) (by omega)) (b2.J E id) (V.J E)
  ·rw[if_neg (by simpa using hp)];exact wp_exit (b1 a (k.sb))
 ·refine cm (c:=false) k rfl rfl (N8 c0) fun a k=> ?_
  repeat refine sm k fun a k=> ?_
  refine pk k rfl rfl fun a k=> ?_;refine ar (aV k rfl (wp_exit (b1 a (k.sb))))
end
section
variable{w w0 w':Tam}{S S0 S':bz}{ow ko bR:Ow}{b b3 b8 i n K L at_:Nat}{N c:Int}{g g':GS}{dv us:Tac}{Q:HP}{a:Act}
noncomputable def z6:Code:=.seq (.region 37 Hh false) (.seq (.region 38 Hg false) (.seq (.region 39 Hf false) (.region 40 He false)))
def Lj(hQ:QP Q)(h:kg w S ow b g)(f1:at_<g.eE.length)(f0:g.eE.length<=430)(k:Kn 359 a [(12,.int .i64 (at_:Int)),(4,.int .i64 (i:Int)),(3,az b3),(0,az b)])(Z: ∀a W S' bR,Kn 359 a [(4,.int .i64 (i:Int)),(3,az b3),(0,az b)] ->bD LG ax w S ow W S' bR->kg W S' bR b {g with eE:=PD g.eE at_}->Q .normal a W):z6.wp Try.prog Q a w:=by
 obtain⟨R,gm,d7,d2⟩:=h;have e:=gm.wf;have f:=gm.eE.all;unfold z6;refine wp_seq (rg ax hQ V8 ?_);intro w1 e1;have r:=gm.O e1;have a2:=(bD.refl LG ax w S ow).W e e e1;have s0:=SX.refl ax w1
 repeat refine sm k fun a k=> ?_
 refine ar ?_;obtain⟨A,e8,hv⟩:=r.eE.slice;have C:=r.eE;rw[hv]at C;obtain⟨S2,j,a1,a5,d5,e9⟩:=Di C r.wf;have e6:=r.oh a1 a5 (dA.nil (w:=w1) (S:=S2) (ow:=j) (T:=49) (t:=hH) (l:=11) (by rw[nK];omega) (by omega));have c2:=a2.eY e r.wf a1 (.inl (by decide));have D:(R.cells g.bad)[4]? =some (.slice A g.eE.length e8):=congrArg some hv;clear C r a2 s0;have k:=k.sb (l:=[(13,iw),(12,.int .i64 (at_:Int)),(4,.int .i64 (i:Int)),(3,az b3),(0,az b)]);refine wp_seq (rg (fun F=>j F=some 11) hQ V7 ?_);intro w3 e3;have p:=e6.O e3;have c7:=c2.W e a5 e3;have s0:=SX.refl (fun F=>j F=some 11) w3;have O: ¬j b=some 11:=by rw[p.obj.ow];decide
 have a7:=d5.J (bD.O e3 ax ax S2 j)
 repeat (first|refine sm k fun a k=> ?_|refine ld k (p.cell O D) fun a k=> ?_)
 refine nr k (by decide) rfl (by decide) fun H v af=> ?_
 obtain⟨v1,Y,B⟩:=qp (P:=Try.prog) (w:=w3) (S:=S2) (a:=a) (dst:=some 245) (ty:=H) (pos:=v) (af:=af) (gd:=none) (t:=56) (el:=49) (x:=.tmp 243) (lo:=none) (hi:=some (.tmp 244)) (u:=hH) (ds:=g.eE) (n:=0) (m:=(at_:Int)) (by kernel_rfl) (by kernel_rfl) (by rw[k.op (x:=.tmp 243) rfl];exact a7) f
  (fun _ h=>by cases h) (fun _=>rfl) (fun q h=>by injection h with h;subst h;exact⟨_,k.op rfl⟩) (fun h=>by cases h) (ba _) (by omega) (by omega)
 refine⟨v1,w3,Y,fun _=>s0,fun a k=> ?_⟩;rw[bW,show(0:Int).toNat=0 from rfl,List.drop_zero]at B;have b7: ∀d∈g.eE.take at_,Has hH d:=fun d hd=>f d (cF hd);refine nr k (by decide) rfl (by decide) fun H v af=> ?_;obtain⟨A1,c1,M,rfl,d9,b2,b5,b0⟩:=B.source (fun d hd=>(cd (b7 d hd)).1);obtain⟨v2,w4,X,y,G,a4,d6⟩:=p.eE.mc (P:=Try.prog) (tt:=56) (ys:=g.eE.take at_) (by kernel_rfl) rfl p.wf H A1 c1 M d9 b2 b5 b7 b0 (pG (by show 0+(g.eE.take at_).length<=_;rw[aK];omega));have s4:SX (fun F=>j F=some 11) w3 w4:=SX.iu (fun _ h=>h) G;refine⟨v2,w4,iq (k.op rfl) (k.op rfl) X,fun _=>s4,fun a k=> ?_⟩
 repeat refine sm k fun a k=> ?_
 refine ar ?_;have e4:=p.oh G a4 d6;have c0:=c7.eY e p.wf G (.inl (by decide));have d4:=a7.J G;have k:=k.sb (l:=[(13,v2),(12,.int .i64 (at_:Int)),(4,.int .i64 (i:Int)),(3,az b3),(0,az b)]);refine wp_seq (rg (fun F=>y F=some 11) hQ V6 ?_);intro w5 e5;have o:=e4.O e5;have c5:=c0.W e a4 e5;have s0:=SX.refl (fun F=>y F=some 11) w5;have O: ¬y b=some 11:=by rw[o.obj.ow];decide
 have d3:=d4.J (bD.O e5 ax ax S2 y)
 repeat (first|refine sm k fun a k=> ?_|refine ld k (o.cell O D) fun a k=> ?_)
 refine ik (s:=((at_+1:Nat):Int)) k (by assumption) rfl (by decide) rfl rfl (wrap64 (by omega) (by omega)) fun a k=> ?_;refine nr k (by decide) rfl (by decide) fun H v af=> ?_
 obtain⟨v3,V,z⟩:=qp (P:=Try.prog) (w:=w5) (S:=S2) (a:=a) (dst:=some 254) (ty:=H) (pos:=v) (af:=af) (gd:=none) (t:=56) (el:=49) (x:=.tmp 251) (lo:=some (.tmp 253)) (hi:=none) (u:=hH) (ds:=g.eE) (n:=((at_+1:Nat):Int)) (m:=(g.eE.length:Int)) (by kernel_rfl) (by kernel_rfl) (by rw[k.op (x:=.tmp 251) rfl];exact d3) f
  (fun q h=>by injection h with h;subst h;exact⟨_,k.op rfl⟩) (fun h=>by cases h) (fun _ h=>by cases h) (fun _=>rfl) (by omega) (by omega) (ba _)
 refine⟨v3,w5,V,fun _=>s0,fun a k=> ?_⟩;rw[bW,bW,dG]at z;have b6: ∀d∈g.eE.drop (at_+1),Has hH d:=fun d hd=>f d (cG hd);refine nr k (by decide) rfl (by decide) fun H v af=> ?_;obtain⟨A3,c3,J,rfl,d8,b1,b4,a9⟩:=z.source (fun d hd=>(cd (b6 d hd)).1);obtain⟨v4,w6,U,c9,I,a3,a8⟩:=o.eE.mc (P:=Try.prog) (tt:=56) (ys:=g.eE.drop (at_+1)) (by kernel_rfl) rfl o.wf H A3 c3 J d8 b1 b4 b6 a9 (pG (by show([] ++g.eE.take at_).length+(g.eE.drop (at_+1)).length<=_;rw[cX,aK,aX];omega));have s6:SX (fun F=>y F=some 11) w5 w6:=SX.iu (fun _ h=>h) I;refine⟨v4,w6,iq (k.op rfl) (k.op rfl) U,fun _=>s6,fun a k=> ?_⟩
 repeat refine sm k fun a k=> ?_
 refine ar ?_;have e2:=o.oh I a3 a8;have b9:=c5.eY e o.wf I (.inl (by decide));obtain⟨A6,c6,a6⟩:=a8.slice;have k:=k.sb (l:=[(13,v4),(4,.int .i64 (i:Int)),(3,az b3),(0,az b)]);refine rg ax hQ V5 ?_;intro w7 e7;have E:=e2.O e7;have c4:=b9.W e a3 e7;have s0:=SX.refl ax w7
 repeat refine sm k fun a k=> ?_
 refine jE (cur:=R.cells g.bad) k (by decide) rfl (by kernel_rfl) rfl rfl (by rw[a6];rfl) E.obj.heap (by show 4<11;omega) (by rw[a6];rfl) (fun h=>absurd rfl h) fun a k=> ?_;refine ar ?_;obtain⟨a0,d1,d0⟩:=E.obj.set E.wf (us:=(R.cells g.bad).set 4 v4);have e0:=E.setObj a0 d1 d0;have oT:=c4.eY e E.wf a0 (.inl (by decide));refine Z _ _ S2 c9 (k.sb) oT ⟨{R with eE:=v4},?_,d7,d2⟩;exact e0
noncomputable def zM:Code:=.seq (.region 35 Hj false) (.cond (.tmp 229) (.seq (.region 36 Hi true) z6) .skip)
def KU(C:QP Q)(h:DS w S ow b b3 dv n K N g)(U:dv[11]? =some (.int .i64 c))(p:jo .i64 c)(k:Kn 359 a [(4,.int .i64 (i:Int)),(3,az b3),(0,az b)])(f: ∀a W S' bR g',Kn 359 a [(4,.int .i64 (i:Int)),(3,az b3),(0,az b)] ->bD LG ax w S ow W S' bR->kg W S' bR b g'->GI n K N g'->Q .normal a W):zM.wp Try.prog Q a w:=by
 have d:=h.wf;have B:=h.gi.nl;unfold zM;refine wp_seq (rg ax C Wa ?_);intro F I;have t:=h.O I;have o:=(bD.refl LG ax w S ow).W d d I;have O:=SX.refl ax F;obtain⟨R,m,T,P⟩:=t.xW;obtain⟨A,Y,G⟩:=m.eE.slice
 repeat (first|refine sm k fun a k=> ?_|refine ld k (m.cell id (j:=4) rfl) fun a k=> ?_)
 rw[G]at k
 repeat refine sm k fun a k=> ?_
 refine cm (c:=decide ((g.eE.length:Int)>0)) k rfl rfl rfl fun a k=> ?_;refine ar (aV k rfl ?_);by_cases z:(g.eE.length:Int)>0
 ·rw[if_pos (by simpa using z)];obtain⟨q0,q1⟩:=py (b:=(g.eE.length:Int)) p z;generalize V:(gP c (g.eE.length:Int)).toNat=at_;have r:gP c (g.eE.length:Int)=(at_:Int):=by omega
  have q:at_<g.eE.length:=by omega
  have k:=k.sb (l:=[(4,.int .i64 (i:Int)),(3,az b3),(0,az b)]);refine wp_seq (jj (n0:=8) ax mix (by exact C) V9 (fun _=>by kernel_rfl) ?_);intro J E;have s:=t.O E;have x:=o.W d t.wf E;have O:=SX.refl ax J;have D:=m.O E
  repeat (first|refine sm k fun a k=> ?_|refine ld k (D.cell id (j:=4) rfl) fun a k=> ?_|refine ld k (s.lx.cell id U) fun a k=> ?_)
  rw[G]at k
  repeat refine sm k fun a k=> ?_
  refine gH (vs:=[.int .i64 c,.int .i64 (g.eE.length:Int)]) k (by decide) rfl (by decide) c8.enter rfl (jS s.wf p (iC (by omega) (by omega)) (by omega)) ?_;rintro e w3 ⟨rfl,wo,FX⟩;have M:=wo.tu ax;refine⟨_,rfl,fun _=>M,fun a k=> ?_⟩
  repeat refine sm k fun a k=> ?_
  refine ar ?_;rw[r]at k;have H:=s.J5 wo FX;have v:=x.Z d s.wf wo nE;refine Lj (by exact C) H.xW q B (k.sb) ?_;intro a W Z y k u X;exact f a W Z y _ k (jZ d H.wf v u nE) X (h.gi.cut at_)
 ·rw[if_neg (by simpa using z)];exact wp_skip (f a F S ow g (k.sb) o t.xW h.gi)
def Vn(q:QP Q)(h:DS w S ow b b3 dv n K N g)(x:12040<=K)(v:N<=99998000)(k:Kn 359 a [(0,az b)])(e: ∀a W S' bR g',Kn 359 a [(0,az b)] ->bD LG ax w S ow W S' bR->kg W S' bR b g'->GI n (K-12040) (N+430) g'->Q .normal a W):yp.wp Try.prog Q a w:=by have d:=h.gi;have o:=d.nl;obtain⟨R,u,_,_⟩:=h.xW;have f:=u.eE.all;have t:GI n (K-12040+28*g.eE.length) N {g with eE:=[]}:=(⟨⟨d.len.n5,d.len.df,d.len.bc,d.len.saved,d.len.lead,d.len.vl⟩,d.n1,d.cf,d.eX,fun m j=>(by cases j),aC _,d.told,d.nn⟩:GI n K N {g with eE:=[]}).le (by omega) (ba _);obtain⟨s,r⟩:=GI.all t (by omega) (fun m j=>⟨d.eE m j,f m j⟩);refine EI q h.xW h.Pa s k fun a W S' bR k l p=>e a W S' bR _ k l p ?_;exact r.le (bf _) (by omega)
end
end Go.Proofs.Ytjhmkaninmgilaa
namespace Go.Proofs.Ytjhmkaninmgilaa
open Go Go.RowKit Go.dI Go.Proofs
section
variable{w:Tam}{S:bz}{ow:Ow}{l b:Nat}{s:RS}
def KD{x:D}{u:Tan}(h:ke w S ow l (dC 0) b [cR s,cL s])(G:Wf w S ow)(A:1000<=l)(F:Has uR x)(H:ca w S u x)(z:Ok s 20):
  Calls Try.prog 16 #[.pointer (some ⟨b,0,none⟩),u] w fun e k=> ∃E vo j f,e= .returned (.tuple [E,.int .i64 (dT x s).1.2.1,vo].toArray)∧bD (iE l) ax w S ow k j f∧Wf k j f∧ke k j f l (dC 0) b [cR (dT x s).2,cL (dT x s).2] ∧
   (ca k j E (dT x s).1.1∧Has dV (dT x s).1.1)∧ca k j vo (dT x s).1.2.2∧Has yJ (dT x s).1.2.2:=by
 have t:dn (.V s16.params) ([x] ++[cR s,cL s].flatten):=ag.2 ⟨_,_,rfl,F,fF h⟩;refine(h.call (ob0:=dC 0) (vs:=[u]) (n:=1) c16 rfl rfl rfl rfl rfl rfl (by decide) (.inl (by decide)) rfl A G rfl rfl ?_ t z).mono ?_
 ·intro i v d m q
  match i,m,q with
  |0,m,q=>injection m with m;injection q with q;subst m q;exact H
 ·rintro e N ⟨v,j,f,τ,M,outs,rfl,a,Po,Pn,T4,Pp,kR⟩;replace a:D.eS [.eS [(dT x s).1.1,.int .i64 (dT x s).1.2.1,(dT x s).1.2.2],.agg (cR (dT x s).2),.agg (cL (dT x s).2)] = .eS (M::outs.map .agg):=a;injection a with a;have p:outs.length=2:=Po
  match outs,p with
  | [o1,o2],_=>
   simp only[cE,List.map_nil,ev,D.agg.injEq,and_true]at a;obtain⟨rfl,rfl,rfl⟩:=a;rcases kR with⟨c,hc,_⟩|⟨_,us,ds,rfl,g,hul,hdl,tJ⟩
   ·have I:(3:Nat)=1:=congrArg List.length hc;cases I
   injection g with g;subst g;have o:us.length=3:=hul
   match us,o with
   | [u0,u1,u2],_=>
    have K:=qh (ts:=dV.cells) (τ:=τ) (.inl ⟨_,rfl,tJ 0 _ _ _ rfl rfl rfl⟩);have J:=qh (ts:=UJ) (τ:=τ) (.inl ⟨_,rfl,tJ 2 _ _ _ rfl rfl rfl⟩);have C:=tJ 1 _ _ _ rfl rfl rfl;unfold gl at C;simp only[ai,if_false]at C;obtain⟨y,r,B⟩:=C;injection r with r;subst r;have L:u1= .int .i64 (dT x s).1.2.1:=B.1.cn;subst L;exact⟨u0,u2,j,f,rfl,Pn,T4,Pp,K,J⟩
end
attribute [local irreducible] TL AT
def Kn.swap{n:Nat}{a:Act}{p q:Nat×Tan}{m:Tab}(h:Kn n a (p::q::m))(c:p.1≠q.1):Kn n a (q::p::m):=by
 refine⟨h.1,h.2.1,fun t v e=>h.2.2 t v ?_⟩;rw[<-e];simp only[lk];by_cases d:t=p.1
 ·subst d;simp[c]
 ·simp[d]
def ln{P:Tap}{ops:Tad}{Q:HP}{c:Tae}{p q:Tah}{a:Act}{w:Tam}(h:AT P ops Q c p a w)(e:p.length=q.length)(d:iA ops.size p=iA ops.size q):AT P ops Q c q a w:=by unfold AT at h⊢;rw[<-e,<-d];exact h
def L15:Tak->Tab
 |none=> []
 |some B=> [(15,az B)]
def L17:Tak->Tab
 |none=> []
 |some B=> [(17,az B)]
structure KS(w0:Tam)(S0:bz)(o0:Ow)(X:Tai)(w2:Tam)(F:Tam->bz->Ow->Prop)(m:Tab)(b7 b9:Tak)(a:Act)(w:Tam)(S:bz)(ow:Ow):Prop where
 kn:Kn 359 a (L15 b7++(L17 b9++m))
 wf:Wf w S ow
 st:bD LG ax w0 S0 o0 w S ow
 sx:SX X w2 w
 f:F w S ow
 n:nq ow
 c7: ∀B,b7=some B-> ∃zs,zs.length=29∧fG w S ow B 78 zs
 c9: ∀B,b9=some B-> ∃zs,zs.length=8∧fG w S ow B 75 zs
 g7: ∀B,b7=some B->w2.heap.size<=B
 g9: ∀B,b9=some B->w2.heap.size<=B
 ne: ∀B,b7=some B->b9≠some B
def KK(w0:Tam)(S0:bz)(o0:Ow)(X:Tai)(w2:Tam)(F:Tam->bz->Ow->Prop)(m:Tab)(b7 b9:Tak)(a:Act)(w:Tam):Prop:= ∃S ow,KS w0 S0 o0 X w2 F m b7 b9 a w S ow
section
variable{w0 w2:Tam}{S0:bz}{o0:Ow}{X:Tai}{F:Tam->bz->Ow->Prop}{m:Tab}{b7 b9:Tak}{a a':Act}{w:Tam}{S:bz}{ow:Ow}{N:Act->Tae}{Q:HP}
def qH(h:SX X w2 w)(o:Obj):SX X w2 (w.alloc o):=
 ⟨aW h.1 (by simp),fun b c d=>(Below.heap_alloc w o b (av c h.1)).trans (h.2 b c d)⟩
def Gu(h:SX X w2 w){b:Nat}(f:w2.heap.size<=b)(r:Tbd Tan):SX X w2 (w.setRow b r):=
 ⟨aW h.1 (by simp),fun k d c=>(setRow_other w b k r (fun e=>by omega)).trans (h.2 k d c)⟩
def KS.afg(h:KS w0 S0 o0 X w2 F m none b9 a w S ow)(r: ∀w S ow o,Wf w S ow->F w S ow->F (w.alloc o) S ow)(j:Wf w0 S0 o0){zs:Tac}(q:zs.length=29)(k:Kn 359 a' ((15,az w.heap.size)::(L17 b9++m))):KS w0 S0 o0 X w2 F m (some w.heap.size) b9 a' (w.alloc (.cells zs.toArray 78)) S ow:=by
 have d:=bD.alloc h.wf (.cells zs.toArray 78);refine⟨k,d.2,h.st.Z j h.wf d.1 nE,qH h.sx _,r _ _ _ _ h.wf h.f,h.n,?_,fun B c=> ?_,?_,h.g9,?_⟩
 ·rintro B c;injection c with c;subst c;exact⟨zs,q,fG.new h.wf 78 zs⟩
 ·obtain⟨us,p,l⟩:=h.c9 B c;exact⟨us,p,l.J d.1 (fun h=>h)⟩
 ·rintro B c;injection c with c;subst c;exact h.sx.1
 ·rintro B c e;injection c with c;subst c;obtain⟨us,p,l⟩:=h.c9 _ e;exact Nat.lt_irrefl _ l.lt
def KS.aff(h:KS w0 S0 o0 X w2 F m b7 none a w S ow)(r: ∀w S ow o,Wf w S ow->F w S ow->F (w.alloc o) S ow)(j:Wf w0 S0 o0){zs:Tac}(q:zs.length=8)(k:Kn 359 a' ((17,az w.heap.size)::(L15 b7++m))):KS w0 S0 o0 X w2 F m b7 (some w.heap.size) a' (w.alloc (.cells zs.toArray 75)) S ow:=by
 have d:=bD.alloc h.wf (.cells zs.toArray 75);refine⟨?_,d.2,h.st.Z j h.wf d.1 nE,qH h.sx _,r _ _ _ _ h.wf h.f,h.n,fun B c=> ?_,?_,h.g7,?_,?_⟩
 ·cases b7 with
  |none=>exact k
  |some B=>exact Kn.swap k (fun e=>by cases e)
 ·obtain⟨us,p,l⟩:=h.c7 B c;exact⟨us,p,l.J d.1 (fun h=>h)⟩
 ·rintro B c;injection c with c;subst c;exact⟨zs,q,fG.new h.wf 75 zs⟩
 ·rintro B c;injection c with c;subst c;exact h.sx.1
 ·rintro B c e;injection e with e;subst e;obtain⟨us,p,l⟩:=h.c7 _ c;exact Nat.lt_irrefl _ l.lt
def CU(l: ∀w S ow o,Wf w S ow->F w S ow->F (w.alloc o) S ow)(c:Wf w0 S0 o0)(h:KK w0 S0 o0 X w2 F m none b9 a w)(j: ∀B a' d,KK w0 S0 o0 X w2 F m (some B) b9 a' d->N a' d):TL Try.prog (fI kG [13]) (NQ (fun a w=>SX X w2 w∧N a w) Q) (SX X w2) 0 [(some 15,.alloc 78,none)] [(some 15,.alloc 78,none)] 0 a w:=by obtain⟨S,ow,h⟩:=h;refine iV (nn:=29) h.kn (by decide) rfl (by decide) (by kernel_rfl) (fun e _=>qH h.sx _) fun e f a k=>ar ?_;exact⟨qH h.sx _,j _ _ _ ⟨S,ow,h.afg l c f k⟩⟩
def CT(l: ∀w S ow o,Wf w S ow->F w S ow->F (w.alloc o) S ow)(c:Wf w0 S0 o0)(h:KK w0 S0 o0 X w2 F m b7 none a w)(j: ∀B a' d,KK w0 S0 o0 X w2 F m b7 (some B) a' d->N a' d):TL Try.prog (fI kG [14]) (NQ (fun a w=>SX X w2 w∧N a w) Q) (SX X w2) 0 [(some 17,.alloc 75,none)] [(some 17,.alloc 75,none)] 0 a w:=by obtain⟨S,ow,h⟩:=h;refine iV (nn:=8) h.kn (by decide) rfl (by decide) (by kernel_rfl) (fun e _=>qH h.sx _) fun e f a k=>ar ?_;exact⟨qH h.sx _,j _ _ _ ⟨S,ow,h.aff l c f k⟩⟩
def I1:bC (fI kG [13])=[(some 15,.alloc 78,none)] :=by kernel_rfl
def I0:bC (fI kG [14])=[(some 17,.alloc 75,none)] :=by kernel_rfl
def IZ:bC (fI kG [8])=[oC 283 16 #[(.tmp 281),(.tmp 282)] #[52,44]] :=by kernel_rfl
def aa7:bC (fI kG [9,10,11,12])=[oM 274 283,(some 284,.extract (.tmp 274) 0,none),(some 285,.extract (.tmp 274) 1,none),(some 286,.extract (.tmp 274) 2,none)] :=by kernel_rfl
def aa8:bC (fI kG [15,16,17])=[oS 78 15 284,oA 16 285,oS 75 17 286] :=by kernel_rfl
def aa9:bC (fI kG [0,1,2,3,4,5,6,7])=[oM 275 0,oN 276 275,oF 277 59 276 1,oL 278 54 277,oM 279 4,oI 280 54 278 279,oL 281 52 280,oL 282 44 14] :=by kernel_rfl
def Gp{b:Nat}{ops:Tad}{j:Tae}{n i:Nat}{f:Tab}{r L:List OK}{x y:Tbb}{t T:Tba}{cur vs:Tac}(k:Kn n a f)(q:iv Try.prog t=some vs.length)(p:lH f x=some (az b))(o:lH f y=some (.agg vs.toArray))(d:fG w S ow b T cur)(l:cur.length=vs.length)(c: ∀v∈vs,v.oneCell'=true)(u:j (w.setRow b vs.toArray))(h: ∀a',Kn n a' f->TL Try.prog ops Q j 0 L r (i+1) a' (w.setRow b vs.toArray)):TL Try.prog ops Q j 0 L ((none,.store t x y,none)::r) i a w:=by
 have e:(cur.toArray.toList.take 0++vs++cur.toArray.toList.drop (0+vs.length))=vs:=by simp[<-l]
 refine jU (vs:=vs) (cur:=cur.toArray) (off:=0) k (aC _) rfl q p o rfl d.heap (by simp[l]) c ?_ ?_
 ·rw[e];exact fun _=>u
 ·rw[e];exact h
end
section
variable{w:Tam}{S:bz}{ow:Ow}{b b3 LF i:Nat}{vs us:Tac}{R:GR}{g:GS}{s:RS}{x:D}{Q:HP}{a:Act}
def WL(hQ:QP Q)(hn:nq ow)(h:kg w S ow b g)(hi:i<g.eX.length)(f1:i<100)(d0:g.bc.length<=5)(hx:Has uR x)(a8:Ok (bX g i) 20)(a6:fG w S ow LF 44 us)(d1:us.length=27)(d2:ca w S (.agg us.toArray) x)(k:Kn 359 a [(14,az LF),(4,.int .i64 (i:Int)),(3,az b3),(0,az b)])(L: ∀a W S' D b4 c,Kn 359 a [(17,az b4),(4,.int .i64 (i:Int)),(3,az b3),(0,az b)] ->bD LG ax w S ow W S' D->kg W S' D b (jh i (dT x (bX g i)).2 g)->nq D->
   fG W S' D b4 75 c->c.length=8->ca W S' (.agg c.toArray) (dT x (bX g i)).1.2.2->Has yJ (dT x (bX g i)).1.2.2->Q .normal a W):(Code.region 46 kG true).wp Try.prog Q a w:=by
 obtain⟨R,gm,Y,c6⟩:=h;have hs:g.eX[i]? =some (bX g i):=jG hi;generalize e8:bX g i=s at a8 L hs;have t:=gm.wf;have K:kG.size=18:=by kernel_rfl
 refine Rw (fun r=>ow r=some (1000+i)) mix fun w2 e2=> ?_;have E:=gm.O e2;have a5:=a6.O e2;have b6:bD LG ax w S ow w2 S ow:=bD.O e2 LG ax S ow;have s0:=SX.refl (fun r=>ow r=some (1000+i)) w2;have c4: ¬ow b=some (1000+i):=by rw[E.obj.ow];intro h;injection h with h;omega
 have c1: ¬ow LF=some (1000+i):=by rw[a6.ow];intro e;cases e
 obtain⟨bs,a0,f0,e7⟩:=E.eX i s hs;obtain⟨bl,e6,d8,d6,d5,b1⟩:=E.arr.elem (i:=i) (u:=az bs) (by rw[Y,ab,a0];rfl);have d7:i<(R.la.map az).length:=by rw[ak,Y,E.qF];exact hi
 have c2: ¬ow bl=some (1000+i):=by rw[d5];intro h;injection h with h;omega
 refine IK (p:=[0,1,2,3,4,5,6,7]) (p2:=[0,1,2,3,4,5,6,7]) (n0:=8) (by kernel_rfl) hQ aa9 rfl ?_
 repeat (first|refine sm k fun a k=> ?_|refine ld k (E.cell c4 rfl) fun a k=> ?_)
 rw[d8]at k;refine uN (el:=52) (sz:=1) k rfl rfl d7 fun a k=> ?_;refine kr (v:=az bs) k (by assumption) rfl (by decide) rfl (by kernel_rfl) (by kernel_rfl) (eF d6 c2 (by rw[bG];exact b1)) fun a k=> ?_;refine lN (vs:=us) k rfl d1 (fun w' c5 q v hv=>by rw[ao];exact a5.cell c1 hv w' c5) fun a k=> ?_;refine ar ⟨s0,?_⟩;have a7:ca w2 S (.agg us.toArray) x:=d2.keep (S':=S) (w':=w2) (fun _ _ h=>h) (fun b o _=>e2.cell _);let F0:Tam->bz->Ow->Prop:=fun w S D=>D=ow∧GM w S D b (R.cells g.bad) R g∧ca w S (.agg us.toArray) x;let F1:Tac->Tac->Tam->bz->Ow->Prop:=fun d c w S ow=>GM w S ow b (R.cells g.bad) R (jh i (dT x s).2 g)∧ca w S (.agg d.toArray) (dT x s).1.1∧ca w S (.agg c.toArray) (dT x s).1.2.2;have O: ∀w S ow o,Wf w S ow->F0 w S ow->F0 (w.alloc o) S ow:=fun w S ow o P h=>⟨h.1,h.2.1.J (bD.alloc P o).1 (bD.alloc P o).2,h.2.2.J (bD.alloc P o).1⟩;have M: ∀d c w S ow o,Wf w S ow->F1 d c w S ow->F1 d c (w.alloc o) S ow:=fun d c w S ow o P h=>⟨h.1.J (bD.alloc P o).1 (bD.alloc P o).2,h.2.1.J (bD.alloc P o).1,h.2.2.J (bD.alloc P o).1⟩;let m0:Tab:=[(281,az bs),(282,.agg us.toArray),(4,.int .i64 (i:Int)),(3,az b3),(0,az b)];let m1:Tac->Tac->Tab:=fun d c=> [(284,.agg d.toArray),(285,.int .i64 (dT x s).1.2.1),(286,.agg c.toArray),(4,.int .i64 (i:Int)),(3,az b3),(0,az b)];let J0:=KK w S ow (fun r=>ow r=some (1000+i)) w2 F0 m0;let J1:=fun d c=>KK w S ow (fun r=>ow r=some (1000+i)) w2 (F1 d c) (m1 d c);let A:=AT Try.prog kG Q (SX (fun r=>ow r=some (1000+i)) w2);have Z:J0 none none a w2:=⟨S,ow,k.sb,E.wf,b6,s0,⟨rfl,E,a7⟩,hn,(fun _ h=>by cases h),(fun _ h=>by cases h),(fun _ h=>by cases h),(fun _ h=>by cases h),(fun _ h=>by cases h)⟩;let C9:Tac->Tac->Prop:=fun d c=>d.length=29∧c.length=8∧(∀u∈d,u.oneCell'=true)∧(∀u∈c,u.oneCell'=true)∧Has dV (dT x s).1.1∧Has yJ (dT x s).1.2.2
 have J: ∀d c y B9 a w,C9 d c->J1 d c (some y) (some B9) a w->A [0,1,2,3,4,5,6,7,8,9,10,11,12,13,14] a w:=by rintro d c y B9 a w3 ⟨G,C,ho1,LD,hte,Pm⟩ ⟨S3,JU,h⟩;refine IK (p:=[15,16,17]) (p2:=[0,1,2,3,4,5,6,7,8,9,10,11,12,13,14,15,16,17]) (n0:=0) (by kernel_rfl) hQ aa8 rfl ?_;obtain⟨z7,c0,l7⟩:=h.c7 y rfl;obtain⟨z9,b8,l9⟩:=h.c9 B9 rfl;have b0:y≠B9:=fun e=>h.ne y rfl (by rw[e]);obtain⟨g1,r1,r2⟩:=h.f;obtain⟨sa,wa,la⟩:=l7.set (us:=d) h.wf;have a4:=l9.J sa (fun e=>b0 e.symm);obtain⟨sb,wb,lb⟩:=a4.set (us:=c) wa;have iu:=la.J sb b0;have x1:=Gu h.sx (h.g7 y rfl) d.toArray;have x2:=Gu x1 (h.g9 B9 rfl) c.toArray;refine Gp (vs:=d) h.kn (by rw[G];kernel_rfl) rfl rfl l7 (by rw[c0,G]) ho1 x1 fun a k=> ?_;refine wN k x1 rfl (by decide) rfl fun a k=> ?_;refine Gp (vs:=c) k (by rw[C];kernel_rfl) rfl rfl a4 (by rw[b8,C]) LD x2 fun a k=> ?_;refine ar ⟨x2,Jl (by rw[K];decide) (by kernel_rfl) ?_⟩;have T:=h.st.Z t h.wf sa (fun r e=>by rw[show r=y from e];rw[<-e2.heap];exact h.g7 y rfl);have b5:=T.Z t wa sb (fun r e=>by rw[show r=B9 from e];rw[<-e2.heap];exact h.g9 B9 rfl);have g2:=(g1.J sa wa).J sb wb;exact L _ _ _ _ B9 c (k.sb) b5 ⟨R,g2,Y,c6⟩ h.n lb C ((r2.J sa).J sb) Pm
 have a2: ∀d c y a w,C9 d c->J1 d c (some y) none a w->A [0,1,2,3,4,5,6,7,8,9,10,11,12,13] a w:=fun d c y a w H h=>
  IK (p:=[14]) (n0:=0) (by kernel_rfl) hQ I0 rfl (CT (M d c) t h fun B a w h=>J d c y B a w H h)
 have a1: ∀d c B9 a w,C9 d c->J1 d c none (some B9) a w->A [0,1,2,3,4,5,6,7,8,9,10,11,12,14] a w:=fun d c B9 a w H h=>
  IK (p:=[13]) (n0:=0) (by kernel_rfl) hQ I1 rfl (CU (M d c) t h fun B a w h=>ln (J d c B B9 a w H h) rfl (by kernel_rfl))
 have nC: ∀d c a w,C9 d c->J1 d c none none a w->A [0,1,2,3,4,5,6,7,8,9,10,11,12] a w:=by
  intro d c a w H h;refine pX (R:=[13,14]) (by rw[K];decide) (by kernel_rfl) (by decide) fun i hi=> ?_;simp only[aD,cu,or_false]at hi;rcases hi with rfl|rfl
  ·exact gV (by kernel_rfl) I1 (CU (M d c) t h fun B a w h=>a2 d c B a w H h)
  ·exact gV (by kernel_rfl) I0 (CT (M d c) t h fun B a w h=>a1 d c B a w H h)
 have call: ∀(p p2:Tah) b7 b9 a w,nY kG p [9,10,11,12] 4=true->p++[9,10,11,12] =p2->J0 b7 b9 a w->(∀d c a w,C9 d c->J1 d c b7 b9 a w->A p2 a w)->TL Try.prog (fI kG [8]) (NQ (fun a w=>SX (fun r=>ow r=some (1000+i)) w2 w∧A p a w) Q) (SX (fun r=>ow r=some (1000+i)) w2) 0 [oC 283 16 #[(.tmp 281),(.tmp 282)] #[52,44]] [oC 283 16 #[(.tmp 281),(.tmp 282)] #[52,44]] 0 a w:=by
  rintro p p2 b7 b9 a w3 hp d3 ⟨S3,JU,h⟩ hN;obtain⟨d4,g1,r1⟩:=h.f;obtain⟨f5,I,a9,-⟩:=g1.eX i s hs;rw[a0]at I;injection I with I;subst I;refine gH (vs:=[az bs,.agg us.toArray]) h.kn (by decide) rfl (by decide) c16.enter ?_ (KD a9 h.wf (by omega) hx r1 a8) ?_
  ·cases b7<;>cases b9<;>rfl
  rintro e9 w4 ⟨ve,vo,S4,TV,rfl,qQ,JZ,LY,⟨hre,hte⟩,Xv,Pm⟩
  have s4:SX (fun r=>ow r=some (1000+i)) w2 w4:=by
   refine⟨aW h.sx.1 qQ.size,fun r hb hx=> ?_⟩;refine Eq.trans ?_ (h.sx.2 r hb hx);have b2:=av hb h.sx.1;have e5:r<w.heap.size:=by rw[<-e2.heap];exact hb
   cases ho:JU r with
   |none=>exact qQ.free r b2 ho (fun h=>h)
   |some l=>
    refine qQ.F3 r l b2 ho (fun hl=>hx ?_);have hl:l=1000+i:=hl;subst hl;rw[<-d4];exact ho
  refine⟨_,rfl,fun h=>absurd rfl h,fun a k=>ar ⟨s4,?_⟩⟩;obtain⟨d,de,rfl,f3,G,e1,e4,-,V⟩:=L7 hre hte rfl;obtain⟨c,f4,rfl,f2,C,e0,e3,-,U⟩:=L7 Xv Pm rfl;refine IK hp hQ aa7 d3 ?_;refine sm k fun a k=> ?_;refine pW (j:=0) k (by assumption) rfl (by decide) rfl rfl fun a k=> ?_;refine pW (j:=1) k (by assumption) rfl (by decide) rfl rfl fun a k=> ?_;refine pW (j:=2) k (by assumption) rfl (by decide) rfl rfl fun a k=> ?_;refine ar ⟨s4,hN d c a w4 ⟨G,C,V,U,hte,Pm⟩ ?_⟩;have T:=h.st.eY t h.wf qQ (.inr (by omega));have d9:=g1.ua (i:=i) (s':=(dT x s).2) qQ JZ hi a0 LY (fF LY) d0;refine⟨S4,TV,?_,JZ,T,s4,⟨d9,hre,Xv⟩,h.n.J qQ (fun l hl=>by simp only[iE]at hl;subst hl;exact .inr (by omega)),fun B hB=> ?_,fun B hB=> ?_,h.g7,h.g9,h.ne⟩
  ·cases b7<;>cases b9<;>exact k.sub ⟨rfl,rfl,rfl,rfl,rfl,rfl,by repeat constructor⟩
  ·obtain⟨z,h1,h2⟩:=h.c7 B hB;exact⟨z,h1,h2.J qQ id⟩
  ·obtain⟨z,h1,h2⟩:=h.c9 B hB;exact⟨z,h1,h2.J qQ id⟩
 have a3: ∀y B9 a w,J0 (some y) (some B9) a w->A [0,1,2,3,4,5,6,7,13,14] a w:=fun y B9 a w h=>
  IK (p:=[8]) (n0:=0) (by kernel_rfl) hQ IZ rfl (call _ _ _ _ _ _ (by kernel_rfl) rfl h fun d c a w H h=>ln (J d c y B9 a w H h) rfl (by kernel_rfl))
 have nA: ∀y a w,J0 (some y) none a w->A [0,1,2,3,4,5,6,7,13] a w:=by
  intro y a w h;refine pX (R:=[8,14]) (by rw[K];decide) (by kernel_rfl) (by decide) fun i hi=> ?_;simp only[aD,cu,or_false]at hi;rcases hi with rfl|rfl
  ·exact gV (by kernel_rfl) IZ (call _ _ _ _ _ _ (by kernel_rfl) rfl h fun d c a w H h=>ln (a2 d c y a w H h) rfl (by kernel_rfl))
  ·exact gV (by kernel_rfl) I0 (CT O t h fun B a w h=>a3 y B a w h)
 have nB: ∀B9 a w,J0 none (some B9) a w->A [0,1,2,3,4,5,6,7,14] a w:=by
  intro B9 a w h;refine pX (R:=[8,13]) (by rw[K];decide) (by kernel_rfl) (by decide) fun i hi=> ?_;simp only[aD,cu,or_false]at hi;rcases hi with rfl|rfl
  ·exact gV (by kernel_rfl) IZ (call _ _ _ _ _ _ (by kernel_rfl) rfl h fun d c a w H h=>ln (a1 d c B9 a w H h) rfl (by kernel_rfl))
  ·exact gV (by kernel_rfl) I1 (CU O t h fun B a w h=>ln (a3 B B9 a w h) rfl (by kernel_rfl))
 refine pX (R:=[8,13,14]) (by rw[K];decide) (by kernel_rfl) (by decide) fun i hi=> ?_;simp only[aD,cu,or_false]at hi;rcases hi with rfl|rfl|rfl
 ·exact gV (by kernel_rfl) IZ (call _ _ _ _ _ _ (by kernel_rfl) rfl Z fun d c a w H h=>nC d c a w H h)
 ·exact gV (by kernel_rfl) I1 (CU O t Z fun B a w h=>nA B a w h)
 ·exact gV (by kernel_rfl) I0 (CT O t Z fun B a w h=>nB B a w h)
end
def zR: ∀{ts:Tal} {l:Taf} {i:Nat} {t:Ty} {d:D},dn (.V ts) l->ts[i]? =some t->Has t d->dn (.V ts) (l.set i d)
 | [],_,_,_,_,_,h,_=>by cases h
 |_::ts,l,0,t,d,hl,h,hd=>by obtain⟨x,r,rfl,_,e⟩:=ag.1 (show dn (.cons _ (.V ts)) l from hl);injection h with h;subst h;exact ag.2 ⟨_,_,rfl,hd,e⟩
 |_::ts,l,i+1,t,d,hl,h,hd=>by obtain⟨x,r,rfl,f,e⟩:=ag.1 (show dn (.cons _ (.V ts)) l from hl);exact ag.2 ⟨_,_,rfl,f,zR e h hd⟩
def Bh(c:Int):Tac:=((ny.drop 2).set 0 (.int .i64 3)).set 3 (.int .i64 c)
def Zy(c:Int):D:=.agg (((pT.cells.drop 2).set 0 (.int .i64 3)).set 3 (.int .i64 c))
def O4{c:Int}(j:jo .i64 c):Has uR (Zy c):=by
 obtain⟨l,f,h⟩:=dQ.1 Fb;have e:pT.cells=l:=by rw[f];rfl
 have d:dn (.V Bj) (l.drop 2):=tj (a:=[.int .i64,.int .i64]) (b:=Bj) h;rw[<-e]at d;exact dQ.2 ⟨_,rfl,zR (zR d (t:=.int .i64) rfl ⟨_,rfl,by decide⟩) (t:=.int .i64) rfl ⟨_,rfl,j⟩⟩
def O3{w:Tam}{S:bz}{c:Int}:ca w S (.agg (Bh c).toArray) (Zy c):=by
 refine .agg _ _ ?_ fun j u d e f=> ?_
 ·unfold Bh;rw[aM,aM,aM,aM];rfl
 ·unfold Bh at e;rw[bI]at e f;by_cases h:3=j
  ·subst h;rw[if_pos rfl]at e f;rw[if_pos (by rw[aM];decide)]at e f;injection e with e;injection f with f;subst e f;exact .int _ _
  rw[if_neg h]at e f;rw[bI]at e f;by_cases k:0=j
  ·subst k;rw[if_pos rfl,if_pos (by decide)]at e f;injection e with e;injection f with f;subst e f;exact .int _ _
  rw[if_neg k]at e f;rw[aE]at e f;exact Fa _ _ _ e f
def O2{c:Int}: ∀v∈Bh c,v.oneCell'=true:=by
 intro v d;rcases dS d with d|rfl
 ·rcases dS d with d|rfl
  ·have: ∀v∈ny.drop 2,v.oneCell'=true:=by decide
   exact this v d
  ·rfl
 ·rfl
def Ls{ts:Tal}{vs:Tac}{d:D}{w:Tam}{S:bz}(m:ts.all Ty.scalar=true)(r:Has (.agg (.V ts)) d)(o:ca w S (.agg vs.toArray) d)(t:vs.length=ts.length): ∀v∈vs,v.oneCell'=true:=by obtain⟨l,rfl,s⟩:=dQ.1 r;intro u k;obtain⟨q,j⟩:=aw k;have p:q<vs.length:=(aG.1 j).1;have e:ts[q]? =some (ts[q]'(by omega)):=aQ _;obtain⟨c,h,f⟩:=cI s q (ts[q]'(by omega)) (by rw[Ty.dq];exact e);exact(o.yM q j h).hZ f (bY.1 m _ (aF _))
noncomputable def Da:Code:=.seq (.region 46 kG true) (.region 47 G8 false)
noncomputable def zC:Code:=.seq (.region 43 Hb false) (.seq (.seq (.region 44 Ha false) (.cond (.tmp 271) (.region 45 G9 false) .skip)) Da)
section
variable{w w0 w':Tam}{S S0 S':bz}{ow ko bR:Ow}{b b3 LF i n K L:Nat}{N c op:Int}{g g':GS}{dv us:Tac}{x:D}{Q:HP}{a:Act}
def EP(J:QP Q)(h:DS w S ow b b3 dv n (L+28) N g)(hi:i<n)(D:fG w S ow LF 44 us)(F:us.length=27)(T:Has uR x)(H:ca w S (.agg us.toArray) x)(k:Kn 359 a [(14,az LF),(4,.int .i64 (i:Int)),(3,az b3),(0,az b)])(f: ∀a W S' bR g',Kn 359 a [(4,.int .i64 (i:Int)),(3,az b3),(0,az b)] ->bD LG ax w S ow W S' bR->kg W S' bR b g'->GI n L (N+1) g'->Q .normal a W):Da.wp Try.prog Q a w:=by
 have d:=h.gi;have V:=h.nN;have X:=h.n5;have l:=h.wf;obtain⟨P,O,Y,a4⟩:=d.get hi;obtain⟨p,r⟩:=d.PC hi (by omega) rfl (o:=(dT x (bX g i)).1.2.2) (s':=(dT x (bX g i)).2) ((K9 (x:=x) Y P (K:=L) (O.le (by omega))).mono (ba _) (bf _));unfold Da;refine wp_seq (WL (by exact J) h.Pa h.xW (by rw[d.n1];exact hi) (by omega) (by rw[d.len.bc];exact d.len.n5) T (O.ok P (by omega) (by omega)) D F H k ?_);intro a w1 Z B a0 M k A t I C u m G;refine rg ax J VZ ?_;intro R y;have s:=t.O y;have z:=A.W l t.wf y;have s0:=SX.refl ax R;have j:=C.O y
 repeat refine sm k fun a k=> ?_
 refine lN (vs:=M) k rfl u (fun w' E q v U=>by rw[ao];exact j.cell id U w' E) fun a k=> ?_;refine gH (vs:=[az b,.int .i64 (i:Int),.agg M.toArray,.bool false]) k (by decide) rfl (by decide) qk rfl (qg (g:=jh i (dT x (bX g i)).2 g) s I (m.J (bD.O y ax ax Z B)) G p) ?_;rintro e w5 ⟨S5,JT,rfl,qT,LM⟩;refine⟨_,rfl,fun h=>absurd rfl h,fun a k=> ?_⟩;exact ar (f _ _ S5 JT _ (k.sb) (jZ l s.wf z qT nE) LM r)
def KC(J:QP Q)(h:DS w S ow b b3 dv n (L+28) N g)(hi:i<n)(a6:dv.length=76)(hc:dv[11]? =some (.int .i64 c))(a7:jo .i64 c)(a5:dv[49]? =some (.int .i64 op))(hx:Has uR x)(a4:ca w S (.agg (dv.drop 49).toArray) x)(k:Kn 359 a [(4,.int .i64 (i:Int)),(3,az b3),(0,az b)])(m: ∀a W S' bR g',Kn 359 a [(4,.int .i64 (i:Int)),(3,az b3),(0,az b)] ->bD LG ax w S ow W S' bR->kg W S' bR b g'->GI n L (N+1) g'->Q .normal a W):zC.wp Try.prog Q a w:=by
 have d:=h.wf;unfold zC;refine wp_seq (rg ax J V2 ?_);intro u X;have C:=h.O X;have z:=(bD.refl LG ax w S ow).W d d X;have s0:=SX.refl ax u
 repeat (first|refine sm k fun a k=> ?_|refine ld k (C.lx.cell id hc) fun a k=> ?_)
 refine my (ps:=[(0,.int .i64 c)]) (vs:=((ny.drop 5).take 7).set 0 (.int .i64 c)) k (by assumption) rfl (by decide) rfl (by kernel_rfl) fun a k=> ?_;refine my (ps:=[(0,.int .i64 3),(3,.agg (((ny.drop 5).take 7).set 0 (.int .i64 c)).toArray)]) (vs:=Bh c) k (by assumption) rfl (by decide) rfl (by kernel_rfl) fun a k=> ?_;refine iV (nn:=27) k (by decide) rfl (by decide) (by kernel_rfl) (fun Y _=>SX.alloc _ _ _) fun Y a1 a k=> ?_;have p:(Bh c).length=27:=by unfold Bh;rw[aM,aM];rfl
 refine jU (vs:=Bh c) (cur:=Y.toArray) k (by decide) rfl (by rw[p];kernel_rfl) rfl rfl rfl (heap_alloc_new u _) (by rw[bH];omega) O2 (fun h=>absurd rfl h) fun a k=> ?_;refine ar ?_;rw[fill_eq a1 p];obtain⟨o,F,A⟩:=jf (T:=44) (zs:=Y) (us:=Bh c) C.wf;have h8:w.heap.size<=u.heap.size:=z.size;have P:=C.Pw o F (fun e=>by have:=C.lx.lt;rw[show b3=u.heap.size from e]at this;omega);have oT:=z.Z d C.wf o (fun bb hb=>by rw[show bb=_ from hb];exact h8);have j:=(a4.J (bD.O X ax ax S ow)).J o;have I:b3≠u.heap.size:=fun e=>by have:=C.lx.lt;rw[e]at this;omega
 generalize a9:u.heap.size=LF at k A P oT j h8 I⊢;generalize a8:(u.alloc _).setRow LF _=w7 at A P oT j⊢;have k:=k.sb (l:=[(14,az LF),(4,.int .i64 (i:Int)),(3,az b3),(0,az b)]);clear o F a8 s0 z X C;refine wp_seq (wp_seq (rg ax J V1 ?_));intro w2 V;have O:=P.O V;have D:=oT.W d P.wf V;have s:=A.O V;have G:=j.J (bD.O V ax ax S ow);have s0:=SX.refl ax w2
 repeat (first|refine sm k fun a k=> ?_|refine ld k (O.lx.cell id a5) fun a k=> ?_)
 refine cm (c:=decide (op=2)) k rfl rfl rfl fun a k=> ?_;refine ar (aV k rfl ?_);have k:=k.sb (l:=[(14,az LF),(4,.int .i64 (i:Int)),(3,az b3),(0,az b)]);by_cases M:op=2
 ·rw[if_pos (by simpa using M)];refine rg ax J V0 ?_;intro w3 U;have R:=O.O U;have a0:=D.W d O.wf U;have r:=s.O U;have t:=G.J (bD.O U ax ax S ow);have s0:=SX.refl ax w3;have f:(dv.drop 49).length=27:=by rw[aX,a6]
  have H:=Ls (ts:=Bj) (by decide) hx t (by rw[f];rfl)
  repeat refine sm k fun a k=> ?_
  refine lN (vs:=dv.drop 49) k rfl f (fun w' a3 q v hv=>by rw[aE]at hv;exact R.lx.cell id hv w' a3) fun a k=> ?_
  obtain⟨y,a2,E⟩:=r.set (us:=dv.drop 49) R.wf;refine jU (vs:=dv.drop 49) (cur:=(Bh c).toArray) k (by decide) rfl (by rw[f];kernel_rfl) rfl rfl rfl r.heap (by rw[bH];omega) H (fun h=>absurd rfl h) fun a k=> ?_;refine ar ?_;rw[fill_eq p f];have h4:=R.Pw y a2 I;have Z:=a0.Z d R.wf y (fun bb hb=>by rw[show bb=_ from hb];exact h8);refine EP J h4 hi E f hx (t.J y) (k.sb) ?_;intro a W S' bR g' k st hg B;exact m a W S' bR g' k (jZ d h4.wf Z st nE) hg B
 ·rw[if_neg (by simpa using M)];refine wp_skip ?_;refine EP J O hi s p (O4 a7) O3 k ?_;intro a W S' bR g' k st hg B;exact m a W S' bR g' k (jZ d O.wf D st nE) hg B
end
end Go.Proofs.Ytjhmkaninmgilaa
namespace Go.Proofs.Ytjhmkaninmgilaa
open Go Go.RowKit Go.dI Go.Proofs
variable{C M K:Nat}{N:Int}{z s t:RS}{x:Int}{y:Taf}
def H8{k:Nat}(h:cJ C M s k)(r: ∀e∈s.le,Has dV e)(H:x<=9223372036854775807): ∃a b,tD x s= .agg [.list a,.list b] :=by
 obtain⟨S,R⟩:=h.li;unfold tD rG;refine ib (fun a:Int×Taf×Taf=>a.1<=9223372036854775807) (fun d:D=> ∃a b,d= .agg [.list a,.list b]) (fun a=>(a.1-s.li).toNat) ?_ _ _ H (cY _);intro a T
 have e:nJ s (gF s.li s.lt s.le) a.1 a.2.1 a.2.2=if decide (a.1>s.li) then
   (if(decide (((dP s.li s.lt s.le a.1 1).length:Int)=1))&&((cD 2 ((dP s.li s.lt s.le a.1 1).getD 0 .top)).q==2) then .inr (aJ 2 (D.agg ((((dP s.li s.lt s.le a.1 1).getD 0 .top).A.drop 27).take 2)) [])
    else .inl (IntKind.wrap .i64 (a.1-1),a.2.1,a.2.2)) else .inr (mB s (gF s.li s.lt s.le)):=rfl
 rw[e];by_cases g:decide (a.1>s.li)=true
 ·rw[if_pos g];rw[bk]at g;generalize A:((decide (((dP s.li s.lt s.le a.1 1).length:Int)=1))&&((cD 2 ((dP s.li s.lt s.le a.1 1).getD 0 .top)).q==2))=c;cases c with
  |true=>
   simp only[aS,bk,beq_iff_eq]at A;obtain⟨P,O⟩:=A;have J:(dP s.li s.lt s.le a.1 1).length=1:=by omega
   obtain⟨y,w⟩:=bJ.1 J;have I:y∈s.le:=sX (i:=s.li) (f:=a.1) (m:=1) (by show y∈dP s.li s.lt s.le a.1 1;rw[w];simp);obtain⟨l,rfl,B⟩:=dQ.1 (r y I);obtain⟨G,v,⟨q,o,_⟩⟩:=cI B 27 (.list I6) (by rw[Ty.dq];rfl);obtain⟨F,u,⟨p,n,_⟩⟩:=cI B 28 (.list I6) (by rw[Ty.dq];rfl);subst o n;refine⟨q,p,?_⟩;rw[w]
   have e: ∀j,j<2->((l.drop 27).take 2).getD j .top=l.getD (27+j) .top:=by intro j L;rw[aj,aj,ay,if_pos L,aE]
   show D.agg [((l.drop 27).take 2).getD 0 .top,((l.drop 27).take 2).getD 1 .top] =_;rw[e 0 (by omega),e 1 (by omega),aj,aj,v,u];rfl
  |false=>
   show IntKind.wrap .i64 (a.1-1)<=_∧(IntKind.wrap .i64 (a.1-1)-s.li).toNat<_;rw[wrap64 (by omega) (by omega)];exact⟨by omega,by omega⟩
 ·rw[if_neg g];show∃_ _,mB s (gF s.li s.lt s.le)=_;have Q:mB s (gF s.li s.lt s.le)=if decide (s.li>0) then aJ 2 (D.agg [.list s.sv,.list s.sl]) [] else aJ 2 (D.agg [.list s.fv,.list s.fl]) [] :=rfl
  rw[Q];by_cases E:decide (s.li>0)=true
  ·rw[if_pos E];exact⟨_,_,rfl⟩
  ·rw[if_neg E];exact⟨_,_,rfl⟩
def La(h:Bs N s)(i:Idle s)(k:cJ C M s K)(q: ∀e∈s.le,Has dV e):Good C M K N s ((eP x y s).1.2,(eP x y s).2):=by
 have g:=h.inv i;unfold eP;dsimp only;by_cases o:((decide (((y:Taf).length:Int)<1))||(decide (((y:Taf).length:Int)>1048576)))=true
 ·rw[if_pos o];exact .done g k
 rw[if_neg o];by_cases f:decide (x>s.bF)=true
 ·rw[if_pos f];exact .done g k
 rw[if_neg f];by_cases b:decide (x<=(gF s.li s.lt s.le).1)=true
 ·rw[if_pos b];exact .done g k
 rw[if_neg b];rw[bk]at f b;have b: ¬x<=s.li:=b;obtain⟨O,A⟩:=k.li;have v:=h.F2;simp only[MX]at A;obtain⟨I,H,n⟩:=H8 (x:=x) k q (by omega);have d:=BY (x:=x) k (by omega);rw[n]at d⊢
 have m:1<=y.length∧y.length<=1048576:=by simp only[dt,not_or,bk]at o;omega
 have p:=EE (i:=s.li) (t:=s.lt) (l:=s.le) (k:=x) (by omega) (by omega);obtain⟨L,J,w⟩:=ku p;obtain⟨_,B⟩:=eH.1 k.may
 have u:1<=(gC s.li s.lt s.le x).1:=by
  have j:(x-s.li-1).toNat<s.le.length:=by omega
  unfold gC;rw[if_neg (by omega),if_neg (by omega),aQ j];exact h.pos _ (aF j)
 have G:hU s.li s.lt s.le x=(xn s.li s.le x,x,(gC s.li s.lt s.le x).1,s.le.drop (x-s.li).toNat):=by unfold hU jk;rw[if_neg (by omega)]
 have r:(x,(gC s.li s.lt s.le x).1,s.le.drop (x-s.li).toNat)=jk s.li s.lt s.le x:=by unfold jk;rw[if_neg (by omega)]
 have F:(ij s.li s.lt s.le x).1=(gC s.li s.lt s.le x).1:=rfl;rw[G,F];dsimp only;refine .done (t:=eU _) ?_ ?_
 ·refine⟨⟨⟨rfl,rfl⟩,⟨fun e=> ?_,fun e=> ?_⟩,⟨?_,?_⟩,fun _=>m,h.O8,?_,h.qP,?_,?_⟩,.inr ⟨rfl,i.Kc,rfl,.inr ?_⟩,fun a=>absurd (show true=false from a) (by decide),g.msg,g.J3⟩
  ·have e:x=0:=e;omega
  ·have e:(gC s.li s.lt s.le x).1=0:=e;omega
  ·show x<=s.bF;omega
  ·show s.bF<=x+((s.le.drop (x-s.li).toNat).length:Int);rw[aX];omega
  ·show eM (gC s.li s.lt s.le x).1 (s.le.drop (x-s.li).toNat)<=s.term;rw[w,Ay];exact h.Pb
  ·show x+((s.le.drop (x-s.li).toNat).length:Int)<=N;have:=h.top;rw[aX];omega
  ·intro e E;exact h.pos e (cG (show e∈s.le.drop _ from E))
  ·show wG s.le x=s.le.drop (x-s.li).toNat;exact Ax B (by omega) (by omega)
 ·refine cJ.saved (k.Mf (bf _) (c:=x) r ?_ ⟨rfl,rfl,rfl,rfl,rfl,rfl,rfl,rfl,rfl⟩);exact d
noncomputable def Rk:VC:=nt Try.prog UG [(13,{drop:=[9000000013]})] s18 Try.f18
attribute [irreducible] Rk
def Y2(x:Int)(y:Taf)(s:RS):Prop:=
 (True)∧(
 let a:=(gF s.li s.lt s.le)
 (True)∧((((decide (((y:Taf).length:Int)<1))||(decide (((y:Taf).length:Int)>1048576)))=false->
  (True)∧((decide (x>s.bF)=false->
   (True)∧((decide (x<=a.1)=false->
    ((true=true->Ok s 0))∧(
    let c:=(tD x s)
    ((true=true->eV s.li s.lt s.le=true))∧(
    let b:=(ij s.li s.lt s.le x)
    ((true=true->eV s.li s.lt s.le=true))∧(
    True))))))))))
def Qj(x:Int)(y:Taf)(s:RS)(h:Ok s 0):Y2 x y s:=by
 unfold Y2
 (repeat' (first|exact trivial|apply And.intro|intro _))
 all_goals first
  |exact h
  |exact h.may
def c18:bj Try.prog 18 s18 (fun a=>Ok (ic (a.drop 2)) 0) (fun a=>Sv (eP (a.getD 0 .top).q (a.getD 1 .top).A (ic (a.drop 2)))):=by refine hP (given:=[(13,{drop:=[9000000013]})]) mix TK Try.func18 rfl (by kernel_rfl) (v:=Rk) (by kernel_rfl) ?_;intro a h d;obtain⟨_,_,rfl,⟨x,rfl,g⟩,e⟩:=ag.1 h;obtain⟨_,_,rfl,⟨y,rfl,f,c⟩,b⟩:=ag.1 e;have i:=b;obtain⟨s,rfl⟩:=fW b;refine zH abE Sv ((0,.top),dK) (y:=eP x y s) (zE (Qj x y s d))
attribute [local irreducible] TL
def OZ{w:Tam}{S:bz}{ow:Ow}{us:Tac}{ds:Taf}{T:Tba}(t:Wf w S ow)(m:us.length=ds.length)(z: ∀d∈ds,d.cells.length=1)(q:ds≠ [])(x: ∀(i:Nat) u d,us[i]? =some u->ds[i]? =some d->ca w S u d)(y: ∀d∈ds,d.cells=[d]):
  ∃r,bD ax ax w S ow (w.alloc (.cells us.toArray T)) r ow∧Wf (w.alloc (.cells us.toArray T)) r ow∧ca (w.alloc (.cells us.toArray T)) r (.slice (some ⟨w.heap.size,0,none⟩) ds.length ds.length) (.list ds):=by
 obtain⟨f,g⟩:=bD.alloc t (.cells us.toArray T);have p:=fG.new t T us;refine⟨fun b o=>S b o∨b=w.heap.size,⟨f.size,f.os,f.tape,f.output,f.F3,f.free,fun _ _ h=>.inl h,f.cell,f.keep,fun b o h=>h.imp id (fun e=>.inl (by omega)),f.tL,f.iu⟩,⟨fun b o h=>h.elim (g.s b o) (fun e=>by rw[e];exact p.lt),g.o,fun b o l h m=>h.elim (fun h=>g.d b o l h m) (fun e=>by rw[e,p.ow]at m;cases m)⟩,?_⟩;refine .list w.heap.size 0 ds.length 1 us ds (by omega) q (bf _) (by omega) (fun i _=>.inr rfl) (fun i v k=>by rw[ao];exact jm p.heap k) (fun i d n=>z d (bU n)) ?_;intro i d j v c n a k;rw[y d (bU n)]at a
 match j,a with
 |0,a=>
  injection a with a;subst a;rw[bG,dM]at k;exact(x i v d k n).keep (fun _ _ h=>.inl h) f.cell
end Go.Proofs.Ytjhmkaninmgilaa
namespace Go.Proofs.Ytjhmkaninmgilaa
open Go Go.RowKit Go.dI Go.Proofs
attribute [local irreducible] TL AT
section
variable{w:Tam}{S:bz}{ow:Ow}{l b:Nat}{s:RS}
def DV{x:Int}{y:Taf}{u:Tan}(h:ke w S ow l (dC 0) b [cR s,cL s])(F:Wf w S ow)(A:1000<=l)(E:jo .i64 x)(o:Has (.list (.int .u8)) (.list y))(G:ca w S u (.list y))(z:Ok s 0):
  Calls Try.prog 18 #[.pointer (some ⟨b,0,none⟩),.int .i64 x,u] w fun e r=> ∃vo m f,e= .returned (.tuple [.int .i64 (eP x y s).1.1,vo].toArray)∧bD (iE l) ax w S ow r m f∧Wf r m f∧ke r m f l (dC 0) b [cR (eP x y s).2,cL (eP x y s).2] ∧
   ca r m vo (eP x y s).1.2∧Has yJ (eP x y s).1.2:=by
 have t:dn (.V s18.params) ([D.int .i64 x,.list y] ++[cR s,cL s].flatten):=ag.2 ⟨_,_,rfl,⟨_,rfl,E⟩,ag.2 ⟨_,_,rfl,o,fF h⟩⟩;refine(h.call (ob0:=dC 0) (vs:=[.int .i64 x,u]) (n:=2) c18 rfl rfl rfl rfl rfl rfl (by decide) (.inl (by decide)) rfl A F rfl rfl ?_ t z).mono ?_
 ·intro i v d g j
  match i,g,j with
  |0,g,j=>injection g with g;injection j with j;subst g j;exact .int _ _
  |1,g,j=>injection g with g;injection j with j;subst g j;exact G
 ·rintro e L ⟨v,m,f,τ,K,outs,rfl,a,Po,Pn,T4,Pp,kR⟩;replace a:D.eS [.eS [.int .i64 (eP x y s).1.1,(eP x y s).1.2],.agg (cR (eP x y s).2),.agg (cL (eP x y s).2)] = .eS (K::outs.map .agg):=a;injection a with a;have q:outs.length=2:=Po
  match outs,q with
  | [o1,o2],_=>
   simp only[cE,List.map_nil,ev,D.agg.injEq,and_true]at a;obtain⟨rfl,rfl,rfl⟩:=a;rcases kR with⟨c,hc,_⟩|⟨_,us,ds,rfl,k,hul,hdl,tJ⟩
   ·have H:(2:Nat)=1:=congrArg List.length hc;cases H
   injection k with k;subst k;have p:us.length=2:=hul
   match us,p with
   | [u1,u2],_=>
    have I:=qh (ts:=UJ) (τ:=τ) (.inl ⟨_,rfl,tJ 1 _ _ _ rfl rfl rfl⟩);have C:=tJ 0 _ _ _ rfl rfl rfl;unfold gl at C;simp only[ai,if_false]at C;obtain⟨y,o,B⟩:=C;injection o with o;subst o;have J:u1= .int .i64 (eP x _ s).1.1:=B.1.cn;subst J;exact⟨u2,m,f,rfl,Pn,T4,Pp,I⟩
end
def Lg{P:Tap}{w:Tam}{a:Act}{dst:Tak}{ty:Tba}{pos:String}{af:_}{gd:Tao (Nat×Bool)}{s d:Tba}{x:Tbb}{c k1 k:IntKind}{n:Int}(e:a.eval x= .int c n)(f:P.underlying s=some (.int k1))(g:P.underlying d=some (.int k)):
  (execOp a.eval ⟨dst,.convert s d x,ty,pos,af,gd⟩).run P w= .ok (.value (.int k (k.wrap n))) w:=by unfold execOp;simp only[e,convert];simp[run_underlying f,run_underlying g,Conv.intToInt]
def Kw(w:Tam)(p q r:Int):(Instr.buildSlice 27 3 #[(0,.int .u8 p),(1,.int .u8 q),(2,.int .u8 r)]).run Try.prog w= .ok (.slice (some ⟨w.heap.size,0,none⟩) 3 3) (w.alloc (.cells [Value.int .u8 p,.int .u8 q,.int .u8 r].toArray 5)):=by
 have h:Ep Try.prog 27 5 1=true:=by kernel_rfl
 unfold Ep at h;split at h
 ·rename_i e g;rw[aS,beq_iff_eq]at h;obtain⟨rfl,h⟩:=h;split at h
  ·rename_i c a;simp only[aS,beq_iff_eq,bk]at h;obtain⟨⟨⟨j,i⟩,m⟩,k⟩:=h;obtain⟨z,d⟩:=da.1 i;refine run_buildSlice w _ _ 3 _ _ c z g a d (by omega) (by omega) ?_;rw[j];generalize (fun x=>z.cells[x % z.cells.size]!)=f;rw[show Array.range (3*1)= #[0,1,2] from rfl];simp[Instr.fill,Value.cells]
  ·cases h
 ·cases h
def Od{Q:HP}{c:Tae}{ops:Tad}{n n0 i d t:Nat}{a:Act}{w:Tam}{m:Tab}{gd:Tao (Nat×Bool)}{e r:List OK}{p1 p2 p3:Int}(k:Kn n a m)(hi:n0<=i)(o:pL e m gd=some true)(p:d<n)(j:lk m t=some (.int .u8 p2))(q:r≠ [] ->c (w.alloc (.cells [Value.int .u8 p1,.int .u8 p2,.int .u8 p3].toArray 5)))(h: ∀f,Kn n f ((d,.slice (some ⟨w.heap.size,0,none⟩) 3 3)::m)->TL Try.prog ops Q c n0 e r (i+1) f (w.alloc (.cells [Value.int .u8 p1,.int .u8 p2,.int .u8 p3].toArray 5))):
  TL Try.prog ops Q c n0 e ((some d,.buildSlice 27 3 #[(0,.const (.int .u8 p1)),(1,.tmp t),(2,.const (.int .u8 p3))],gd)::r) i a w:=by
 refine nr k hi o p (fun B g C=>⟨_,_,?_,q,h⟩);have v:=Kw w p1 p2 p3;unfold execOp;simp only[bg]
 have u:(#[(0,Operand.const (.int .u8 p1)),(1,.tmp t),(2,.const (.int .u8 p3))] :Tbd (Nat×Tbb)).map (fun(i,x)=>(i,a.eval x))= #[(0,Value.int .u8 p1),(1,.int .u8 p2),(2,.int .u8 p3)] :=by have A:a.eval (.const (.int .u8 p1))= .int .u8 p1:=k.op rfl;have z:a.eval (.tmp t)= .int .u8 p2:=k.op j;have y:a.eval (.const (.int .u8 p3))= .int .u8 p3:=k.op rfl;simp[A,z,y]
 rw[u,v];rfl
def aa5:bC (fI gj [0,1,2,3,4,5,6,7,8,9,10,11,14,15,16,17])=[oM 302 0,oN 303 302,oF 304 59 303 1,oL 305 54 304,oM 306 4,oI 307 54 305 306,oL 308 52 307,oF 309 67 18 5,oL 310 3 309,oF 311 51 3 3,oF 312 49 311 4,oL 313 3 312,oF 316 51 3 3,oF 317 49 316 8,oL 318 3 317,(some 319,.convert 3 5 (.tmp 318),none)] :=by kernel_rfl
def IY:bC (fI gj [12])=[oC 314 8 #[(.tmp 313),(.const (.int .i64 6))] #[3,3]] :=by kernel_rfl
def aa6:bC (fI gj [13])=[oB 315 .add 3 310 314] :=by kernel_rfl
def IX:bC (fI gj [18])=[(some 320,.buildSlice 27 3 #[(0,.const (.int .u8 1)),(1,.tmp 319),(2,.const (.int .u8 3))],none)] :=by kernel_rfl
def El:bC (fI gj [23])=[(some 20,.alloc 75,none)] :=by kernel_rfl
def RF:bC (fI gj [19])=[oC 321 18 #[(.tmp 308),(.tmp 315),(.tmp 320)] #[52,3,27]] :=by kernel_rfl
def aa3:bC (fI gj [20,21,22])=[oM 301 321,(some 322,.extract (.tmp 301) 0,none),(some 323,.extract (.tmp 301) 1,none)] :=by kernel_rfl
def aa4:bC (fI gj [24,25])=[oA 19 322,oS 75 20 323] :=by kernel_rfl
def ZH:nY gj [] [0,1,2,3,4,5,6,7,8,9,10,11,14,15,16,17] 16=true:=by kernel_rfl
def ZO:Region.ready .any gj (iA gj.size [0,1,2,3,4,5,6,7,8,9,10,11,14,15,16,17])=[12,18,23] :=by kernel_rfl
def ZN:nY gj [0,1,2,3,4,5,6,7,8,9,10,11,14,15,16,17,12] [13] 1=true:=by kernel_rfl
def ZM:Region.ready .any gj (iA gj.size [0,1,2,3,4,5,6,7,8,9,10,11,14,15,16,17,12,13])=[18,23] :=by kernel_rfl
def ZL:Region.ready .any gj (iA gj.size [0,1,2,3,4,5,6,7,8,9,10,11,14,15,16,17,12,13,18])=[19,23] :=by kernel_rfl
def ZK:nY gj [0,1,2,3,4,5,6,7,8,9,10,11,14,15,16,17,12,13,18,19] [20,21,22] 3=true:=by kernel_rfl
def ZJ:nY gj [0,1,2,3,4,5,6,7,8,9,10,11,14,15,16,17,12,13,18,19,20,21,22] [23] 0=true:=by kernel_rfl
def ZI:nY gj [0,1,2,3,4,5,6,7,8,9,10,11,14,15,16,17,12,13,18,19,20,21,22,23] [24,25] 0=true:=by kernel_rfl
end Go.Proofs.Ytjhmkaninmgilaa
namespace Go.Proofs.Ytjhmkaninmgilaa
open Go Go.RowKit Go.dI Go.Proofs
attribute [local irreducible] TL AT
def Vg:Tak->Tab
 |none=> []
 |some B=> [(320,.slice (some ⟨B,0,none⟩) 3 3)]
def L8:Tak->Tab
 |none=> []
 |some B=> [(20,az B)]
structure CS(w0:Tam)(S0:bz)(o0:Ow)(X:Tai)(w2:Tam)(F:Tam->bz->Ow->Prop)(m:Tab)(yy:Taf)(bS bA:Tak)(a:Act)(w:Tam)(S:bz)(ow:Ow):Prop where
 kn:Kn 359 a (Vg bS++(L8 bA++m))
 wf:Wf w S ow
 st:bD LG ax w0 S0 o0 w S ow
 sx:SX X w2 w
 f:F w S ow
 n:nq ow
 cS: ∀B,bS=some B->ca w S (.slice (some ⟨B,0,none⟩) 3 3) (.list yy)
 cA: ∀B,bA=some B-> ∃zs,zs.length=8∧fG w S ow B 75 zs
 gA: ∀B,bA=some B->w2.heap.size<=B
def CC(w0:Tam)(S0:bz)(o0:Ow)(X:Tai)(w2:Tam)(F:Tam->bz->Ow->Prop)(m:Tab)(yy:Taf)(bS bA:Tak)(a:Act)(w:Tam):Prop:= ∃S ow,CS w0 S0 o0 X w2 F m yy bS bA a w S ow
section
variable{w0 w2:Tam}{S0:bz}{o0:Ow}{X:Tai}{F:Tam->bz->Ow->Prop}{m m':Tab}{yy:Taf}{bS bA:Tak}{a a':Act}{w w':Tam}{S S':bz}{ow:Ow}{N:Act->Tae}{Q:HP}
def Xk(F:Tam->bz->Ow->Prop):Prop:= ∀w S ow w' S',bD ax ax w S ow w' S' ow->Wf w' S' ow->F w S ow->F w' S' ow
def CS.go(h:CS w0 S0 o0 X w2 F m yy bS bA a w S ow)(p:Xk F)(j:Wf w0 S0 o0)(d:bD ax ax w S ow w' S' ow)(l:Wf w' S' ow)(k:Kn 359 a' (Vg bS++(L8 bA++m'))):CS w0 S0 o0 X w2 F m' yy bS bA a' w' S' ow:=
 ⟨k,l,h.st.Z j h.wf d nE,h.sx.trans (d.tu X),p _ _ _ _ _ d l h.f,h.n,fun B e=>(h.cS B e).J d,fun B e=>let ⟨o,r,q⟩:=h.cA B e;⟨o,r,q.J d id⟩,h.gA⟩
def CS.alA(h:CS w0 S0 o0 X w2 F m yy bS none a w S ow)(p:Xk F)(l:Wf w0 S0 o0){zs:Tac}(o:zs.length=8)(k:Kn 359 a' ((20,az w.heap.size)::(Vg bS++m))):CS w0 S0 o0 X w2 F m yy bS (some w.heap.size) a' (w.alloc (.cells zs.toArray 75)) S ow:=by
 have d:=bD.alloc h.wf (.cells zs.toArray 75);refine⟨?_,d.2,h.st.Z l h.wf d.1 nE,qH h.sx _,p _ _ _ _ _ d.1 d.2 h.f,h.n,fun B e=>(h.cS B e).J d.1,?_,?_⟩
 ·cases bS with
  |none=>exact k
  |some B=>exact Kn.swap k (fun e=>by cases e)
 ·rintro B j;injection j with j;subst j;exact⟨zs,o,fG.new h.wf 75 zs⟩
 ·rintro B j;injection j with j;subst j;exact h.sx.1
def L6(l:Xk F)(d:Wf w0 S0 o0)(h:CC w0 S0 o0 X w2 F m yy bS none a w)(j: ∀B a' w',CC w0 S0 o0 X w2 F m yy bS (some B) a' w'->N a' w'):TL Try.prog (fI gj [23]) (NQ (fun a w=>SX X w2 w∧N a w) Q) (SX X w2) 0 [(some 20,.alloc 75,none)] [(some 20,.alloc 75,none)] 0 a w:=by obtain⟨S,ow,h⟩:=h;refine iV (nn:=8) h.kn (by decide) rfl (by decide) (by kernel_rfl) (fun e _=>qH h.sx _) fun e f a k=>ar ?_;exact⟨qH h.sx _,j _ _ _ ⟨S,ow,h.alA l d f k⟩⟩
def PE{p:Int}(A:Xk F)(s:Wf w0 S0 o0)(r:yy=[.int .u8 1,.int .u8 p,.int .u8 3])(y:lk (L8 bA++m) 319=some (.int .u8 p))(h:CC w0 S0 o0 X w2 F m yy none bA a w)(z: ∀B a' w',CC w0 S0 o0 X w2 F m yy (some B) bA a' w'->N a' w'):TL Try.prog (fI gj [18]) (NQ (fun a w=>SX X w2 w∧N a w) Q) (SX X w2) 0 [(some 320,.buildSlice 27 3 #[(0,.const (.int .u8 1)),(1,.tmp 319),(2,.const (.int .u8 3))],none)] [(some 320,.buildSlice 27 3 #[(0,.const (.int .u8 1)),(1,.tmp 319),(2,.const (.int .u8 3))],none)] 0 a w:=by
 obtain⟨S,ow,h⟩:=h;refine Od h.kn (by decide) rfl (by decide) y (fun _=>qH h.sx _) fun a k=>ar ?_;refine⟨qH h.sx _,?_⟩
 obtain⟨G,o,q,t⟩:=OZ (us:=[Value.int .u8 1,.int .u8 p,.int .u8 3]) (ds:=[D.int .u8 1,.int .u8 p,.int .u8 3]) (T:=5) h.wf rfl (fun d j=>by
  simp only[aD,cu,or_false]at j;rcases j with rfl|rfl|rfl<;>rfl) (by simp) (fun i u d l j=>by
  match i,l,j with
  |0,l,j=>injection l with l;injection j with j;subst l j;exact .int _ _
  |1,l,j=>injection l with l;injection j with j;subst l j;exact .int _ _
  |2,l,j=>injection l with l;injection j with j;subst l j;exact .int _ _) (fun d j=>by simp only[aD,cu,or_false]at j;rcases j with rfl|rfl|rfl<;>rfl)
 refine z w.heap.size _ _ ⟨G,ow,k,q,h.st.Z s h.wf o nE,qH h.sx _,A _ _ _ _ _ o q h.f,h.n,?_,fun B e=>let ⟨x,E,C⟩:=h.cA B e;⟨x,E,C.J o id⟩,h.gA⟩;rintro B v;injection v with v;subst v;rw[r];exact t
end
section
variable{w:Tam}{S:bz}{ow:Ow}{b b3 b18 i:Nat}{dv sv:Tac}{R:GR}{g:GS}{c x7 u:Int}{Q:HP}{a:Act}
def tA(c:Int):Taf:=[.int .u8 1,.int .u8 (IntKind.u8.wrap c),.int .u8 3]
def WK(T:QP Q)(hn:nq ow)(h:kg w S ow b g)(hi:i<g.eX.length)(e6:i<100)(c7:g.bc.length<=5)(b1:Ok (bX g i) 0)(lx:fG w S ow b3 51 dv)(c5:dv[7]? =some (.int .i64 x7))(P:jo .i64 x7)(hc:dv[11]? =some (.int .i64 c))(a9:fG w S ow b18 67 sv)(c9:sv[6]? =some (.int .i64 u))(hu:0<=u∧u<=1099511627776)(k:Kn 359 a [(18,az b18),(4,.int .i64 (i:Int)),(3,az b3),(0,az b)])(M: ∀a W S' G b6 o,Kn 359 a [(20,az b6),(4,.int .i64 (i:Int)),(3,az b3),(0,az b)] ->bD LG ax w S ow W S' G->kg W S' G b (jh i (eP (u+gP x7 6) (tA c) (bX g i)).2 g)->nq G->
   fG W S' G b6 75 o->o.length=8->ca W S' (.agg o.toArray) (eP (u+gP x7 6) (tA c) (bX g i)).1.2->Has yJ (eP (u+gP x7 6) (tA c) (bX g i)).1.2->Q .normal a W):(Code.region 50 gj true).wp Try.prog Q a w:=by
 obtain⟨R,gm,a0,c6⟩:=h;have hs:g.eX[i]? =some (bX g i):=jG hi;generalize e4:bX g i=s at b1 M hs;have r:=gm.wf;have K:gj.size=26:=by kernel_rfl
 obtain⟨p0,p6⟩:=py (b:=6) P (by omega);refine Rw (fun q=>ow q=some (1000+i)) mix fun w2 e2=> ?_;have H:=gm.O e2;have a8:=a9.O e2;have a6:=lx.O e2;have b9:bD LG ax w S ow w2 S ow:=bD.O e2 LG ax S ow;have s0:=SX.refl (fun q=>ow q=some (1000+i)) w2;have c4: ¬ow b=some (1000+i):=by rw[H.obj.ow];intro h;injection h with h;omega
 have c1: ¬ow b18=some (1000+i):=by rw[a9.ow];intro e;cases e
 have b0: ¬ow b3=some (1000+i):=by rw[lx.ow];intro e;cases e
 obtain⟨bs,a2,e5,e3⟩:=H.eX i s hs;obtain⟨bl,e0,d4,d2,d1,b4⟩:=H.arr.elem (i:=i) (u:=az bs) (by rw[a0,ab,a2];rfl);have d3:i<(R.la.map az).length:=by rw[ak,a0,H.qF];exact hi
 have c2: ¬ow bl=some (1000+i):=by rw[d1];intro h;injection h with h;omega
 refine IK (p:=[0,1,2,3,4,5,6,7,8,9,10,11,14,15,16,17]) (p2:=[0,1,2,3,4,5,6,7,8,9,10,11,14,15,16,17]) (n0:=16) ZH T aa5 rfl ?_
 repeat (first|refine sm k fun a k=> ?_|refine ld k (H.cell c4 rfl) fun a k=> ?_)
 rw[d4]at k;refine uN (el:=52) (sz:=1) k rfl rfl d3 fun a k=> ?_;refine kr (v:=az bs) k (by assumption) rfl (by decide) rfl (by kernel_rfl) (by kernel_rfl) (eF d2 c2 (by rw[bG];exact b4)) fun a k=> ?_
 repeat (first|refine sm k fun a k=> ?_|refine ld k (a6.cell b0 hc) fun a k=> ?_|refine ld k (a6.cell b0 c5) fun a k=> ?_|refine ld k (a8.cell c1 c9) fun a k=> ?_)
 refine pv (v:=.int .u8 (IntKind.u8.wrap c)) k (by assumption) rfl (by decide) (fun ty e1 af w' _=>Lg (k1:=.i64) (k.op rfl) (by kernel_rfl) (by kernel_rfl)) fun a k=> ?_;refine ar ⟨s0,?_⟩;let F0:Tam->bz->Ow->Prop:=fun w S G=>G=ow∧GM w S G b (R.cells g.bad) R g;let F1:Tac->Tam->bz->Ow->Prop:=fun o w S ow=>GM w S ow b (R.cells g.bad) R (jh i (eP (u+gP x7 6) (tA c) s).2 g)∧ca w S (.agg o.toArray) (eP (u+gP x7 6) (tA c) s).1.2;have D:Xk F0:=fun w S ow w' S' st hw h=>⟨h.1,h.2.J st hw⟩;have d5: ∀o,Xk (F1 o):=fun o w S ow w' S' st hw h=>⟨h.1.J st hw,h.2.J st⟩;let m0:Tab:=[(308,az bs),(310,.int .i64 u),(313,.int .i64 x7),(319,.int .u8 (IntKind.u8.wrap c)),(4,.int .i64 (i:Int)),(3,az b3),(0,az b)];let mP:Tab:=[(308,az bs),(315,.int .i64 (u+gP x7 6)),(319,.int .u8 (IntKind.u8.wrap c)),(4,.int .i64 (i:Int)),(3,az b3),(0,az b)];let m1:Tac->Tab:=fun o=> [(322,.int .i64 (eP (u+gP x7 6) (tA c) s).1.1),(323,.agg o.toArray),(4,.int .i64 (i:Int)),(3,az b3),(0,az b)];let J0:=CC w S ow (fun q=>ow q=some (1000+i)) w2 F0 m0 (tA c);let JP:=CC w S ow (fun q=>ow q=some (1000+i)) w2 F0 mP (tA c);let J1:=fun o=>CC w S ow (fun q=>ow q=some (1000+i)) w2 (F1 o) (m1 o) (tA c);let A:=AT Try.prog gj Q (SX (fun q=>ow q=some (1000+i)) w2);have a1:J0 none none a w2:=⟨S,ow,k.sb,H.wf,b9,s0,⟨rfl,H⟩,hn,(fun _ h=>by cases h),(fun _ h=>by cases h),(fun _ h=>by cases h)⟩;let C9:Tac->Prop:=fun o=>o.length=8∧(∀u∈o,u.oneCell'=true)∧Has yJ (eP (u+gP x7 6) (tA c) s).1.2
 have O: ∀o t a w,C9 o->J1 o none (some t) a w->A [0,1,2,3,4,5,6,7,8,9,10,11,14,15,16,17,12,13,18,19,20,21,22,23] a w:=by rintro o t a w3 ⟨E,LD,Pm⟩ ⟨S3,JU,h⟩;refine IK (p:=[24,25]) (p2:=[0,1,2,3,4,5,6,7,8,9,10,11,14,15,16,17,12,13,18,19,20,21,22,23,24,25]) (n0:=0) ZI T aa4 rfl ?_;obtain⟨z9,c0,l9⟩:=h.cA t rfl;obtain⟨g1,r2⟩:=h.f;obtain⟨sb,wb,lb⟩:=l9.set (us:=o) h.wf;have x2:=Gu h.sx (h.gA t rfl) o.toArray;refine wN h.kn h.sx rfl (by decide) rfl fun a k=> ?_;refine Gp (vs:=o) k (by rw[E];kernel_rfl) rfl rfl l9 (by rw[c0,E]) LD x2 fun a k=> ?_;refine ar ⟨x2,Jl (by rw[K];decide) (by kernel_rfl) ?_⟩;have b7:=h.st.Z r h.wf sb (fun q e=>by rw[show q=t from e];rw[<-e2.heap];exact h.gA t rfl);have g2:=g1.J sb wb;exact M _ _ _ _ t o (k.sb) b7 ⟨R,g2,a0,c6⟩ h.n lb E (r2.J sb) Pm
 have nC: ∀o a w,C9 o->J1 o none none a w->A [0,1,2,3,4,5,6,7,8,9,10,11,14,15,16,17,12,13,18,19,20,21,22] a w:=fun o a w hc h=>
  IK (p:=[23]) (n0:=0) ZJ T El rfl (L6 (d5 o) r h fun B a w h=>O o B a w hc h)
 have call: ∀(p V:Tah) C bA a w,nY gj p [20,21,22] 3=true->p++[20,21,22] =V->JP (some C) bA a w->(∀o a w,C9 o->J1 o none bA a w->A V a w)->TL Try.prog (fI gj [19]) (NQ (fun a w=>SX (fun q=>ow q=some (1000+i)) w2 w∧A p a w) Q) (SX (fun q=>ow q=some (1000+i)) w2) 0 [oC 321 18 #[(.tmp 308),(.tmp 315),(.tmp 320)] #[52,3,27]] [oC 321 18 #[(.tmp 308),(.tmp 315),(.tmp 320)] #[52,3,27]] 0 a w:=by
  rintro p V C bA a w3 hp Y ⟨S3,JU,h⟩ hN;obtain⟨d0,g1⟩:=h.f;obtain⟨f0,J,b2,-⟩:=g1.eX i s hs;rw[a2]at J;injection J with J;subst J;refine gH (vs:=[az bs,.int .i64 (u+gP x7 6),.slice (some ⟨C,0,none⟩) 3 3]) h.kn (by decide) rfl (by decide) c18.enter ?_ (DV (x:=u+gP x7 6) (y:=tA c) b2 h.wf (by omega) (iC (by omega) (by omega)) ⟨_,rfl,⟨(by show(3:Nat)<=maxLen;decide),(by show 3*1<=_;decide)⟩,fun d hd=> ?_⟩ (h.cS C rfl) b1) ?_
  ·cases bA<;>rfl
  ·simp only[tA,aD,cu,or_false]at hd;rcases hd with rfl|rfl|rfl
   ·exact⟨_,rfl,by decide⟩
   ·exact⟨_,rfl,lu _ _⟩
   ·exact⟨_,rfl,by decide⟩
  rintro e9 w4 ⟨vo,S4,TV,rfl,qQ,JZ,LY,Xv,Pm⟩
  have U:SX (fun q=>ow q=some (1000+i)) w2 w4:=by
   refine⟨aW h.sx.1 qQ.size,fun q hb hx=> ?_⟩;refine Eq.trans ?_ (h.sx.2 q hb hx);have b5:=av hb h.sx.1;have d9:q<w.heap.size:=by rw[<-e2.heap];exact hb
   cases ho:JU q with
   |none=>exact qQ.free q b5 ho (fun h=>h)
   |some l=>
    refine qQ.F3 q l b5 ho (fun hl=>hx ?_);have hl:l=1000+i:=hl;subst hl;rw[<-d0];exact ho
  refine⟨_,rfl,fun h=>absurd rfl h,fun a k=>ar ⟨U,?_⟩⟩;obtain⟨o,e8,rfl,e7,E,d7,d8,-,Z⟩:=L7 Xv Pm rfl;refine IK hp T aa3 Y ?_;refine sm k fun a k=> ?_;refine pW (j:=0) k (by assumption) rfl (by decide) rfl rfl fun a k=> ?_;refine pW (j:=1) k (by assumption) rfl (by decide) rfl rfl fun a k=> ?_;refine ar ⟨U,hN o a w4 ⟨E,Z,Pm⟩ ?_⟩;have b8:=h.st.eY r h.wf qQ (.inr (by omega));have d6:=g1.ua (i:=i) (s':=(eP (u+gP x7 6) (tA c) s).2) qQ JZ hi a2 LY (fF LY) c7;refine⟨S4,TV,?_,JZ,b8,U,⟨d6,Xv⟩,h.n.J qQ (fun l hl=>by simp only[iE]at hl;subst hl;exact .inr (by omega)),fun B hB=>(by cases hB),fun B hB=> ?_,h.gA⟩
  ·cases bA<;>exact k.sub ⟨rfl,rfl,rfl,rfl,rfl,by repeat constructor⟩
  ·obtain⟨z,h1,h2⟩:=h.cA B hB;exact⟨z,h1,h2.J qQ id⟩
 have lS: ∀bA,lk (L8 bA++m0) 319=some (.int .u8 (IntKind.u8.wrap c)):=fun bA=>by cases bA<;>rfl
 have a7: ∀bA,lk (L8 bA++mP) 319=some (.int .u8 (IntKind.u8.wrap c)):=fun bA=>by cases bA<;>rfl
 have L: ∀C t a w,JP (some C) (some t) a w->A [0,1,2,3,4,5,6,7,8,9,10,11,14,15,16,17,12,13,18,23] a w:=fun C t a w h=>
  IK (p:=[19]) (n0:=0) (by kernel_rfl) T RF rfl (call _ _ _ _ _ _ (by kernel_rfl) rfl h fun o a w hc h=>ln (O o t a w hc h) rfl (by kernel_rfl))
 have a4: ∀C a w,JP (some C) none a w->A [0,1,2,3,4,5,6,7,8,9,10,11,14,15,16,17,12,13,18] a w:=by
  intro C a w h;refine pX (R:=[19,23]) (by rw[K];decide) ZL (by decide) fun i hi=> ?_;simp only[aD,cu,or_false]at hi;rcases hi with rfl|rfl
  ·exact gV (by kernel_rfl) RF (call _ _ _ _ _ _ ZK rfl h fun o a w hc h=>nC o a w hc h)
  ·exact gV (by kernel_rfl) El (L6 D r h fun B a w h=>L C B a w h)
 have a5: ∀t a w,JP none (some t) a w->A [0,1,2,3,4,5,6,7,8,9,10,11,14,15,16,17,12,13,23] a w:=fun t a w h=>
  IK (p:=[18]) (n0:=0) (by kernel_rfl) T IX rfl (PE D r rfl (a7 _) h fun B a w h=>ln (L B t a w h) rfl (by kernel_rfl))
 have nP: ∀a w,JP none none a w->A [0,1,2,3,4,5,6,7,8,9,10,11,14,15,16,17,12,13] a w:=by
  intro a w h;refine pX (R:=[18,23]) (by rw[K];decide) ZM (by decide) fun i hi=> ?_;simp only[aD,cu,or_false]at hi;rcases hi with rfl|rfl
  ·exact gV (by kernel_rfl) IX (PE D r rfl (a7 _) h fun B a w h=>a4 B a w h)
  ·exact gV (by kernel_rfl) El (L6 D r h fun B a w h=>a5 B a w h)
 have I: ∀(p V:Tah) bS bA a w,nY gj p [13] 1=true->p++[13] =V->J0 bS bA a w->(∀a w,JP bS bA a w->A V a w)->TL Try.prog (fI gj [12]) (NQ (fun a w=>SX (fun q=>ow q=some (1000+i)) w2 w∧A p a w) Q) (SX (fun q=>ow q=some (1000+i)) w2) 0 [oC 314 8 #[(.tmp 313),(.const (.int .i64 6))] #[3,3]] [oC 314 8 #[(.tmp 313),(.const (.int .i64 6))] #[3,3]] 0 a w:=by
  rintro p V bS bA a w3 hp Y ⟨S3,JU,h⟩ hN;refine gH (vs:=[.int .i64 x7,.int .i64 6]) h.kn (by decide) rfl (by decide) c8.enter ?_ (jS h.wf P (by decide) (by decide)) ?_
  ·cases bS<;>cases bA<;>rfl
  rintro e9 w4 ⟨rfl,qQ,JZ⟩;have U:=h.sx.trans (qQ.tu (fun q=>ow q=some (1000+i)));refine⟨_,rfl,fun h=>absurd rfl h,fun a k=>ar ⟨U,?_⟩⟩;refine IK hp T aa6 Y ?_;refine ik (s:=u+gP x7 6) k U rfl (by decide) ?_ rfl (wrap64 (by omega) (by omega)) fun a k=> ?_
  ·cases bS<;>cases bA<;>rfl
  refine ar ⟨U,hN a w4 ⟨S3,JU,h.go D r qQ JZ ?_⟩⟩;cases bS<;>cases bA<;>exact k.sub ⟨rfl,rfl,rfl,rfl,rfl,rfl,by repeat constructor⟩
 have a3: ∀C t a w,J0 (some C) (some t) a w->A [0,1,2,3,4,5,6,7,8,9,10,11,14,15,16,17,18,23] a w:=fun C t a w h=>
  IK (p:=[12]) (n0:=0) (by kernel_rfl) T IY rfl (I _ _ _ _ _ _ (by kernel_rfl) rfl h fun a w h=>ln (L C t a w h) rfl (by kernel_rfl))
 have nS: ∀C a w,J0 (some C) none a w->A [0,1,2,3,4,5,6,7,8,9,10,11,14,15,16,17,18] a w:=by
  intro C a w h;refine pX (R:=[12,23]) (by rw[K];decide) (by kernel_rfl) (by decide) fun i hi=> ?_;simp only[aD,cu,or_false]at hi;rcases hi with rfl|rfl
  ·exact gV (by kernel_rfl) IY (I _ _ _ _ _ _ (by kernel_rfl) rfl h fun a w h=>ln (a4 C a w h) rfl (by kernel_rfl))
  ·exact gV (by kernel_rfl) El (L6 D r h fun B a w h=>a3 C B a w h)
 have nA: ∀t a w,J0 none (some t) a w->A [0,1,2,3,4,5,6,7,8,9,10,11,14,15,16,17,23] a w:=by
  intro t a w h;refine pX (R:=[12,18]) (by rw[K];decide) (by kernel_rfl) (by decide) fun i hi=> ?_;simp only[aD,cu,or_false]at hi;rcases hi with rfl|rfl
  ·exact gV (by kernel_rfl) IY (I _ _ _ _ _ _ (by kernel_rfl) rfl h fun a w h=>ln (a5 t a w h) rfl (by kernel_rfl))
  ·exact gV (by kernel_rfl) IX (PE D r rfl (lS _) h fun B a w h=>ln (a3 B t a w h) rfl (by kernel_rfl))
 refine pX (R:=[12,18,23]) (by rw[K];decide) ZO (by decide) fun i hi=> ?_;simp only[aD,cu,or_false]at hi;rcases hi with rfl|rfl|rfl
 ·exact gV (by kernel_rfl) IY (I _ _ _ _ _ _ ZN rfl a1 fun a w h=>nP a w h)
 ·exact gV (by kernel_rfl) IX (PE D r rfl (lS _) a1 fun B a w h=>nS B a w h)
 ·exact gV (by kernel_rfl) El (L6 D r a1 fun B a w h=>nA B a w h)
end
noncomputable def z8:Code:=.seq (.region 49 G6 false) (.seq (.region 50 gj true) (.region 51 G5 false))
def Kx{s:RS}(h:dn (.V eR) (encS s)): ∀e∈s.le,Has dV e:=by obtain⟨x,d,q,rfl,_,f⟩:=cI h 53 (.list dV) (by rw[Ty.dq];rfl);have e:(encS s)[53]? =some (.list s.le):=rfl;rw[e]at d;injection d with d;injection d with d;rw[d];exact f
section
variable{w w0 w':Tam}{S S0 S':bz}{ow ko bR:Ow}{b b3 LF i n K L:Nat}{N c x7:Int}{g g':GS}{dv us:Tac}{Q:HP}{a:Act}
def Lm(hQ:QP Q)(h:DS w S ow b b3 dv n (L+28) N g)(hi:i<n)(b1:dv[7]? =some (.int .i64 x7))(C:jo .i64 x7)(hc:dv[11]? =some (.int .i64 c))(k:Kn 359 a [(4,.int .i64 (i:Int)),(3,az b3),(0,az b)])(s: ∀a W S' bR g',Kn 359 a [(4,.int .i64 (i:Int)),(3,az b3),(0,az b)] ->bD LG ax w S ow W S' bR->kg W S' bR b g'->GI n L (N+1) g'->Q .normal a W):z8.wp Try.prog Q a w:=by
 have j:=h.gi;have c9:=h.nN;have d0:=h.n5;have d:=h.wf;obtain⟨a1,Y,a3,a4⟩:=j.get hi;have x:i<g.eX.length:=by rw[j.n1];exact hi
 have hx:=jG x;obtain⟨l0,l1⟩:=Y.li;simp only[MX]at l1
 have b8: ∀e∈(bX g i).le,Has dV e:=by obtain⟨R,gm,t,b5⟩:=h.xW;obtain⟨X,P,H,E⟩:=gm.eX i _ hx;exact Kx E
 unfold z8;refine wp_seq (rg ax hQ VX ?_);intro w1 e1;have h1:=h.O e1;have a7:=(bD.refl LG ax w S ow).W d d e1;have s0:=SX.refl ax w1;obtain⟨R,f,t,b5⟩:=h1.xW;obtain⟨X,P,H,E⟩:=f.eX i _ hx;obtain⟨bl,d1,c5,c0,c7,b9⟩:=f.arr.elem (i:=i) (u:=az X) (by rw[t,ab,P];rfl);have c4:(R.la.map az).length=g.eX.length:=by rw[ak,t];exact f.qF
 repeat (first|refine sm k fun a k=> ?_|refine ld k (f.cell id rfl) fun a k=> ?_)
 rw[c5]at k;refine uN (el:=52) (sz:=1) k rfl rfl (by rw[c4];exact x) fun a k=> ?_;refine kr (v:=az X) k (by assumption) rfl (by decide) rfl (by kernel_rfl) (by kernel_rfl) (eF c0 (fun h=>h) (by rw[bG];exact b9)) fun a k=> ?_;refine gH (vs:=[az X]) k (by decide) rfl (by decide) Rf.enter rfl (kN H f.wf (Y.ok a1 (aC _) (by omega))) ?_;rintro e z ⟨A1,n1,c1,A2,n2,c2,rfl,-,mZ,uF⟩;refine⟨_,rfl,fun _=>mZ.tu _,fun a k=> ?_⟩;have h2:=h1.J5 mZ uF;have A:=a7.Z d h1.wf mZ nE;have s1:=mZ.tu ax;refine iV (nn:=9) k (by decide) rfl (by decide) (by kernel_rfl) (fun Z _=>s1.trans (SX.alloc _ _ _)) fun Z b0 a k=> ?_;refine jU (vs:=yG (bX g i) (.slice A1 n1 c1) (.slice A2 n2 c2)) k (by decide) rfl (by kernel_rfl) rfl rfl rfl (heap_alloc_new z _) (by show 0+9<=Z.toArray.size;rw[bH];omega) (by simp[yG,Value.oneCell']) (fun h=>absurd rfl h) fun a k=> ?_;refine ar ?_;have b4:(yG (bX g i) (.slice A1 n1 c1) (.slice A2 n2 c2)).length=9:=rfl;rw[fill_eq b0 b4];obtain⟨p,D,r⟩:=jf (T:=67) (zs:=Z) (us:=yG (bX g i) (.slice A1 n1 c1) (.slice A2 n2 c2)) uF;have h8:w.heap.size<=z.heap.size:=A.size;have y:=h2.Pw p D (fun e=>by have:=h2.lx.lt;rw[show b3=z.heap.size from e]at this;omega);have m:=A.Z d h2.wf p (fun bb hb=>by rw[show bb=_ from hb];exact h8);generalize c6:z.heap.size=U at k r y m⊢;generalize hW:(z.alloc _).setRow U _=w3 at r y m⊢;have k:=k.sb (l:=[(18,az U),(4,.int .i64 (i:Int)),(3,az b3),(0,az b)]);clear p D s0 s1 hW;obtain⟨G,I⟩:=y.gi.PC hi (by omega) rfl (o:=(eP ((bX g i).li+gP x7 6) (tA c) (bX g i)).1.2) (s':=(eP ((bX g i).li+gP x7 6) (tA c) (bX g i)).2) ((La a3 a1 Y b8).mono (by omega) (by omega));refine wp_seq (WK (by exact hQ) y.Pa y.xW x (by omega) (by rw[j.len.bc];exact j.len.n5) (Y.ok a1 (aC _) (by omega)) y.lx b1 C hc r (u:=(bX g i).li) rfl ⟨l0,by omega⟩ k ?_);intro a w4 S1 a8 d2 co k a6 M b7 a9 O F b6;have a0:=jZ d y.wf m a6 nE;refine rg ax hQ VW ?_;intro w5 V;have J:=M.O V;have a5:=a0.W d M.wf V;have s0:=SX.refl ax w5;have B:=a9.O V
 repeat refine sm k fun a k=> ?_
 refine lN (vs:=co) k rfl O (fun w' b2 q v hv=>by rw[ao];exact B.cell id hv w' b2) fun a k=> ?_;refine gH (vs:=[az b,.int .i64 (i:Int),.agg co.toArray,.bool false]) k (by decide) rfl (by decide) qk rfl (qg (g:=jh i (eP ((bX g i).li+gP x7 6) (tA c) (bX g i)).2 g) J b7 (F.J (bD.O V ax ax S1 a8)) b6 G) ?_;rintro e w6 ⟨S6,ow6,rfl,yj,hg6⟩;refine⟨_,rfl,fun h=>absurd rfl h,fun a k=> ?_⟩;exact ar (s _ _ S6 ow6 _ (k.sb) (jZ d J.wf a5 yj nE) hg6 I)
end
def gW(i:Nat)(g:GS):RS:=rh ((i+1:Nat):Int) g.fv g.fl (bX g i).term (bX g i).vote (bX g i).li (bX g i).lt (bX g i).sv (bX g i).sl (bX g i).aY (bX g i).le
def Q0{i t:Int}{l:Taf}(h:eV i t l=true):jB i t [] i t l=true∧(iS i t [] i t l).2=l:=by
 obtain⟨_,e⟩:=eH.1 h
 have d:jB i t [] i t l=true:=by unfold jB gC;rw[if_neg (by omega),if_pos rfl];simp[h]
 refine⟨d,?_⟩;unfold iS;rw[if_pos d];cases l with
 |nil=>rfl
 |cons x r=>
  obtain⟨f,_⟩:=iG.1 e;unfold re
  have:uO i t [] x=false:=by unfold uO gC;rw[if_neg (by omega),if_neg (by omega)];simp
  rw[this];simp
section
variable{w w0 w':Tam}{S S0 S':bz}{ow ko bR:Ow}{b b3 LF i n K L:Nat}{N c x7:Int}{g g':GS}{dv us:Tac}{Q:HP}{a:Act}
def qw:Idle (gW i g):=⟨rfl,rfl,rfl,rfl,rfl⟩
def GI.Zx(h:GI n K N g)(hi:i<n)(v:n<=5):cJ (G K) K (gW i g) K∧GI n K N (mo i (jh i (gW i g) g)):=by
 obtain⟨z,k,l,x⟩:=h.get hi;have q:i<g.eX.length:=by rw[h.n1];exact hi
 have r:cJ (G K) K (gW i g) K:=by
  refine⟨k.may,?_,?_,k.qV,?_,?_,?_,?_,?_,k.cs,k.cl,k.tm,k.tx,rfl⟩
  ·show(1:Int)<=((i+1:Nat):Int);omega
  ·show((i+1:Nat):Int)<=5;omega
  ·show 0+K<=K;omega
  ·show 0+K<=_;have:=k.ne;omega
  ·show 0+G K<=G K;omega
  ·show 0+K<=_;have:=k.nv;omega
  ·show fB (.agg [.list g.fv,.list g.fl])=true;rw[h.cf.1,h.cf.2];exact vI (by omega) v
 have u:Bs N (gW i g):=⟨⟨rfl,rfl⟩,l.zz,⟨ba _,by show(bX g i).li<=(bX g i).li+((bX g i).le.length:Int);omega⟩,l.gz,aC _,l.Pb,l.qP,l.top,l.pos⟩;refine⟨r,?_⟩;have e:(jh i (gW i g) g).eX.length=g.eX.length:=aM;have m:tZ (jh i (gW i g) g):=⟨by rw[e];exact h.len.n5,by rw[e];exact h.len.df,by rw[e];exact h.len.bc,by rw[e];exact h.len.saved,h.len.lead,h.len.vl⟩;obtain⟨f,o⟩:=Jv m i;generalize mo i (jh i (gW i g) g)=y at f o;refine⟨o,?_,?_,?_,?_,?_,?_,h.nn⟩
 ·rw[f.eX,e];exact h.n1
 ·rw[f.fv,f.fl];exact h.cf
 ·intro j s t;rw[f.eX]at t;rw[f.saved];have d:(g.eX.set i (gW i g))[j]? =some s:=t;rw[bI]at d;by_cases p:i=j
  ·subst p;rw[if_pos rfl,if_pos q]at d;injection d with d;subst d;exact⟨qw,r,u,x⟩
  ·rw[if_neg p]at d;exact h.eX j s d
 ·rw[f.eE];exact h.eE
 ·rw[f.eE];exact h.nl
 ·rw[f.told];exact h.told
def GM.Qs{R:GR}{vs:Tac}{X:Tai}{bs:Nat}{s':RS}(h:GM w S ow b vs R g)(d:bD (iE (1000+i)) X w S ow w' S' bR)(q:Wf w' S' bR)(hi:i<g.eX.length)(r:ke w' S' bR (1000+i) (dC 0) bs [cR s',cL s'])(k:dn (.V eR) (encS s'))(x:g.bc.length<=5):
  GM w' S' bR b vs {R with lb:=R.lb.set i bs} {g with eX:=g.eX.set i s'} where
 wf:=q
 obj:=h.obj.J d ct
 fv:=h.fv.J d
 fl:=h.fl.J d
 arr:=h.arr.J h.wf d ct
 qF:=by rw[aM,aM];exact h.qF
 eX:=fun j s e=>by
  have m:i<R.lb.length:=by rw[h.qF];exact hi
  rw[bI]at e;by_cases f:i=j
  ·subst f;rw[if_pos rfl,if_pos hi]at e;injection e with e;subst e;exact⟨bs,by rw[bI,if_pos rfl,if_pos m],r,k⟩
  ·rw[if_neg f]at e;obtain⟨u,p,o,t⟩:=h.eX j s e;exact⟨u,by rw[bI,if_neg f];exact p,o.J h.wf q d ct rfl,t⟩
 saved:=h.saved.J h.wf d ct
 eE:=h.eE.J h.wf d ct
 told:=h.told.J h.wf d ct
 bM:=h.bM.J h.wf d ct
 df:=h.df.J h.wf d ct
 read:=h.read.J h.wf d ct
 qP:=h.qP.J h.wf d ct
 xg:=h.xg
 oU:=fun j l e=>let ⟨v,p,o⟩:=h.oU j l e;⟨v,p,o.J h.wf d (by have y:j<g.bc.length:=(aG.1 e).1;simp only[iE];omega)⟩
def NZ{C M:Nat}{id:Int}{c0 c1 s4 s5 s6 s7:Tan}{s:RS}{l:Nat}(x:Wf w S ow)(m:1000<=l)(o:1<=id∧id<=5)(E:ca w S (.agg [c0,c1].toArray) (.agg [.list (Bb n),.list []]))(j:1<=n∧n<=5)(k:cJ C M s K)(d:Bs N s)(A:ca w S (.agg [.int .i64 s.term,.int .i64 s.vote,.int .i64 s.li,.int .i64 s.lt,s4,s5,s6,s7].toArray) (tw s))(f:Has iI (tw s)):
  Calls Try.prog 11 [.int .i64 id,.agg [c0,c1].toArray,.agg [.int .i64 s.term,.int .i64 s.vote,.int .i64 s.li,.int .i64 s.lt,s4,s5,s6,s7].toArray].toArray w fun e w'=> ∃b S' bR,e= .returned (.pointer (some ⟨b,0,none⟩))∧bD (iE l) ax w S ow w' S' bR∧Wf w' S' bR∧ke w' S' bR l (dC 0) b [cR (rh id (Bb n) [] s.term s.vote s.li s.lt s.sv s.sl s.aY s.le),cL (rh id (Bb n) [] s.term s.vote s.li s.lt s.sv s.sl s.aY s.le)] ∧w.heap.size<=b:=by
 obtain⟨F,p⟩:=Q0 k.may;obtain⟨h,D⟩:=eH.1 k.may;have B:MX=1099511627776:=rfl;have G:=d.qP;have z:=k.tm;have y:=k.tx;obtain⟨v,u,t,r⟩:=h
 have:=Au (l:=l) (id:=id) (term:=s.term) (vote:=s.vote) (li:=s.li) (lt:=s.lt) (fv:=Bb n) (fl:=[]) (sv:=s.sv) (sl:=s.sl) (sd:=s.aY) (es:=s.le) (c0:=c0) (c1:=c1) (s4:=s4) (s5:=s5) (s6:=s6) (s7:=s7) x m
  (by simp only[na,aS,bk];exact o) (iC (by omega) (by omega)) E (E7 j.2) (vI j.1 j.2) A f
  (by simp only[na,aS,bk];omega) (by simp only[na,aS,bk];omega) F k.cl (by rw[p];exact d.Pb) (by have:=k.qV;omega) (by rw[p];exact k.may) ⟨jv.2 ⟨v,u,t,r⟩,d.zz⟩ (iC (by omega) (by omega)) (iC (by omega) (by omega)) (fun q=>⟨k.cs q,d.gz q⟩)
 rw[p]at this;exact this
noncomputable def zX:Code:=.seq (.region 53 G0 true) (.seq (.seq (.region 54 GZ false) (.cond (.tmp 345) (.seq (.region 55 NW false) .ret) .skip)) (.seq (.region 56 GY false) (.region 57 GX false)))
def Ld(hQ:QP Q)(h:DS w S ow b b3 dv n K N g)(hi:i<n)(k:Kn 359 a [(4,.int .i64 (i:Int)),(3,az b3),(0,az b)])(F: ∀a W S' bR g',Kn 359 a [(4,.int .i64 (i:Int)),(3,az b3),(0,az b)] ->bD LG ax w S ow W S' bR->kg W S' bR b g'->GI n K N g'->Q .normal a W):zX.wp Try.prog Q a w:=by
 have f:=h.gi;have a7:=h.n5;have m:=h.wf;obtain⟨a1,a2,a3,a4⟩:=f.get hi;obtain⟨fk,d9⟩:=f.Zx hi a7;have B:i<g.eX.length:=by rw[f.n1];exact hi
 obtain⟨R,gm,a9,c2⟩:=h.xW;unfold zX;refine wp_seq (jj (n0:=13) (fun bb=>ow bb=some (1000+i)) mix (by exact hQ) VU (fun _=>by kernel_rfl) ?_);intro w8 e8;have d:=gm.O e8;have Y:=(bD.refl LG ax w S ow).W m m e8;have s0:=SX.refl (fun bb=>ow bb=some (1000+i)) w8;have D: ¬ow b=some (1000+i):=by rw[d.obj.ow];intro h;injection h with h;omega
 obtain⟨bt,e1,us,d6,d5,d0,a5,a6,t⟩:=d.saved.elem a4;have c4:=d.saved.all _ (bU a4);have r:us.length=8:=a5;have c5:iI.cells.length=8:=rfl;rw[c5]at a6;have b9: ¬ow bt=some (1000+i):=by rw[d0];intro h;injection h with h;omega
 have c6:i<g.saved.length:=(aG.1 a4).1
 repeat refine sm k fun a k=> ?_
 refine ik (s:=((i+1:Nat):Int)) k (by assumption) rfl (by decide) rfl rfl (wrap64 (by omega) (by omega)) fun a k=> ?_
 repeat refine sm k fun a k=> ?_
 refine lN (vs:=[R.fv,R.fl]) k rfl rfl (fun w' A j v E=>by
  match j,E with
  |0,E=>exact d.cell D (j:=0) E w' A
  |1,E=>exact d.cell D (j:=1) E w' A) fun a k=> ?_
 repeat (first|refine sm k fun a k=> ?_|refine ld k (d.cell D (j:=3) rfl) fun a k=> ?_)
 rw[d6]at k;refine uN (el:=65) (sz:=8) k rfl rfl c6 fun a k=> ?_;refine lN (vs:=us) k rfl r (fun w' A j v E=>eF d5 b9 (a6 j v E) w' A) fun a k=> ?_
 obtain⟨V,U,T,P,M,J,I,H,rfl⟩: ∃V U T P M J I H,us=[V,U,T,P,M,J,I,H] :=by
  match us,r with
  | [V,U,T,P,M,J,I,H],_=>exact⟨V,U,T,P,M,J,I,H,rfl⟩
 have v0:V= .int .i64 (bX g i).term:=(t 0 _ _ rfl rfl).cn;have v1:U= .int .i64 (bX g i).vote:=(t 1 _ _ rfl rfl).cn;have v2:T= .int .i64 (bX g i).li:=(t 2 _ _ rfl rfl).cn;have v3:P= .int .i64 (bX g i).lt:=(t 3 _ _ rfl rfl).cn;subst v0 v1 v2 v3;have d3:ca w8 S R.fv (.list (Bb n)):=by rw[<-f.cf.1];exact d.fv
 have d4:ca w8 S R.fl (.list []):=by rw[<-f.cf.2];exact d.fl
 have C:=NZ (l:=1000+i) (id:=((i+1:Nat):Int)) (c0:=R.fv) (c1:=R.fl) (s4:=M) (s5:=J) (s6:=I) (s7:=H) d.wf (by omega) (by omega)
  (.agg [R.fv,R.fl] _ rfl (fun q u y x o=>by
   match q,x,o with
   |0,x,o=>injection x with x;injection o with o;subst x o;exact d3
   |1,x,o=>injection x with x;injection o with o;subst x o;exact d4)) (n:=n) ⟨by omega,a7⟩ a2 a3
  (.agg _ _ rfl (fun q u y x o=>t q u y x o)) c4
 refine gH (vs:=[.int .i64 ((i+1:Nat):Int),.agg [R.fv,R.fl].toArray,.agg [Value.int .i64 (bX g i).term,.int .i64 (bX g i).vote,.int .i64 (bX g i).li,.int .i64 (bX g i).lt,M,J,I,H].toArray]) k (by decide) rfl (by decide) Dj rfl C ?_;rintro e w9 ⟨bs,S9,W7,rfl,LB,Xd,J7,hbs⟩;refine⟨_,rfl,fun _=>SX.iu (fun _ h=>h) LB,fun a k=> ?_⟩;have s9:SX (fun bb=>ow bb=some (1000+i)) w8 w9:=SX.iu (fun _ h=>h) LB;refine sm k fun a k=> ?_;refine ar ?_;have c9:rh ((i+1:Nat):Int) (Bb n) [] (bX g i).term (bX g i).vote (bX g i).li (bX g i).lt (bX g i).sv (bX g i).sl (bX g i).aY (bX g i).le=gW i g:=by unfold gW;rw[f.cf.1,f.cf.2]
 rw[c9]at J7;have d8:=d.Qs (i:=i) LB Xd B J7 (fF J7) (by rw[f.len.bc];exact f.len.n5);have b8:=Y.eY m d.wf LB (.inr (by omega));have k:=k.sb (l:=[(21,az bs),(4,.int .i64 (i:Int)),(3,az b3),(0,az b)]);clear C s9 s0 Y;refine wp_seq (wp_seq (rg ax hQ VT ?_));intro wa ea;have b4:=d8.O ea;have b7:=b8.W m Xd ea;have s0:=SX.refl ax wa
 repeat refine sm k fun a k=> ?_
 refine Gs (p:=some ⟨bs,0,none⟩) k (by assumption) rfl (by decide) rfl rfl (by kernel_rfl) fun a k=> ?_;refine ar (aV k rfl (wp_skip ?_));have k:=k.sb (l:=[(21,az bs),(4,.int .i64 (i:Int)),(3,az b3),(0,az b)]);refine wp_seq (rg ax hQ VS ?_);intro wb eb;have z:=b4.O eb;have b6:=b7.W m b4.wf eb;have s0:=SX.refl ax wb;have a8:i<(R.la.map az).length:=by rw[ak,a9,gm.qF];exact B
 obtain⟨bl,e5,e0,b2,b1,e3,e4,e2,Z,a0,d1⟩:=z.arr.set (i:=i) (u:=az bs) z.wf a8
 repeat (first|refine sm k fun a k=> ?_|refine ld k (z.cell (fun h=>h) (j:=2) rfl) fun a k=> ?_)
 rw[show({R with lb:=R.lb.set i bs}:GR).l=R.l from rfl]at b2;rw[show R.l=_ from b2]at k;refine uN (el:=52) (sz:=1) k rfl rfl a8 fun a k=> ?_;refine jU (vs:=[az bs]) (off:=i) (cur:=e0) k (by decide) rfl (by kernel_rfl) (by show some (Value.pointer _)=_;first|rw[bG,ao] |rw[bG]) rfl rfl b1 (by simp only[aZ];omega) (by simp[az,Value.oneCell']) (fun h=>absurd rfl h) fun a k=> ?_;refine ar ?_;have d7:=z.NL (la:=R.la.set i bs) Z a0 (by rw[List.map_set];exact d1);have X:=b6.eY m z.wf Z (.inl (by decide));have G:kg _ S9 W7 b (jh i (gW i g) g):=⟨{R with lb:=R.lb.set i bs,la:=R.la.set i bs},d7,by show R.la.set i bs=R.lb.set i bs;rw[a9],c2⟩;generalize wb.setRow bl _=wc at G X a0⊢;have k:=k.sb (l:=[(4,.int .i64 (i:Int)),(3,az b3),(0,az b)]);refine rg ax hQ VR ?_;intro wd ed;have b0:=G.O ed;have b5:=X.W m G.wf ed;have s0:=SX.refl ax wd;have O:=f.len;have d2:tZ (jh i (gW i g) g):=⟨by show(g.eX.set i _).length<=5;rw[aM];exact O.n5,by show g.df.length=(g.eX.set i _).length;rw[aM];exact O.df,by show g.bc.length=(g.eX.set i _).length;rw[aM];exact O.bc,by show g.saved.length=(g.eX.set i _).length;rw[aM];exact O.saved,O.lead,O.vl⟩
 have c7:bX (jh i (gW i g) g) i=gW i g:=by show(g.eX.set i _).getD i dK=_;rw[aj,bI,if_pos rfl,if_pos B];rfl
 repeat refine sm k fun a k=> ?_
 refine gH (vs:=[az b,.int .i64 (i:Int)]) k (by decide) rfl (by decide) JG rfl (As b0 d2 (by show i<(g.eX.set i _).length;rw[aM];exact B) (by rw[c7];exact fk.ok qw (aC _) (by omega))) ?_;rintro e we ⟨Se,owe,rfl,ste,hge⟩;refine⟨_,rfl,fun h=>absurd rfl h,fun a k=> ?_⟩;exact ar (F _ _ Se owe _ (k.sb) (jZ m b0.wf b5 ste nE) hge d9)
end
def Ni:Tal:=[I6,I6,.list (.int .u8)] ++U2++Bj
def yV:Ty:=.agg (.V Ni)
def OY{w:Tam}{S:bz}{dv:Tac}{d:D}(C:Has yV d)(z:ca w S (.agg dv.toArray) d):dv.length=76∧(∀j:Nat,Ni[j]? =some I6-> ∃q,dv[j]? =some (.int .i64 q)∧jo .i64 q)∧(∃c,dv[10]? =some (.bool c))∧ ∃x,ca w S (.agg (dv.drop 49).toArray) x∧Has uR x:=by
 obtain⟨l,rfl,t⟩:=dQ.1 C;have i:l.length=76:=by rw[fU t,Ty.dq];rfl
 have h:dn (.V Ni) l:=t;obtain⟨Pf,o,v,r⟩:=z.yB;injection o with o;have e:dv=Pf:=by simpa using congrArg Array.toList o
 subst e;have k:dv.length=76:=by rw[v,i]
 refine⟨k,?_,?_,?_⟩
 ·intro j B;obtain⟨x,m,q,rfl,A⟩:=cI h j I6 (by rw[Ty.dq];exact B);have p:j<dv.length:=by rw[v];exact(aG.1 m).1
  have f:dv[j]? =some dv[j] :=aQ p;rw[f,(r j _ _ f m).cn];exact⟨q,rfl,A⟩
 ·obtain⟨x,m,E⟩:=cI h 10 .bool (by rw[Ty.dq];rfl);obtain⟨c,rfl⟩:=dh.1 E;have f:dv[10]? =some dv[10] :=aQ (by omega);rw[f,(r 10 _ _ f m).gS];exact⟨c,rfl⟩
 ·refine⟨.agg (l.drop 49),.agg _ _ (by rw[aX,aX,k,i]) (fun j u y f s=> ?_),dQ.2 ⟨_,rfl,tj (a:=[I6,I6,.list (.int .u8)] ++U2) (b:=Bj) h⟩⟩;rw[aE]at f s;exact r _ _ _ f s
section
variable{w w0 w':Tam}{S S0 S':bz}{ow ko bR:Ow}{b n K:Nat}{N:Int}{g:GS}{dv:Tac}{Q:HP}{a:Act}
def Jg(w:Tam)(S:bz)(ow:Ow)(b n K:Nat)(N:Int)(e:Ending)(w':Tam):Prop:= ∃S' bR c,e= .returned (.tuple #[])∧bD LG ax w S ow w' S' bR∧kg w' S' bR b c∧GI n K N c
def IG{d:D}(h:kg w S ow b g)(hn:nq ow)(f:GI n K N g)(h5:n<=5)(h0:1<=n)(hN:N<=99990000)(hK:12040<=K)(hd:Has yV d)(hr:ca w S (.agg dv.toArray) d):
  Calls Try.prog 10 [az b,.agg dv.toArray].toArray w (Jg w S ow b n (K-12040) (N+430)):=by
 obtain⟨b9,o,⟨cj,c0⟩,x,b4,hx⟩:=OY hd hr;obtain⟨q0,b6,b2⟩:=o 0 rfl;obtain⟨q1,b5,a4⟩:=o 1 rfl;obtain⟨q7,a7,a3⟩:=o 7 rfl;obtain⟨c7,p,z⟩:=o 11 rfl;obtain⟨c6,a8,c4⟩:=o 49 rfl;refine kv Try.func10 Gw N9 Zc (by show 2<=359;omega) ?_;intro a k;have hQ:=ju (P:=Try.prog) (fn:=Try.f10) (R:=Jg w S ow b n (K-12040) (N+430));have u:=h.wf;refine wp_seq (rg ax hQ RE ?_);intro w1 e1;refine rq (us:=dv) k (by decide) rfl (by decide) rfl rfl (fun h=>absurd rfl h) fun a k=> ?_;refine ar ?_;have L:=u.O e1;have a2:bD LG ax w S ow w1 S ow:=bD.O e1 LG ax S ow;obtain⟨H,J⟩:=bD.alloc L (.cells dv.toArray 51);have I:=fG.new L 51 dv;have U:=a2.Z u L H nE;have V:kg (w1.alloc (.cells dv.toArray 51)) S ow b g:=by obtain⟨R',c2,h1,h2⟩:=h.O e1;exact⟨R',c2.J H J,h1,h2⟩
 have C:=(b4.J (bD.O e1 ax ax S ow)).J H;generalize c1:w1.heap.size=b3 at k I;generalize w1.alloc _=w2 at V I U J C⊢;have k:=k.sb (l:=[(3,az b3),(0,az b)]);have h2:DS w2 S ow b b3 dv n K N g:=⟨V,hn,I,f,h5,by omega⟩;clear H a2 L e1 c1;refine wp_seq (jj (n0:=7) ax mix (by exact hQ) RD (fun _=>by kernel_rfl) ?_);intro w3 e3;have h3:=h2.O e3;have T:=C.J (bD.O e3 ax ax S ow);obtain⟨R,G,b7,c9⟩:=h3.xW;have a1:=U.W u J e3;have s0:=SX.refl ax w3;obtain⟨Al,c5,b0⟩:=G.arr.slice;have a9:(R.la.map az).length=n:=by rw[ak,b7,G.qF];exact f.n1
 repeat refine sm k fun a k=> ?_
 refine ld k (h3.lx.cell id b5) fun a k=> ?_
 repeat refine sm k fun a k=> ?_
 refine ld k (G.cell id (j:=2) rfl) fun a k=> ?_;rw[b0,a9]at k;refine Gq k (by assumption) rfl (by decide) rfl (by kernel_rfl) fun a k=> ?_;refine gH (vs:=[.int .i64 q1,.int .i64 (n:Int)]) k (by decide) rfl (by decide) c8.enter rfl (jS G.wf a4 (iC (by omega) (by omega)) (by omega)) ?_;rintro e w4 ⟨rfl,qQ,JZ⟩;have s4:=qQ.tu ax;refine⟨_,rfl,fun _=>s4,fun a k=> ?_⟩
 repeat refine sm k fun a k=> ?_
 refine ar ?_;obtain⟨p0,p1⟩:=py (b:=(n:Int)) a4 (by omega);generalize hi:(gP q1 (n:Int)).toNat=i;have b8:gP q1 (n:Int)=(i:Int):=by omega
 have E:i<n:=by omega
 rw[b8]at k;have h4:=h3.J5 qQ JZ;have O:=T.J qQ;have Y:=a1.Z u h3.wf qQ nE;have k:=k.sb (l:=[(4,.int .i64 (i:Int)),(3,az b3),(0,az b)]);clear qQ s4 s0 a1 G e3 V I U J h2 h3 C T b0 a9 hi;refine wp_seq (rg ax hQ RC ?_);intro w5 e5;have F:=h4.O e5;have M:=O.J (bD.O e5 ax ax S ow);have a0:=Y.W u h4.wf e5;have s0:=SX.refl ax w5
 repeat (first|refine sm k fun a k=> ?_|refine ld k (F.lx.cell id b6) fun a k=> ?_)
 refine gH (vs:=[.int .i64 q0,.int .i64 12]) k (by decide) rfl (by decide) c8.enter rfl (jS F.wf b2 (by decide) (by decide)) ?_;rintro e w6 ⟨rfl,yj,JY⟩;refine⟨_,rfl,fun h=>absurd rfl h,fun a k=> ?_⟩;refine ar ?_;have h6:=F.J5 yj JY;have a6:=M.J yj;have b1:=a0.Z u F.wf yj nE;have k:=k.sb (l:=km (gP q0 12) (i:Int) b3 b);clear yj s0 a0 e5 h4 Y O F M
 have t: ∀{m:Tab} (a:Act) (W:Tam) (S':bz) (bR:Ow) (q:GS) (K':Nat) (N':Int),Kn 359 a m->bD LG ax w S ow W S' bR->kg W S' bR b q->GI n K' N' q->K-12040<=K'->N'<=N+430->bodyPost Try.prog Try.f10 (Jg w S ow b n (K-12040) (N+430)) .normal a W:=by intro m a W S' bR q K' N' k r y f hK hN;exact(lP Ru k ⟨S',bR,q,rfl,r,y,f.le hK hN⟩).2
 have s:QP (Exit.inBlock 0 (bodyPost Try.prog Try.f10 (Jg w S ow b n (K-12040) (N+430)))):=by intro c a d v w h;exact hQ c a d v w h
 have X:K=(K-28)+28:=by omega
 refine wp_block (afa (A5:=.region 5 Jb true) (A7:=zr) (A14:=zD) (A27:=yp) (A35:=zM) (A43:=zC) (A49:=z8) (A53:=zX) s k ?_);intro A hA a w7 e7 k;have B:=h6.O e7;have a5:=a6.J (bD.O e7 ax ax S ow);have Z:=b1.W u h6.wf e7;have k:=k.sb (l:=[(4,.int .i64 (i:Int)),(3,az b3),(0,az b)]);have go: ∀{W:Tam} {S':bz} {bR:Ow},bD LG ax w7 S ow W S' bR->bD LG ax w S ow W S' bR:=fun r=>jZ u B.wf Z r nE;rcases hA with⟨_,rfl⟩|⟨_,rfl⟩|⟨_,rfl⟩|⟨_,rfl⟩|⟨_,rfl⟩|⟨_,rfl⟩|⟨_,rfl⟩|⟨_,rfl⟩|rfl
 ·rw[X]at B;exact ZD s B E p z k fun a W S' bR q k r y f=>t a W S' bR q _ _ k (go r) y f (by omega) (by omega)
 ·exact Kg s B (by omega) E p z k (by omega) fun a W S' bR q k r y f=>t a W S' bR q _ _ k (go r) y f (by omega) (by omega)
 ·exact KF s B (by omega) (by omega) p a7 a3 c0 k fun a W S' bR q k r y f=>t a W S' bR q _ _ k (go r) y f (by omega) (by omega)
 ·exact Vn s B hK (by omega) (k.sb) fun a W S' bR q k r y f=>t a W S' bR q _ _ k (go r) y f (by omega) (by omega)
 ·exact KU s B p z k fun a W S' bR q k r y f=>t a W S' bR q _ _ k (go r) y f (by omega) (by omega)
 ·rw[X]at B;exact KC s B E b9 p z a8 hx a5 k fun a W S' bR q k r y f=>t a W S' bR q _ _ k (go r) y f (by omega) (by omega)
 ·rw[X]at B;exact Lm s B E a7 a3 p k fun a W S' bR q k r y f=>t a W S' bR q _ _ k (go r) y f (by omega) (by omega)
 ·exact Ld s B E k fun a W S' bR q k r y f=>t a W S' bR q _ _ k (go r) y f (by omega) (by omega)
 ·exact wp_skip (t a w7 S ow g _ _ k Z B.xW B.gi (by omega) (by omega))
end
structure Kp(w w':Tam):Prop where
 size:w.heap.size<=w'.heap.size
 os:w'.os=w.os
 tape:w'.tape=w.tape
 output:w'.output=w.output
 Pg: ∀b,b<w.heap.size->w'.heap[b]? =w.heap[b]?
def Kp.trans{w w' FV:Tam}(h:Kp w w')(k:Kp w' FV):Kp w FV:=
 ⟨aW h.size k.size,k.os.trans h.os,k.tape.trans h.tape,k.output.trans h.output,fun b a=>(k.Pg b (av a h.size)).trans (h.Pg b a)⟩
def Kp.of{L:Tai}{w w':Tam}{S S':bz}{a:Ow}(h:bD L ax w S (fun _=>none) w' S' a):Kp w w':=⟨h.size,h.os,h.tape,h.output,fun b c=>h.free b c rfl (fun h=>h)⟩
def _root_.Go.dI.Wf.bare{w:Tam}{S:bz}{ow:Ow}(h:Wf w S ow):Wf w S (fun _=>none):=⟨h.s,fun _ _ h=>(by cases h),fun _ _ _ _ h=>(by cases h)⟩
def GI.start{n K:Nat}(k:1<=n)(f:n<=5)(o:K<=1073741824):GI n K 0 (gB n n):=by
 have a:(gB n n).eX.length=n:=by show((List.range n).map _).length=n;simp
 refine⟨⟨by rw[a];exact f,?_,?_,?_,aC _,?_⟩,a,⟨rfl,rfl⟩,?_,fun m g=>(by cases g),aC _,by show((0:Nat):Int)<=0+1;omega,ba _⟩
 ·rw[a];show(List.replicate n _).length=n;simp
 ·rw[a];show(List.replicate n _).length=n;simp
 ·rw[a];show(List.replicate n _).length=n;simp
 ·intro l a;rw[fA (show l∈List.replicate n [] from a)];exact aC _
 ·intro i s d;have d:((List.range n).map (F8 n))[i]? =some s:=d;rw[ab,cU]at d;obtain⟨q,b,rfl⟩:=d;have c:i<n:=by have:=(aG.1 b).1;simpa using this
  rw[dp c]at b;injection b with b;subst b;refine⟨⟨rfl,rfl,rfl,rfl,rfl⟩,⟨(show eV 0 0 [] =true by decide),?_,?_,?_,?_,?_,?_,?_,vI k f,fun h=>absurd h (by show¬(0:Int)<0;decide),rfl,ba _,by show(0:Int)<=MX;decide,rfl⟩,⟨⟨rfl,rfl⟩,dx,⟨ba _,by show(0:Int)<=0+((([] :Taf).length:Nat):Int);decide⟩,fun h=>absurd h (by show¬(0:Int)<0;decide),aC _,ba _,⟨ba _,by show(0:Int)<=MX;decide⟩,by show(0:Int)+((([] :Taf).length:Nat):Int)<=0;decide,fun e j=>(by cases j)⟩,?_⟩
  ·show(1:Int)<=((i+1:Nat):Int);omega
  ·show((i+1:Nat):Int)<=5;omega
  ·show 0+K<=_;omega
  ·show 0+K<=K;omega
  ·show 0+K<=_;omega
  ·show 0+G K<=G K;omega
  ·show 0+K<=_;omega
  ·show(List.replicate n ub)[i]? =some ub;rw[List.getElem?_replicate,if_pos c]
def Qy{T V:Int}(h:jo .i64 T)(g:jo .i64 V)(w:Tam)(x y:Tbb):(do eqGuard .neq 61 x y (.agg [Value.int .i64 T,.int .i64 V].toArray) (.agg [Value.int .i64 T,.int .i64 V].toArray);binOp .neq 61 (.agg [Value.int .i64 T,.int .i64 V].toArray) (.agg [Value.int .i64 T,.int .i64 V].toArray):Sem Tan).run Try.prog w= .ok (.bool false) w:=by
 rw[bg,run_eqGuard_agg w .neq 61 x y _ _ (by kernel_rfl)];simp only[bV]
 have a:Gk (fun _=>.top) w (fun _ _=>False) [Value.int .i64 T,.int .i64 V] [(.aR .i64 T,.int .i64),(.aR .i64 V,.int .i64)] :=⟨rfl,fun i v x b a=>by
  match i,b,a with
  |0,b,a=>injection b with b;injection a with a;subst b a;exact⟨.int _ _,T,rfl,h⟩
  |1,b,a=>injection b with b;injection a with a;subst b a;exact⟨.int _ _,V,rfl,g⟩⟩
 obtain⟨c,-⟩:=CV (P:=Try.prog) (w:=w) (fun _=>.top) (fun _ _=>False) BH 61 _ _ (.bin .and (.bin .eq (.aR .i64 T) (.aR .i64 T)) (.bin .and (.bin .eq (.aR .i64 V) (.aR .i64 V)) (.eO true))) (by kernel_rfl) _ _ 9992 a a;have f:iR Try.prog 61=true:=by kernel_rfl
 have e:Go.dI.valOf Try.prog 61 [Value.int .i64 T,.int .i64 V] = .agg [Value.int .i64 T,.int .i64 V].toArray:=by unfold Go.dI.valOf;rw[f];rfl
 rw[e]at c;have d:(Op.equalIn 10000 61 (.agg [Value.int .i64 T,.int .i64 V].toArray) (.agg [Value.int .i64 T,.int .i64 V].toArray)).run Try.prog w=_:=c;rw[run_neq_struct,d];simp[den,B.den,D.Y,D.q]
def Vj{ops:Tad}{Q:HP}{b:Tae}{n n0 i d t2:Nat}{a:Act}{w:Tam}{m:Tab}{gd:Tao (Nat×Bool)}{L r:List OK}{x y:Tbb}{T V:Int}(q:jo .i64 T)(p:jo .i64 V)(k:Kn n a m)(s:b w)(l:pL L m gd=some true)(o:d<n)(j:lH m x=some (.agg [Value.int .i64 T,.int .i64 V].toArray))(g:lH m y=some (.agg [Value.int .i64 T,.int .i64 V].toArray))(h: ∀c,Kn n c ((d,.bool false)::m)->TL Try.prog ops Q b n0 L r (i+1) c w):TL Try.prog ops Q b n0 L ((some d,.binOp .neq 61 x y t2,gd)::r) i a w:=by refine pv k s l o (fun v f z e _=> ?_) h;have u:=k.op j;have t:=k.op g;unfold execOp;simp only[u,t];rw[bg,Qy q p e x y];rfl
noncomputable def zN:Code:=.seq (.region 10 My true) (.seq (.seq (.region 11 Mx false) (.cond (.tmp 49) (.seq (.region 12 RM false) .ret) .skip)) (.seq (.region 13 Mw false) (.seq (.region 14 Mv false) (.seq (.region 15 Mu false) (.cond (.tmp 85) (.seq (.region 16 RL false) .ret) .skip)))))
section
variable{w w0 w':Tam}{S S0 S':bz}{ow ko bR:Ow}{b i j n K:Nat}{N:Int}{g:GS}{vl:Tan}{Q:HP}{a:Act}
def oMq(i j n b:Nat)(vl:Tan):Tab:=[(7,.int .i64 (i:Int)),(6,.int .i64 (j:Int)),(5,az b),(4,.bool false),(1,vl),(0,.int .i64 (n:Int))]
def KV(hQ:QP Q)(hg:kg w S ow b g)(hn:nq ow)(r:GI n K N g)(a7:n<=5)(hi:i<n)(k:Kn 87 a (oMq i j n b vl))(E: ∀a W S' bR,Kn 87 a (oMq i j n b vl)->bD LG ax w S ow W S' bR->kg W S' bR b g->nq bR->Q .normal a W):zN.wp Try.prog Q a w:=by
 have f:=hg.wf;obtain⟨a1,a2,a3,a4⟩:=r.get hi;obtain⟨fk,-⟩:=r.Zx hi a7;have b7:i<g.eX.length:=by rw[r.n1];exact hi
 have hx:=jG b7;obtain⟨R,gm,a8,d6⟩:=hg;have g2:MX=1099511627776:=rfl;have hT:jo .i64 (bX g i).term:=iC a2.tm (by have:=a2.tx;omega);have hV:jo .i64 (bX g i).vote:=iC a3.qP.1 (by have:=a3.qP.2;omega);unfold zN;unfold oMq at k E;refine wp_seq (jj (n0:=13) (fun L=>ow L=some (1000+5)) mix (by exact hQ) aac (fun _=>by kernel_rfl) ?_);intro w8 e8;have m:=gm.O e8;have b1:=(bD.refl LG ax w S ow).W f f e8;have M:=SX.refl (fun L=>ow L=some (1000+5)) w8;have a6: ¬ow b=some (1000+5):=by rw[m.obj.ow];intro h;injection h with h;omega
 obtain⟨bt,f9,us,f3,f0,e1,b5,b6,C⟩:=m.saved.elem a4;have d7:=m.saved.all _ (bU a4);have B:us.length=8:=b5;have d8:iI.cells.length=8:=rfl;rw[d8]at b6;have d5: ¬ow bt=some (1000+5):=by rw[e1];intro h;injection h with h;omega
 have d9:i<g.saved.length:=(aG.1 a4).1
 repeat refine sm k fun a k=> ?_
 refine ik (s:=((i+1:Nat):Int)) k (by assumption) rfl (by decide) rfl rfl (wrap64 (by omega) (by omega)) fun a k=> ?_
 repeat refine sm k fun a k=> ?_
 refine lN (vs:=[R.fv,R.fl]) k rfl rfl (fun w' o j v d=>by
  match j,d with
  |0,d=>exact m.cell a6 (j:=0) d w' o
  |1,d=>exact m.cell a6 (j:=1) d w' o) fun a k=> ?_
 repeat (first|refine sm k fun a k=> ?_|refine ld k (m.cell a6 (j:=3) rfl) fun a k=> ?_)
 rw[f3]at k;refine uN (el:=65) (sz:=8) k rfl rfl d9 fun a k=> ?_;refine lN (vs:=us) k rfl B (fun w' o j v d=>eF f0 d5 (b6 j v d) w' o) fun a k=> ?_
 obtain⟨u0,u1,u2,u3,u4,u5,u6,u7,rfl⟩: ∃u0 u1 u2 u3 u4 u5 u6 u7,us=[u0,u1,u2,u3,u4,u5,u6,u7] :=by
  match us,B with
  | [u0,u1,u2,u3,u4,u5,u6,u7],_=>exact⟨u0,u1,u2,u3,u4,u5,u6,u7,rfl⟩
 have v0:u0= .int .i64 (bX g i).term:=(C 0 _ _ rfl rfl).cn;have v1:u1= .int .i64 (bX g i).vote:=(C 1 _ _ rfl rfl).cn;have v2:u2= .int .i64 (bX g i).li:=(C 2 _ _ rfl rfl).cn;have v3:u3= .int .i64 (bX g i).lt:=(C 3 _ _ rfl rfl).cn;subst v0 v1 v2 v3;have e6:ca w8 S R.fv (.list (Bb n)):=by rw[<-r.cf.1];exact m.fv
 have e7:ca w8 S R.fl (.list []):=by rw[<-r.cf.2];exact m.fl
 have U:=NZ (l:=1000+5) (id:=((i+1:Nat):Int)) (c0:=R.fv) (c1:=R.fl) (s4:=u4) (s5:=u5) (s6:=u6) (s7:=u7) m.wf (by omega) (by omega)
  (.agg [R.fv,R.fl] _ rfl (fun q u y D A=>by
   match q,D,A with
   |0,D,A=>injection D with D;injection A with A;subst D A;exact e6
   |1,D,A=>injection D with D;injection A with A;subst D A;exact e7)) (n:=n) ⟨by omega,a7⟩ a2 a3
  (.agg _ _ rfl (fun q u y D A=>C q u y D A)) d7
 refine gH (vs:=[.int .i64 ((i+1:Nat):Int),.agg [R.fv,R.fl].toArray,.agg [Value.int .i64 (bX g i).term,.int .i64 (bX g i).vote,.int .i64 (bX g i).li,.int .i64 (bX g i).lt,u4,u5,u6,u7].toArray]) k (by decide) rfl (by decide) Dj rfl U ?_;rintro e w9 ⟨bs,S9,W7,rfl,LB,Xd,J7,hbs⟩;refine⟨_,rfl,fun _=>SX.iu (fun _ h=>h) LB,fun a k=> ?_⟩;have s9:SX (fun L=>ow L=some (1000+5)) w8 w9:=SX.iu (fun _ h=>h) LB;refine sm k fun a k=> ?_;refine ar ?_;have e0:rh ((i+1:Nat):Int) (Bb n) [] (bX g i).term (bX g i).vote (bX g i).li (bX g i).lt (bX g i).sv (bX g i).sl (bX g i).aY (bX g i).le=gW i g:=by unfold gW;rw[r.cf.1,r.cf.2]
 rw[e0]at J7;have f6:=m.F8 (j:=5) LB Xd (by rw[r.n1];exact a7) (by rw[r.len.bc];exact r.len.n5);have c9:=b1.eY f m.wf LB (.inr (by omega));have e4:nq W7:=hn.J LB (fun l hl=>by simp only[iE]at hl;subst hl;exact .inr (by omega));have k:=k.sb (l:=(8,az bs):: [(7,.int .i64 (i:Int)),(6,.int .i64 (j:Int)),(5,az b),(4,.bool false),(1,vl),(0,.int .i64 (n:Int))]);clear U s9 M b1;refine wp_seq (wp_seq (rg ax hQ aab ?_));intro wa ea;have I:=f6.O ea;have c7:=c9.W f Xd ea;have P:=J7.J Xd I.wf (bD.O ea ax ax S9 W7) (fun h=>h) rfl;have M:=SX.refl ax wa
 repeat refine sm k fun a k=> ?_
 refine Gs (p:=some ⟨bs,0,none⟩) k (by assumption) rfl (by decide) rfl rfl (by kernel_rfl) fun a k=> ?_;refine ar (aV k rfl (wp_skip ?_));have k:=k.sb (l:=(8,az bs):: [(7,.int .i64 (i:Int)),(6,.int .i64 (j:Int)),(5,az b),(4,.bool false),(1,vl),(0,.int .i64 (n:Int))]);clear M;refine wp_seq (rg ax hQ aaa ?_);intro wb eb;have H:=I.O eb;have c6:=c7.W f I.wf eb;have O:=P.J I.wf H.wf (bD.O eb ax ax S9 W7) (fun h=>h) rfl;have M:=SX.refl ax wb
 repeat refine sm k fun a k=> ?_
 refine gH (vs:=[az bs]) k (by decide) rfl (by decide) Rf.enter rfl (kN O H.wf (fk.ok qw (aC _) (by omega))) ?_;rintro e wc ⟨A1,n1,c1,A2,n2,c2,rfl,-,TS,Xt⟩;refine⟨_,rfl,fun _=>TS.tu _,fun a k=> ?_⟩;have b8:=H.J TS Xt;have b0:=c6.Z f H.wf TS nE;have s1:=TS.tu ax;refine iV (nn:=9) k (by decide) rfl (by decide) (by kernel_rfl) (fun V _=>s1.trans (SX.alloc _ _ _)) fun V a5 a k=> ?_;refine jU (vs:=yG (gW i g) (.slice A1 n1 c1) (.slice A2 n2 c2)) k (by decide) rfl (by kernel_rfl) rfl rfl rfl (heap_alloc_new wc _) (by show 0+9<=V.toArray.size;rw[bH];omega) (by simp[yG,Value.oneCell']) (fun h=>absurd rfl h) fun a k=> ?_;refine ar ?_;rw[fill_eq a5 (show(yG (gW i g) (.slice A1 n1 c1) (.slice A2 n2 c2)).length=9 from rfl)];obtain⟨X,b3,l9⟩:=jf (T:=67) (zs:=V) (us:=yG (gW i g) (.slice A1 n1 c1) (.slice A2 n2 c2)) Xt;have G:=b8.J X b3;have oT:=b0.Z f b8.wf X (fun L hb=>by rw[show L=_ from hb];exact b0.size);generalize g3:wc.heap.size=b9 at k l9 G oT⊢;generalize hW:(wc.alloc _).setRow b9 _=wd at l9 G oT⊢;have k:=k.sb (l:=(9,az b9):: [(7,.int .i64 (i:Int)),(6,.int .i64 (j:Int)),(5,az b),(4,.bool false),(1,vl),(0,.int .i64 (n:Int))]);clear M s1 X b3 hW O P;refine wp_seq (rg ax hQ Z9 ?_);intro w2 e2;have x:=G.O e2;have d4:=l9.O e2;have d3:=oT.W f G.wf e2;have M:=SX.refl ax w2;obtain⟨bo,f1,e3,g0⟩:=x.eX i _ hx;obtain⟨bl,g4,f5,f2,g1,e9⟩:=x.arr.elem (i:=i) (u:=az bo) (by rw[a8,ab,f1];rfl);have f4:(R.la.map az).length=g.eX.length:=by rw[ak,a8];exact x.qF
 repeat (first|refine sm k fun a k=> ?_|refine ld k (x.cell (fun h=>h) rfl) fun a k=> ?_)
 rw[f5]at k;refine uN (el:=52) (sz:=1) k rfl rfl (by rw[f4];exact b7) fun a k=> ?_;refine kr (v:=az bo) k (by assumption) rfl (by decide) rfl (by kernel_rfl) (by kernel_rfl) (eF f2 (fun h=>h) (by rw[bG];exact e9)) fun a k=> ?_;refine gH (vs:=[az bo]) k (by decide) rfl (by decide) Rf.enter rfl (kN e3 x.wf (a2.ok a1 (aC _) (by omega))) ?_;rintro e w3 ⟨B1,m1,d1,B2,m2,d2,rfl,-,wo,FX⟩;refine⟨_,rfl,fun _=>wo.tu _,fun a k=> ?_⟩;have c4:=x.J wo FX;have b2:=d4.J wo (fun h=>h);have a9:=d3.Z f x.wf wo nE;have s1:=wo.tu ax;refine iV (nn:=9) k (by decide) rfl (by decide) (by kernel_rfl) (fun V _=>s1.trans (SX.alloc _ _ _)) fun V a5 a k=> ?_;refine jU (vs:=yG (bX g i) (.slice B1 m1 d1) (.slice B2 m2 d2)) k (by decide) rfl (by kernel_rfl) rfl rfl rfl (heap_alloc_new w3 _) (by show 0+9<=V.toArray.size;rw[bH];omega) (by simp[yG,Value.oneCell']) (fun h=>absurd rfl h) fun a k=> ?_;refine ar ?_;rw[fill_eq a5 (show(yG (bX g i) (.slice B1 m1 d1) (.slice B2 m2 d2)).length=9 from rfl)];obtain⟨F,b4,a0⟩:=jf (T:=67) (zs:=V) (us:=yG (bX g i) (.slice B1 m1 d1) (.slice B2 m2 d2)) FX;have J:=c4.J F b4;have Z:=b2.J F (fun e=>by have:=b2.lt;rw[show b9=w3.heap.size from e]at this;omega);have Y:=a9.Z f c4.wf F (fun L hb=>by rw[show L=_ from hb];exact a9.size);generalize f8:w3.heap.size=c5 at k a0 Z J Y⊢;generalize hW:(w3.alloc _).setRow c5 _=w4 at a0 Z J Y⊢;have k:=k.sb (l:=(10,az c5)::(9,az b9):: [(7,.int .i64 (i:Int)),(6,.int .i64 (j:Int)),(5,az b),(4,.bool false),(1,vl),(0,.int .i64 (n:Int))]);clear M s1 F b4 hW;refine wp_seq (rg ax hQ Z8 ?_);intro w5 e5;have f7:=J.O e5;have z:=Z.O e5;have t:=a0.O e5;have d0:=Y.W f J.wf e5;have M:=SX.refl ax w5
 repeat refine sm k fun a k=> ?_
 refine lN (vs:=[.int .i64 (bX g i).term,.int .i64 (bX g i).vote]) k rfl rfl (fun w' o q v d=>by
  match q,d with
  |0,d=>injection d with d;subst d;exact z.cell (fun h=>h) (j:=2) rfl w' o
  |1,d=>injection d with d;subst d;exact z.cell (fun h=>h) (j:=3) rfl w' o) fun a k=> ?_
 repeat refine sm k fun a k=> ?_
 refine lN (vs:=[.int .i64 (bX g i).term,.int .i64 (bX g i).vote]) k rfl rfl (fun w' o q v d=>by
  match q,d with
  |0,d=>injection d with d;subst d;exact t.cell (fun h=>h) (j:=2) rfl w' o
  |1,d=>injection d with d;subst d;exact t.cell (fun h=>h) (j:=3) rfl w' o) fun a k=> ?_
 refine Vj hT hV k (by assumption) rfl (by decide) rfl rfl fun a k=> ?_
 repeat (first|refine sm k fun a k=> ?_|refine ld k (t.cell (fun h=>h) (j:=5) rfl) fun a k=> ?_|refine ld k (z.cell (fun h=>h) (j:=5) rfl) fun a k=> ?_)
 refine cm (c:=false) k rfl rfl (by show some ((bX g i).li+((bX g i).le.length:Int) !=(bX g i).li+((bX g i).le.length:Int))=_;simp) fun a k=> ?_;refine pk k rfl rfl fun a k=> ?_
 repeat (first|refine sm k fun a k=> ?_|refine ld k (t.cell (fun h=>h) (j:=6) rfl) fun a k=> ?_|refine ld k (z.cell (fun h=>h) (j:=6) rfl) fun a k=> ?_)
 refine cm (c:=false) k rfl rfl (by show some ((bX g i).li !=(bX g i).li)=_;simp) fun a k=> ?_;refine pk k rfl rfl fun a k=> ?_
 repeat (first|refine sm k fun a k=> ?_|refine ld k (t.cell (fun h=>h) (j:=4) rfl) fun a k=> ?_|refine ld k (z.cell (fun h=>h) (j:=4) rfl) fun a k=> ?_)
 refine cm (c:=false) k rfl rfl (zl (by show¬(bX g i).li>(bX g i).bF;have:=a3.F2.1;omega)) fun a k=> ?_;refine pk k rfl rfl fun a k=> ?_;refine ar (aV k rfl (wp_skip ?_));exact E _ _ _ _ (k.sb) d0 ⟨R,f7,a8,d6⟩ e4
end
end Go.Proofs.Ytjhmkaninmgilaa
