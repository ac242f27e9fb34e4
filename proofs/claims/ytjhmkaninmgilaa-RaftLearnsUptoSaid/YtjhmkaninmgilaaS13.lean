/- Part 13 of the proof of RaftLearns; no condition. -/
import Derived.Test.YtjhmkaninmgilaaS12
set_option linter.defProp false
set_option linter.unusedVariables false
set_option linter.unusedSimpArgs false
set_option maxHeartbeats 4000000
namespace Go.Proofs.Ytjhmkaninmgilaa
open Go Go.RowKit Go.dF Go.Proofs
attribute [local irreducible] TL
structure Kp(w w':Tam):Prop where
 size:w.heap.size<=w'.heap.size
 os:w'.os=w.os
 tape:w'.tape=w.tape
 output:w'.output=w.output
 P2:∀b,b<w.heap.size->w'.heap[b]?=w.heap[b]?
def Kp.trans{w w' GP:Tam}(h:Kp w w')(k:Kp w' GP):Kp w GP:=
 ⟨aY h.size k.size,k.os.trans h.os,k.tape.trans h.tape,k.output.trans h.output,fun b c=>(k.P2 b (az c h.size)).trans (h.P2 b c)⟩
def Kp.of{L:Tai}{w w':Tam}{S S':bE}{bT:Ow}(h:bD L aB w S (fun _=>none) w' S' bT):Kp w w':=⟨h.size,h.os,h.tape,h.output,fun b c=>h.free b c rfl (fun h=>h)⟩
def _root_.Go.dF.Wf.bare{w:Tam}{S:bE}{ow:Ow}(h:Wf w S ow):Wf w S (fun _=>none):=⟨h.s,fun _ _ h=>(by cases h),fun _ _ _ _ h=>(by cases h)⟩
def OB{w:Wd}{T:Int}:Lo w T []:=⟨rfl,fun e c=>(by cases c),fun k e c=>(by cases c)⟩
def GI.start{l K:Nat}(E:l<=2)(C:K<=1073741824):GI (3+l) K 0 (gB 3 l (3+l)):=by
 have o:(gB 3 l (3+l)).ew.length=3+l:=by show((List.range (3+l)).map _).length=_;simp
 have f:∀(i:Nat) s,(gB 3 l (3+l)).ew[i]?=some s->i<3+l/\s=G8 3 l i:=by
  intro i s f;have f:((List.range (3+l)).map (G8 3 l))[i]?=some s:=f;rw[ab,dn]at f;obtain⟨q,k,rfl⟩:=f;have c:i<3+l:=by have:=(aO.1 k).1;simpa using this
  rw[da c]at k;injection k with k;exact⟨c,by rw[k]⟩
 have t:V3 (.agg [.list (Jt 3),.list (Mk 3 l)]):=rfl;refine⟨⟨by rw[o];omega,?_,?_,?_,aF _,?_⟩,o,⟨Ar (by omega) (by omega),FU (by omega),t⟩,?_,fun m d=>(by cases d),aF _,by show((0:Nat):Int)<=0+1;omega,ar _,?_⟩
 .rw[o];show(List.replicate _ _).length=_;simp
 .rw[o];show(List.replicate _ _).length=_;simp
 .rw[o];show(List.replicate _ _).length=_;simp
 .intro u p;rw[fB (show u∈List.replicate _ [] from p)];exact aF _
 .intro i s h;obtain⟨c,rfl⟩:=f i s h;refine⟨⟨rfl,rfl,rfl,rfl,rfl⟩,⟨(show gn 0 0 []=true by decide),?_,?_,?_,?_,?_,?_,?_,Ar (by omega) (by omega),fun h=>absurd h (by show¬(0:Int)<0;decide),rfl,ar _,by show(0:Int)<=MX;decide,rfl⟩,⟨⟨rfl,rfl⟩,dA,⟨ar _,by show(0:Int)<=0+((([]:Taf).length:Nat):Int);decide⟩,fun h=>absurd h (by show¬(0:Int)<0;decide),aF _,ar _,⟨ar _,by show(0:Int)<=MX;decide⟩,by show(0:Int)+((([]:Taf).length:Nat):Int)<=0;decide,fun e B=>by cases B⟩,?_⟩
  .show(1:Int)<=((i+1:Nat):Int);omega
  .show((i+1:Nat):Int)<=5;omega
  .show 0+K<=_;omega
  .show 0+K<=K;omega
  .show 0+K<=_;omega
  .show 0+G K<=G K;omega
  .show 0+K<=_;omega
  show(List.replicate (3+l) uK)[i]?=some uK;rw[fI,if_pos c]
 have r:CY ⟨fun _=>0,fun _ _=>0,fun _=>[],fun _ _ _=>False,fun _ _=>[],fun _=>0⟩:=by refine⟨fun T=>OB,fun T h=>absurd rfl h,fun v T=>⟨aU _,fun h=>(by cases h)⟩,fun _ _ _ h=>h.elim,fun T h=>absurd rfl h,fun _ _ h=>h.elim,fun _ _ _ h=>h.elim,fun T F n _ h=>absurd rfl h⟩
 have x:∀T,iC [] T=0:=fun T=>rfl;refine⟨_,⟨r,fun i s h=>?_,fun m d=>(by cases d),fun i y z=>(by cases z),fun T h=>absurd (x T) h,fun i T h=>?_,fun i s h=>?_,rfl⟩,fun m d=>(by cases d)⟩
 .obtain⟨c,rfl⟩:=f i s h;exact⟨rfl,ar _,[],rfl,r,⟨OB,fun T n A _=>by rw[Nat.le_zero.1 A];exact .zero,.inl rfl,fun h=>(by cases h),fun h=>(by cases h)⟩,rfl,⟨ar _,ar _,rfl,rfl⟩,⟨ar _,rfl,rfl⟩,t,fun h=>absurd h (by show¬(0:Int)<0;decide),.inl rfl,fun _ h=>h.elim,fun h=>absurd rfl h,fun h=>(by cases h),fun h=>(by cases h),fun m d=>(by cases d),fun m d=>(by cases d)⟩
 .refine absurd ?_ h;show iC ((List.replicate (3+l) ([]:Taf)).getD i []) T=0;rw[ae,fI];split<;>rfl
 obtain⟨c,rfl⟩:=f i s h;show iC (List.replicate (3+l) (D.int .i64 0)) i<=0;unfold iC;rw[ae,fI];split<;>exact ar _
def Qt{t:Ty}{d:D}(h:Has t d)(c:t.scalar=true):1<=d.wt:=by
 cases t with
 |int k=>obtain⟨n,rfl,_⟩:=dt.1 h;simp[D.wt]
 |bool=>obtain⟨n,rfl⟩:=dg.1 h;simp[D.wt]
 |str=>obtain⟨n,rfl⟩:=my.1 h;simp[D.wt]
 |list t=>obtain⟨l,rfl,_⟩:=bO.1 h;simp[D.wt]
 |box t=>obtain⟨l,rfl,_⟩:=ik.1 h;simp[D.wt]
 |ptr t=>rcases kJ.1 h with rfl|⟨l,rfl,_⟩<;>simp[D.wt]
 |fn f t=>obtain⟨l,rfl,_⟩:=lz.1 h;simp[D.wt]
 |agg t=>cases c
 |ff t=>cases c
 |nil=>cases c
 |cons h t=>cases c
def Fj:∀{l:Taf},(∀d∈l,1<=d.wt)->l.length<=ub l
 |[],_=>aF _
 |d::r,h=>by have f:=h d br;have e:=Fj (l:=r) (fun x c=>h x (aK _ c));simp only[ub,bg];omega
def Fi{c:Nat}:∀{l:Taf},(∀d∈l,c<=d.wt)->c*l.length<=ub l
 |[],_=>aF _
 |d::r,h=>by have k:=h d br;have f:=Fi (l:=r) (fun x e=>h x (aK _ e));simp only[ub,bg,Nat.mul_succ];omega
def La{ts:Tal}{l:Taf}(h:dx (.V ts) l)(f:ts.all Ty.scalar=true):∀d∈l,1<=d.wt:=by
 intro d n;obtain⟨j,e⟩:=aE n;have o:l.length=ts.length:=by rw[fH h,Ty.dm]
 have k:=(aO.1 e).1;obtain⟨x,c,m⟩:=cJ h j _ (by rw[Ty.dm];exact aS (show j<ts.length by omega));rw[e]at c;injection c with c;subst c;exact Qt m (bY.1 f _ (aN _))
def PG{ls:Taf}(h:∀d∈ls,Has zw d):76*ls.length<=ub ls:=Fi fun d e=>by
 obtain⟨q,rfl,c⟩:=dU.1 (h d e);have k:=Fj (La c rfl);have f:q.length=76:=by rw[fH c,Ty.dm];rfl
 simp only[D.wt];omega
def tu(w0:Tam):Iv:=bodyPost Try.prog Try.f5 (fun e w'=>e=.returned (.bool true)/\Kp w0 w')
def GI.Rm{K:Nat}{N:Int}{g:GS}(h:GI 4 K N g):(cG g 3).role=0/\g.bad=false:=by obtain⟨w,c,-⟩:=h.sf;obtain⟨e,f,lg,d⟩:=c.ew 3 _ (iG (by rw[h.n1];decide));exact⟨d.rl.resolve_right (by rw[e];decide),c.bad⟩
section
variable{w w0 w':Tam}{S S0 S':bE}{ow kG bT:Ow}{b i j K:Nat}{N:Int}{g:GS}{vl:Tan}{Q:Iv}{a:Act}
def lM(j b:Nat)(vl:Tan):Tab:=[(4,.int .i64 (j:Int)),(3,aI b),(2,.bool false),(0,vl)]
noncomputable def DO:Code:=.seq (.region 7 VO false) (.cond (.tmp 39) (.seq (.region 8 aai false) .ret) .skip)
noncomputable def DP:Code:=.seq (.seq (.region 5 VQ false) (.cond (.tmp 18) (.exit 1) .skip)) (.seq (.region 6 VP false) DO)
def Pj(X:QP Q)(H:kv w S ow b g)(n:GI 4 K N g)(k:Kn 41 a (lM j b vl))(l:∀a W,Kn 41 a (lM j b vl)->bD LG aB w S ow W S ow->kv W S ow b g->Q .normal a W):DO.wp Try.prog Q a w:=by
 have f:=H.wf;obtain⟨F,I⟩:=n.Rm;have G:3<g.ew.length:=by rw[n.n1];decide
 obtain⟨O,M,-,-⟩:=n.get (i:=3) (by decide);have E:=iG G;generalize cG g 3=x at F O M E;obtain⟨R,J,m,p⟩:=H;rw[I]at J;unfold DO;unfold lM at k;refine wp_seq (rg aB X afd ?_);intro T L;have d:=J.O L;have o:=(bD.refl LG aB w S ow).Y f f L;have s0:=SX.refl aB T
 repeat (first|refine sm k fun a k=>?_|refine ld k (d.cell id rfl) fun a k=>?_)
 obtain⟨D,y,q,U⟩:=d.ew 3 x E;obtain⟨bl,Y,B,z,V,t⟩:=d.arr.elem (i:=3) (u:=aI D) (by rw[m,ab,y];rfl);have A:(R.la.map aI).length=g.ew.length:=by rw[ao,m];exact d.rn
 rw[B]at k;refine Db (el:=52) (sz:=1) (s:=3) k (by assumption) rfl (by decide) rfl rfl (by kernel_rfl) (by kernel_rfl) (by rw[A];exact G) fun a k=>?_;refine ky (v:=aI D) k (by assumption) rfl (by decide) rfl (by kernel_rfl) (by kernel_rfl) (eP z (fun h=>h) (by rw[bK];exact t)) fun a k=>?_;refine gV (vs:=[aI D]) k (by decide) rfl (by decide) U5.enter rfl (mU q d.wf (M.ok O (aF _) (by omega))) ?_;rintro e P ⟨A1,n1,c1,A2,n2,c2,rfl,-,nf,ud⟩;refine⟨_,rfl,fun _=>nf.vi _,fun a k=>?_⟩;have C:=d.J nf ud;have Z:=nf.vi aB;refine Fo (off:=0) (v:=.int .i64 x.role) k (by assumption) rfl (by decide) rfl (by kernel_rfl) rfl fun a k=>?_;refine cm (c:=false) k rfl rfl (by rw[F];rfl) fun a k=>?_
 repeat (first|refine sm k fun a k=>?_|refine ld k (d.cell id rfl) fun a k=>?_)
 refine pk (c:=false) (v:=.bool false) k rfl rfl fun a k=>?_;refine ay (bf k rfl (wp_skip ?_));have r:GM P S ow b (R.cells g.bad) R g:=by rw[I];exact C
 exact l _ _ (k.sb) (o.Z f d.wf nf nE) ⟨R,r,m,p⟩
def Pk{A:Tao Addr}{f:Nat}{ls:Taf}{d:D}(hQ:QP Q)(hg:kv w S ow b g)(hn:pC ow)(a1:GI 4 K N g)(hN:N<=99990000)(hK:12040<=K)(hr:cg w S (.slice A ls.length f) (.list ls))(hj:ls[j]?=some d)(J:Has zw d)(k:Kn 41 a (lM j b (.slice A ls.length f)))(r:∀a W,Kn 41 a (lM j b (.slice A ls.length f))->bD LG aB w S ow W S ow->kv W S ow b g->Q (.exit 1) a W)(t:∀a W S' bT g',Kn 41 a (lM j b (.slice A ls.length f))->bD LG aB w S ow W S' bT->kv W S' bT b g'->pC bT->GI 4 (K-12040) (N+430) g'->Q .normal a W):DP.wp Try.prog Q a w:=by
 have m:=hg.wf;have F:zw.cells.length=76:=rfl;unfold DP;unfold lM at k;refine wp_seq (wp_seq (rg aB hQ aff ?_));intro O e1;have n:=hg.O e1;have z:=(bD.refl LG aB w S ow).Y m m e1;have s0:=SX.refl aB O;have Y:=hr.J (bD.O e1 aB aB S ow);have a5:j<ls.length:=(aO.1 hj).1;obtain⟨M,B,a4,I,V,hS,o,p,X⟩:=Y.NO hj J (by rw[F];omega);rw[F]at hS o p;injection V with hA _ G;subst hA G;have a3:M<O.heap.size:=n.wf.s _ _ hS
 have C:cg O S (.agg I.toArray) d:=by obtain⟨lm,rfl,a0⟩:=dU.1 J;refine .agg I lm ?_ X;have:=fH a0;rw[this,o,Ty.dm];rfl
 obtain⟨-,x,-⟩:=F2 J C;obtain⟨op,E,-⟩:=x 49 rfl
 repeat refine sm k fun a k=>?_
 refine oR (el:=51) (sz:=76) k (by assumption) rfl (by decide) rfl rfl (by kernel_rfl) (by kernel_rfl) (by omega) (by omega) fun a k=>?_;rw[bP]at k
 repeat (first|refine sm k fun a k=>?_|refine ld k (eP a3 (fun h=>h) (p 49 _ E)) fun a k=>?_)
 refine cm (c:=decide (op=2)) k rfl rfl rfl fun a k=>?_;refine ay (bf k rfl ?_);have k:=k.sb (l:=lM j b (.slice (some ⟨M,B,none⟩) ls.length f));by_cases h2:op=2
 .rw[if_pos (by simpa using h2)];exact wp_exit (r _ _ k z n)
 rw[if_neg (by simpa using h2)];refine wp_skip ?_;unfold lM at k;clear s0;refine wp_seq (rg aB hQ afe ?_);intro w2 L;have u:=n.O L;have T:=z.Y m n.wf L;have s0:=SX.refl aB w2;have H:M<w2.heap.size:=u.wf.s _ _ hS
 repeat refine sm k fun a k=>?_
 refine oR (el:=51) (sz:=76) k (by assumption) rfl (by decide) rfl rfl (by kernel_rfl) (by kernel_rfl) (by omega) (by omega) fun a k=>?_;rw[bP]at k;refine lN (vs:=I) k rfl o (fun w' U q v V=>eP H (fun h=>h) (by rw[L.cell];exact p q v V) w' U) fun a k=>?_;refine gV (vs:=[aI b,.agg I.toArray]) k (by decide) rfl (by decide) Ks rfl (Jk u hn a1 (by decide) (by decide) hN hK J (C.J (bD.O L aB aB S ow)) (fun q y e=>h2 (by rw[E]at y;injection y with y;injection y with _ y;rw[y,e]))) ?_;rintro e w3 ⟨S3,G5,g3,rfl,BR,hg3,aaz⟩;refine⟨_,rfl,fun h=>absurd rfl h,fun a k=>ay ?_⟩;have P:=kM m u.wf T BR nE;have Z:=hn.J BR (fun _ h=>h);refine Pj (j:=j) (vl:=.slice (some ⟨M,B,none⟩) ls.length f) hQ hg3 aaz (k.sb) ?_;intro a W k R a2;exact t a W S3 G5 g3 k (kM m hg3.wf P R nE) a2 Z aaz
end
noncomputable def Dv:Code:=.seq (.region 9 VN false) .ret
noncomputable def Kg:Code:=.seq (.region 2 VS false) (.block 0 (.loop (.seq (.seq (.region 3 VR false) (.cond (.tmp 9) .skip (.exit 0))) (.seq (.block 1 DP) (.region 4 Qi false)))))
def Pm{w:Tam}{S:bE}{ls:Taf}{A:Tao Addr}{f:Nat}{a:Act}(t:Wf w S (fun _=>none))(hr:cg w S (.slice A ls.length f) (.list ls))(hh:Has (.list zw) (.list ls))(Z:ub [.list ls] <=1048576)(k:Kn 41 a [(0,.slice A ls.length f)]):(fS Try.f5).wp Try.prog (tu w) a w:=by
 have z:QP (tu w):=jD
 have a1:76*ls.length<=1048576:=by have h1:=PG (mz hh);simp only[ub,D.wt]at Z;omega
 rw[NS];show(Code.seq (.region 0 VU false) (.seq (.region 1 VT false) (.seq Kg Dv))).wp Try.prog (tu w) a w;refine wp_seq (rg aB z afk ?_);intro w1 e1;have G:=t.O e1;have y:bD LG aB w S (fun _=>none) w1 S (fun _=>none):=bD.O e1 LG aB S _;have q:=SX.refl aB w1
 repeat refine sm k fun a k=>?_
 refine ay ?_;have k:=k.sb (l:=[(2,.bool false),(0,.slice A ls.length f)]);clear q;refine wp_seq (rg aB z afj ?_);intro w4 e4;have F:=G.O e4;have U:=y.Y t G e4;have q:=SX.refl aB w4;refine gV (vs:=[.int .i64 ((3+1:Nat):Int),.int .i64 (3:Nat)]) k (by decide) rfl (by decide) OE rfl (yo (n:=3) (l:=1) F (by decide) (by decide)) ?_;rintro e w5 ⟨b,S5,KD,rfl,tj,Ms⟩;have s1:SX aB w4 w5:=⟨tj.size,fun bb hb hx=>tj.free bb hb rfl (fun h=>h)⟩;refine⟨_,rfl,fun _=>s1,fun a k=>?_⟩
 repeat refine sm k fun a k=>?_
 refine ay ?_;have C:=kM t F U tj nE;have H:pC KD:=(show pC (fun _=>none) from fun _ _ h=>by cases h).J tj (fun _ h=>h);have k:=k.sb (l:=[(3,aI b),(2,.bool false),(0,.slice A ls.length f)]);clear q s1 tj;have m:=GI.start (l:=1) (K:=12040*ls.length) (by decide) (by omega);unfold Kg;refine wp_seq (wp_seq (rg aB z afi ?_));intro w6 e6;have M:=Ms.O e6;have E:=C.Y t Ms.wf e6;have q:=SX.refl aB w6
 repeat refine sm k fun a k=>?_
 refine ay ?_
 refine wp_block (wp_loop_ghost (fun mm a W=>∃(j:Nat) (u:bE) (d:Ow) (B:GS),mm=ls.length-j/\j<=ls.length/\Kn 41 a (lM j b (.slice A ls.length f))/\bD LG aB w S (fun _=>none) W u d/\kv W u d b B/\pC d/\GI 4 (12040*ls.length-12040*j) (430*(j:Int)) B) (ls.length-0)
  ⟨0,S5,KD,gB 3 1 4,rfl,aF _,k.sb,E,M,H,by simpa using m⟩ ?_)
 clear k q m H M E Ms C;rintro mm a W ⟨j,u,d,B,rfl,hjl,k,y,YH,hn1,aaA⟩;unfold lM at k;refine wp_seq (wp_seq (rg aB (by exact z) afh ?_));intro R e7;have p:=YH.O e7;have x:=y.Y t YH.wf e7;have q:=SX.refl aB R
 repeat refine sm k fun a k=>?_
 refine cm (c:=decide ((j:Int)<(ls.length:Int))) k rfl rfl rfl fun a k=>?_;refine ay (bf k rfl ?_);have k:=k.sb (l:=lM j b (.slice A ls.length f));by_cases I:(j:Int)<(ls.length:Int)
 .rw[if_pos (by simpa using I)];refine wp_skip ?_;have J:j<ls.length:=by omega
  have hd:=mz hh _ (aN J)
  have r:∀a W S' bT O K' N',Kn 41 a (lM j b (.slice A ls.length f))->bD LG aB R u d W S' bT->kv W S' bT b O->pC bT->GI 4 K' N' O->12040*ls.length-12040*(j+1)<=K'->N'<=430*((j+1:Nat):Int)->
    (Code.region 4 Qi false).wp Try.prog (Exit.then (fun a W=>∃n',n'<ls.length-j/\∃(j:Nat) (u:bE) (d:Ow) (B:GS),n'=ls.length-j/\j<=ls.length/\Kn 41 a (lM j b (.slice A ls.length f))/\bD LG aB w S (fun _=>none) W u d/\kv W u d b B/\pC d/\GI 4 (12040*ls.length-12040*j) (430*(j:Int)) B) (Exit.inBlock 0 (Exit.then (fun a W=>Dv.wp Try.prog (tu w) a W) (tu w)))) a W:=by
   intro a P S8 X g8 K' N' k v o a0 L hK hN;have T:=kM t p.wf x v nE;unfold lM at k;refine rg aB (by exact z) afg ?_;intro w9 e9;have q:=SX.refl aB w9
   repeat refine sm k fun a k=>?_
   refine iK (s:=((j+1:Nat):Int)) k (by assumption) rfl (by decide) rfl rfl (wrap64 (by omega) (by omega)) fun a k=>?_
   repeat refine sm k fun a k=>?_
   refine ay ⟨ls.length-(j+1),by omega,j+1,S8,X,g8,rfl,by omega,k.sb,T.Y t o.wf e9,o.O e9,a0,L.le hK hN⟩
  refine wp_seq (wp_block (Pk (by exact z) p hn1 aaA (by omega) (by omega) (hr.J x) (aS J) hd k ?_ ?_))
  .intro a W k V hg;exact r a W u d B _ _ k V hg hn1 aaA (by omega) (by omega)
  intro a W S' bT O k V hg hn m;exact r a W S' bT O _ _ k V hg hn m (by omega) (by omega)
 rw[if_neg (by simpa using I)];refine wp_exit ?_;show Dv.wp Try.prog (tu w) a R;unfold Dv;unfold lM at k;refine wp_seq (rg aB z afc ?_);intro P e8;have o:=p.O e8;have v:=x.Y t p.wf e8;have q:=SX.refl aB P;refine gV (vs:=[]) k (by decide) rfl (by decide) Rz rfl (Gv o.wf.bare) ?_;rintro e w9 ⟨S9,ow9,rfl,X7⟩;have Y:=Kp.of X7;have s3:SX aB P w9:=⟨Y.size,fun bb hb hx=>Y.P2 bb hb⟩;refine⟨_,rfl,fun _=>s3,fun a k=>?_⟩
 repeat refine sm k fun a k=>?_
 refine ay ?_;exact wp_ret (r9 aeZ k rfl ⟨rfl,(Kp.of v).trans Y⟩).1
def Du:dL:=⟨[.list zw],[(false,[(.bool,none)])],none⟩
def c5:bu Try.prog 5 Du (fun p=>ub p<=1048576) (fun _=>.bool true) where
 enter:=XM
 calls _ w S vs ds C2 hlen KP UX V2:=by
  obtain⟨u,r0,rfl,n,t⟩:=aJ.1 UX;have l:r0=[]:=t;subst l
  obtain⟨f,rfl⟩:∃f,vs=[f]:=by
   have s:vs.length=1:=hlen
   match vs,s with
   | [f],_=>exact⟨f,rfl⟩
  have c:=KP 0 _ _ rfl rfl;obtain⟨q,rfl,_,_⟩:=bO.1 n;obtain⟨A,m,rfl⟩:=c.qf;have r:Wf w S (fun _=>none):=⟨C2,fun _ _ h=>(by cases h),fun _ _ _ _ h=>(by cases h)⟩;refine(kD (R:=fun e w'=>e=.returned (.bool true)/\Kp w w') (vs:=[.slice A q.length m]) Try.func5 Sm NS nt5 (by show 1<=41;omega) ?_).mono ?_
  .intro a k;have:=Pm r c n V2 (k.sb);rw[NS]at this;exact this
  rintro e w' ⟨rfl,kp⟩;refine⟨.bool true,S,fun _=>.nilIface,rfl,{size:=kp.size,os:=kp.os,tape:=kp.tape,output:=kp.output,block:=kp.P2},fun _ _ h=>h,fun b o h=>az (C2 b o h) kp.size,fun _ _ h=>.inl h,.inl ⟨_,rfl,?_⟩,fun j b d=>by simp[Du,cU]at d,fun j k b d=>by simp[Du,cU]at d,fun j d=>by simp[Du,cU]at d⟩;unfold gk;simp only[aj,if_false];exact⟨_,rfl,.bool true,dg.2 ⟨true,rfl⟩⟩
 zC ob h:=by cases h
 Hp ob h:=by cases h
end Go.Proofs.Ytjhmkaninmgilaa
