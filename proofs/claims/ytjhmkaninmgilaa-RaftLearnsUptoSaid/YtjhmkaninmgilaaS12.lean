/- Part 12 of the proof of RaftLearns; no condition. -/
import Derived.Test.YtjhmkaninmgilaaS11
import Derived.Test.YtjhmkaninmgilaaS09
import Derived.Test.YtjhmkaninmgilaaS07
import Derived.Test.YtjhmkaninmgilaaS05
import Derived.KernelRfl
set_option linter.defProp false
set_option linter.unusedVariables false
set_option linter.unusedSimpArgs false
set_option maxHeartbeats 4000000
open Go.IntKind (i64)
namespace Go.Proofs.Ytjhmkaninmgilaa
open Go Go.RowKit Go.dF Go.Proofs
attribute [local irreducible] TL
section
variable{w w0:Tam}{S S0:bE}{ow kG:Ow}{b i j:Nat}{g g':GS}{R:GR}{Q:Iv}{a:Act}
def kv.O{d:Tam}(h:kv w S ow b g)(e:vm w d):kv d S ow b g:=by obtain⟨l,c,k,f⟩:=h;exact⟨l,c.O e,k,f⟩
def kv.wf(h:kv w S ow b g):Wf w S ow:=by obtain⟨_,c,_⟩:=h;exact c.wf
def GH{y:Tac}(h:kv w S ow b g)(hn:pC ow)(b5:1<=g.ew.length/\g.ew.length<=5)(h0:y[0]?=some (.int i64 6))(O:y[1]?=some (.int i64 0))(a8:uf g.net {g with net:=[]}=true):
  Calls Try.prog 10 [aI b,.agg y.toArray].toArray w (rD w S ow b (Qj g)):=by
 refine kD Try.func10 Hl OM aaj (by show 2<=359;omega) ?_;intro a k;have m:=jD (P:=Try.prog) (fn:=Try.f10) (R:=rD w S ow b (Qj g));have d:=h.wf;refine wp_seq (rg aB m SH ?_);intro T W;refine rW (us:=y) k (by decide) rfl (by decide) rfl rfl (fun h=>absurd rfl h) fun a k=>?_;refine ay ?_;have q:=d.O W;have C:bD LG aB w S ow T S ow:=bD.O W LG aB S ow;obtain⟨t,p⟩:=bD.alloc q (.cells y.toArray 51);have o:=fF.new q 51 y;have s:=C.Z d q t nE;have v:kv (T.alloc (.cells y.toArray 51)) S ow b g:=by obtain⟨R',x,O,h2⟩:=h.O W;exact⟨R',x.J t p,O,h2⟩
 generalize b6:T.heap.size=b3 at k o;generalize T.alloc _=w2 at v o s p⊢;have k:=k.sb (l:=[(3,.pointer (some ⟨b3,0,none⟩)),(0,aI b)]);clear t C q W;refine wp_seq (jy (n0:=7) aB mix (by exact m) SF (fun _=>by kernel_rfl) ?_);intro w3 V;have u:=o.O V;obtain⟨R,f,F,a7⟩:=v.O V;have B:=s.Y d p V;have n:=SX.refl aB w3;obtain⟨Al,b4,b2⟩:=f.arr.slice;have b1:(R.la.map aI).length=g.ew.length:=by rw[ao,F];exact f.rn
 repeat refine sm k fun a k=>?_
 refine ld k (u.cell id O) fun a k=>?_
 repeat refine sm k fun a k=>?_
 refine ld k (f.cell id (j:=2) rfl) fun a k=>?_;rw[b2,b1]at k;refine Hi k (by assumption) rfl (by decide) rfl (by kernel_rfl) fun a k=>?_;refine gV (vs:=[.int i64 0,.int i64 (g.ew.length:Int)]) k (by decide) rfl (by decide) c8.enter rfl (kX f.wf (by decide) ⟨by have:i64.min=-9223372036854775808:=rfl;omega,by have:i64.max=9223372036854775807:=rfl;omega⟩ (by omega)) ?_;rintro e w4 ⟨rfl,rH,KI⟩;have s4:=rH.vi aB;refine⟨_,rfl,fun _=>s4,fun a k=>?_⟩
 repeat refine sm k fun a k=>?_
 refine ay ?_;have E:=u.J rH id;have N:kv w4 S ow b g:=⟨R,f.J rH KI,F,a7⟩;have z:=B.Z d f.wf rH nE;have k:=k.sb (l:=[(3,.pointer (some ⟨b3,0,none⟩)),(0,aI b)]);clear rH s4 n B f V v u o s p;refine wp_seq (rg aB m SE ?_);intro w5 U;have D:=E.O U;have r:=N.O U;have A:=z.Y d KI U;have n:=SX.refl aB w5
 repeat (first|refine sm k fun a k=>?_|refine ld k (D.cell id h0) fun a k=>?_)
 refine gV (vs:=[.int i64 6,.int i64 12]) k (by decide) rfl (by decide) c8.enter rfl (kX r.wf (by decide) (by decide) (by decide)) ?_;rintro e w6 ⟨rfl,yT,KH⟩;refine⟨_,rfl,fun h=>absurd rfl h,fun a k=>?_⟩;refine ay ?_;have b0:kv w6 S ow b g:=by obtain⟨R',x,O,h2⟩:=r;exact⟨R',x.J yT KH,O,h2⟩
 have a2:=A.Z d r.wf yT nE;rw[show ib 6 12=6 from by decide]at k;have k:=k.sb (l:=[(32,.int i64 6),(0,aI b)]);clear yT n A r D U N E z KI;refine wp_block (wp_seq (wp_seq (rg aB m SD ?_)));intro w7 e7;have M:=b0.O e7;have a5:=a2.Y d KH e7;have n:=SX.refl aB w7;refine cm (c:=false) k rfl rfl rfl fun a k=>?_;refine sm k fun a k=>?_;refine ay (bf k rfl ?_);have k:=k.sb (l:=[(32,.int i64 6),(0,aI b)]);refine rg aB m SB ?_;intro w8 e8;have L:=M.O e8;have a4:=a5.Y d M.wf e8;have n:=SX.refl aB w8;refine cm (c:=false) k rfl rfl rfl fun a k=>?_;refine sm k fun a k=>?_;refine ay (bf k rfl ?_);have k:=k.sb (l:=[(32,.int i64 6),(0,aI b)]);refine wp_seq (rg aB m SA ?_);intro w9 e9;have K:=L.O e9;have a3:=a4.Y d L.wf e9;have n:=SX.refl aB w9;refine cm (c:=false) k rfl rfl rfl fun a k=>?_;refine sm k fun a k=>?_;refine ay (bf k rfl ?_);have k:=k.sb (l:=[(32,.int i64 6),(0,aI b)]);refine wp_seq (wp_seq (rg aB m Oo ?_));intro wa ea;have J:=K.O ea;have a1:=a3.Y d K.wf ea;have n:=SX.refl aB wa;refine cm (c:=false) k rfl rfl rfl fun a k=>?_;refine sm k fun a k=>?_;refine ay (bf k rfl ?_);have k:=k.sb (l:=[(32,.int i64 6),(0,aI b)]);refine wp_seq (rg aB m On ?_);intro wb eb;have I:=J.O eb;have a0:=a1.Y d J.wf eb;have n:=SX.refl aB wb;refine cm (c:=false) k rfl rfl rfl fun a k=>?_;refine sm k fun a k=>?_;refine ay (bf k rfl ?_);have k:=k.sb (l:=[(32,.int i64 6),(0,aI b)]);refine rg aB m Om ?_;intro wc ec;have H:=I.O ec;have Z:=a0.Y d I.wf ec;have n:=SX.refl aB wc;refine cm (c:=false) k rfl rfl rfl fun a k=>?_;refine sm k fun a k=>?_;refine ay (bf k rfl ?_);have k:=k.sb (l:=[(32,.int i64 6),(0,aI b)]);refine wp_seq (rg aB m Ol ?_);intro wd ed;have G:=H.O ed;have Y:=Z.Y d H.wf ed;have n:=SX.refl aB wd;refine cm (c:=true) k rfl rfl rfl fun a k=>?_;refine sm k fun a k=>?_;refine ay (bf k rfl ?_);refine Fv (by exact m) G hn a8 (k.sb) ?_;intro a we Se a6 k X a9;exact(mb Su k ⟨Se,a6,rfl,kM d G.wf Y X nE,a9⟩).2
end
def gT:Nat->GS
 |0=>gB 3 0 3
 |n+1=>Fa 0 0 (gT n)
def gD:Nat->GS
 |0=>gT 10
 |n+1=>Qj (gD n)
def acF:((List.range 10).all fun n=>Hr 0 0 (gT n))=true:=by decide+kernel
def acG:((List.range 4).all fun n=>uf (gD n).net {gD n with net:=[]}&&decide (1<=(gD n).ew.length)&&decide ((gD n).ew.length<=5))=true:=by decide+kernel
def XJ:(0<(gD 4).ew.length/\RU (cG (gD 4) 0) 0=true)/\(cG (gD 4) 0).role=2/\(cG (gD 4) 0).bB=1/\(cG (gD 4) 0).term=1/\(gD 4).bad=false:=by decide+kernel
noncomputable def TH:Tac:=((Try.prog.built 51 [(0,.int i64 6)]).getD #[]).toList
section
variable{w w0:Tam}{S S0:bE}{ow kG:Ow}{b i j:Nat}{g g':GS}{R:GR}{Q:Iv}{a:Act}
def nJ(w:Tam)(S:bE):Iv:=bodyPost Try.prog Try.f13 (fun e d=>∃f c,e=.returned (.bool true)/\bD LG aB w S (fun _=>none) d f c)
noncomputable def V0:Code:=.seq (.region 10 HE false) (.seq (.region 11 HD false) .ret)
def LD(o:Wf w0 S0 (fun _=>none))(st:bD LG aB w0 S0 (fun _=>none) w S ow)(h:kv w S ow b (gD 4))(k:Kn 54 a [(1,aI b)]):V0.wp Try.prog (nJ w0 S0) a w:=by
 have hQ:QP (nJ w0 S0):=jD;obtain⟨⟨M,A⟩,f,n,d,q⟩:=XJ;have J:=iG M;generalize gD 4=g at h M A f n d q J;generalize cG g 0=x at A f n d J;obtain⟨R,gm,D,a0⟩:=h;rw[q]at gm;unfold V0;refine wp_seq (rg aB hQ WT ?_);intro w1 e1;have m:=gm.O e1;have s0:=SX.refl aB w1
 repeat (first|refine sm k fun a k=>?_|refine ld k (m.cell id rfl) fun a k=>?_)
 obtain⟨bs,O,L,a1⟩:=m.ew 0 x J;obtain⟨bl,a4,V,P,a2,N⟩:=m.arr.elem (i:=0) (u:=aI bs) (by rw[D,ab,O];rfl);have U:(R.la.map aI).length=g.ew.length:=by rw[ao,D];exact m.rn
 rw[V]at k;refine Db (el:=52) (sz:=1) (s:=0) k (by assumption) rfl (by decide) rfl rfl (by kernel_rfl) (by kernel_rfl) (by rw[U];exact M) fun a k=>?_;refine ky (v:=aI bs) k (by assumption) rfl (by decide) rfl (by kernel_rfl) (by kernel_rfl) (eP P (fun h=>h) (by rw[bK];exact N)) fun a k=>?_;refine gV (vs:=[aI bs]) k (by decide) rfl (by decide) U5.enter rfl (mU L m.wf (zB A)) ?_;rintro e F ⟨A1,n1,c1,A2,n2,c2,rfl,-,nf,ud⟩;refine⟨_,rfl,fun _=>nf.vi _,fun a k=>?_⟩;have Z:=m.J nf ud;have s1:=nf.vi aB;refine jO (nn:=9) k (by decide) rfl (by decide) (by kernel_rfl) (fun E _=>s1.trans (SX.alloc _ _ _)) fun E I a k=>?_;refine ln (vs:=G0 x (.slice A1 n1 c1) (.slice A2 n2 c2)) k (by decide) rfl (by kernel_rfl) rfl rfl rfl (heap_alloc_new F _) (by show 0+9<=E.toArray.size;rw[bV];omega) (by simp[G0,Value.oneCell']) (fun h=>absurd rfl h) fun a k=>?_;refine ay ?_;have K:(G0 x (.slice A1 n1 c1) (.slice A2 n2 c2)).length=9:=rfl;rw[fill_eq I K];obtain⟨t,C,z⟩:=kU (T:=67) (zs:=E) (us:=G0 x (.slice A1 n1 c1) (.slice A2 n2 c2)) ud;have p:=Z.J t C;have H:=st.Y o gm.wf e1;have B:=H.Z o m.wf nf nE;have r:=B.Z o ud t (fun bb hb=>by rw[show bb=_ from hb];exact B.size);generalize a3:F.heap.size=b4 at k z p r⊢;generalize hW:(F.alloc _).setRow b4 _=W at z p r⊢;have k:=k.sb (l:=[(4,.pointer (some ⟨b4,0,none⟩)),(1,aI b)]);clear t C s0 s1;refine wp_seq (rg aB hQ WS ?_);intro w4 e4;have Y:=p.O e4;have y:=z.O e4;have G:=r.Y o p.wf e4;have s0:=SX.refl aB w4;have l0:=y.cell (X:=aB) (fun h=>h) (j:=0) (v:=.int i64 x.role) rfl;have l2:=y.cell (X:=aB) (fun h=>h) (j:=2) (v:=.int i64 x.term) rfl;have l4:=y.cell (X:=aB) (fun h=>h) (j:=4) (v:=.int i64 x.bB) rfl;rw[f]at l0;rw[d]at l2;rw[n]at l4
 repeat (first|refine sm k fun a k=>?_|refine ld k (l0) fun a k=>?_)
 refine cm (c:=true) k rfl rfl rfl fun a k=>?_
 repeat (first|refine sm k fun a k=>?_|refine ld k (l4) fun a k=>?_)
 refine cm (c:=true) k rfl rfl rfl fun a k=>?_;refine pk k rfl rfl fun a k=>?_
 repeat (first|refine sm k fun a k=>?_|refine ld k (l2) fun a k=>?_)
 refine cm (c:=true) k rfl rfl rfl fun a k=>?_;refine pk k rfl rfl fun a k=>?_
 repeat (first|refine sm k fun a k=>?_|refine ld k (Y.cell id rfl) fun a k=>?_)
 refine qy k (by assumption) rfl (by decide) rfl fun a k=>?_;refine pk k rfl rfl fun a k=>?_
 repeat refine sm k fun a k=>?_
 exact ay (wp_ret (r9 aa0 k rfl ⟨S,ow,rfl,G⟩).1)
noncomputable def aan:Code:=.seq (.seq (.region 6 Ny false) (.block 2 (.loop (.seq (.seq (.region 7 Nx false) (.cond (.tmp 20) .skip (.exit 2))) (.seq (.block 3 (.region 9 Nv false)) (.region 8 Nw false)))))) V0
def LC(d:Wf w0 S0 (fun _=>none))(p:bD LG aB w0 S0 (fun _=>none) w S ow)(h:kv w S ow b (gT 10))(k:Kn 54 a [(1,aI b)]):aan.wp Try.prog (nJ w0 S0) a w:=by
 have r:QP (nJ w0 S0):=jD;unfold aan;refine wp_seq (wp_seq (rg aB r abM ?_));intro C A;have q:=SX.refl aB C
 repeat refine sm k fun a k=>?_
 refine ay ?_
 refine wp_block (wp_loop_ghost (fun D a W=>∃(j:Nat) (B:bE) (f:Ow),D=4-j/\j<=4/\Kn 54 a [(3,.int i64 (j:Int)),(1,aI b)]/\bD LG aB w0 S0 (fun _=>none) W B f/\kv W B f b (gD j)) (4-0)
  ⟨0,S,ow,rfl,by omega,k.sb,p.Y d h.wf A,h.O A⟩ ?_)
 clear k q A C h p;rintro D a W ⟨j,B,f,rfl,hj,k,p,h⟩;refine wp_seq (wp_seq (rg aB r abL ?_));intro L I;have z:=h.O I;have n:=p.Y d h.wf I;have q:=SX.refl aB L
 repeat refine sm k fun a k=>?_
 refine cm (c:=decide ((j:Int)<4)) k rfl rfl rfl fun a k=>?_;refine ay (bf k rfl ?_);have k:=k.sb (l:=[(3,.int i64 (j:Int)),(1,aI b)]);by_cases o:(j:Int)<4
 .rw[if_pos (by simpa using o)];refine wp_skip ?_;have E:=bY.1 acG j (cI.2 (by omega));simp only[aT,bk]at E;obtain⟨⟨y,x⟩,v⟩:=E;refine wp_seq (wp_block (rg aB r abJ ?_));intro K H;have F:=z.O H;have m:=n.Y d z.wf H;have q:=SX.refl aB K
  repeat refine sm k fun a k=>?_
  refine mM (ps:=[(0,.int i64 6)]) (vs:=TH) k (by assumption) rfl (by decide) rfl (by kernel_rfl) fun a k=>?_;refine gV (vs:=[aI b,.agg TH.toArray]) k (by decide) rfl (by decide) Ks rfl (GH F (fun N l M=>(m.iw N l M).elim (fun e=>by cases e) id) ⟨x,v⟩ (by kernel_rfl) (by kernel_rfl) y) ?_;rintro e O ⟨S4,UP,rfl,rH,h4⟩;refine⟨_,rfl,fun h=>absurd rfl h,fun a k=>?_⟩;refine ay ?_;have t:=kM d F.wf m rH nE;have k:=k.sb (l:=[(3,.int i64 (j:Int)),(1,aI b)]);refine rg aB r abK ?_;intro J G;have q:=SX.refl aB J
  repeat refine sm k fun a k=>?_
  refine iK (s:=((j+1:Nat):Int)) k (by assumption) rfl (by decide) rfl rfl (wrap64 (by omega) (by omega)) fun a k=>?_
  repeat refine sm k fun a k=>?_
  exact ay ⟨4-(j+1),by omega,j+1,S4,UP,rfl,by omega,k.sb,t.Y d h4.wf G,h4.O G⟩
 rw[if_neg (by simpa using o)];refine wp_exit ?_;have u:j=4:=by omega
 subst u;exact LD d n z (k.sb)
def Gv(d:Wf w0 S0 (fun _=>none)):Calls Try.prog 13 #[] w0 (fun e V=>∃S' B,e=.returned (.bool true)/\bD LG aB w0 S0 (fun _=>none) V S' B):=by
 refine kD (vs:=[]) Try.func13 Oe XU afR (by show 0<=54;omega) ?_;intro a k;have q:QP (nJ w0 S0):=jD;show Code.wp Try.prog _ (nJ w0 S0) a w0;refine wp_seq (rg aB q abS ?_);intro J G;have x:=SX.refl aB J
 repeat refine sm k fun a k=>?_
 refine ay ?_;have p:=d.O G;have u:bD LG aB w0 S0 (fun _=>none) J S0 (fun _=>none):=bD.O G LG aB S0 _;refine wp_seq (rg (fun _=>True) q abR ?_);intro U F;have o:=p.O F;have t:=u.Y d p F;refine gV (vs:=[.int i64 ((3:Nat):Int),.int i64 ((3:Nat):Int)]) k (by decide) rfl (by decide) OE rfl (yo (n:=3) (l:=0) o (by omega) (by omega)) ?_;rintro e w3 ⟨b,S3,G5,rfl,BR,h3⟩;have K:SX (fun _=>True) U w3:=⟨BR.size,fun _ _ h=>absurd trivial h⟩;refine⟨_,rfl,fun _=>K,fun a k=>?_⟩
 repeat refine sm k fun a k=>?_
 refine ay ?_;have r:=kM d o t BR nE;have k:=k.sb (l:=[(1,aI b)]);refine wp_seq (wp_seq (rg aB q abQ ?_));intro I E;have x:=SX.refl aB I
 repeat refine sm k fun a k=>?_
 refine ay ?_
 refine wp_block (wp_loop_ghost (fun L a W=>∃(j:Nat) (H:bE) (m:Ow),L=10-j/\j<=10/\Kn 54 a [(2,.int i64 (j:Int)),(1,aI b)]/\bD LG aB w0 S0 (fun _=>none) W H m/\kv W H m b (gT j)) (10-0)
  ⟨0,S3,G5,rfl,by omega,k.sb,r.Y d h3.wf E,h3.O E⟩ ?_)
 clear k x E I r K h3 BR t o F u p G;rintro L a W ⟨j,H,m,rfl,hj,k,st,h⟩;refine wp_seq (wp_seq (rg aB q abP ?_));intro T O;have D:=h.O O;have f:=st.Y d h.wf O;have x:=SX.refl aB T
 repeat refine sm k fun a k=>?_
 refine cm (c:=decide ((j:Int)<10)) k rfl rfl rfl fun a k=>?_;refine ay (bf k rfl ?_);have k:=k.sb (l:=[(2,.int i64 (j:Int)),(1,aI b)]);by_cases v:(j:Int)<10
 .rw[if_pos (by simpa using v)];refine wp_skip ?_;have Y:=bY.1 acF j (cI.2 (by omega));refine wp_seq (wp_block (I3 (by exact q) D (fun Z l X=>(f.iw Z l X).elim (fun e=>by cases e) id) Y k ?_));intro a w7 S7 A k z M;have y:=kM d D.wf f z nE;refine rg aB q abO ?_;intro P N;have x:=SX.refl aB P
  repeat refine sm k fun a k=>?_
  refine iK (s:=((j+1:Nat):Int)) k (by assumption) rfl (by decide) rfl rfl (wrap64 (by omega) (by omega)) fun a k=>?_
  repeat refine sm k fun a k=>?_
  exact ay ⟨10-(j+1),by omega,j+1,S7,A,rfl,by omega,k.sb,y.Y d M.wf N,M.O N⟩
 rw[if_neg (by simpa using v)];refine wp_exit ?_;have C:j=10:=by omega
 subst C;exact LC d f D (k.sb)
end
def _root_.Go.dF.vm.tr{w c w2:Tam}(h:vm w c)(k:vm c w2):vm w w2:=by obtain⟨p,o,m,l⟩:=h;obtain⟨j,f,e,d⟩:=k;exact⟨j.trans p,f.trans o,e.trans m,d.trans l⟩
section
variable{w w0:Tam}{S S0:bE}{ow kG:Ow}{b b3 i n K:Nat}{N:Int}{g:GS}{dv:Tac}{Q:Iv}{a:Act}
def nb{id e o:Nat}{c d:Int}{ops:Tad}{l:Tab}{p:Iv}(x:QP Q)(t:bJ ops=[(some e,.binOp .eql 3 (.tmp 32) (.const (.int i64 c)) 3,none),(some o,.assign (.tmp e),none)])(k:Kn 359 a l)(s:lk l 32=some (.int i64 d))(m:e<359)(j:o<359)(h:∀r f,vm w f->Kn 359 r ((o,.bool (d==c))::(e,.bool (d==c))::l)->p .normal r f)(u:∀c a w,p (.panic c) a w=Q (.panic c) a w:=by intro _ _ _;rfl):(Code.region id ops false).wp Try.prog p a w:=by refine rg aB x t ?_ (fun h=>by cases h) u;intro f y;have q:=SX.refl aB f;refine cm (c:=d==c) k s rfl rfl (fun a k=>?_) q rfl m;refine sm k (v:=.bool (d==c)) (fun a k=>?_) q rfl j (by show lk ((e,Value.bool (d==c))::l) e=_;simp[lk]);exact ay (h _ _ y k)
noncomputable def FZ(A5 A7 A14 A27 A35 A43 A49 A53:Code):Code:=.seq (.seq (.region 3 NH false) (.cond (.tmp 33) .skip (.region 4 NG false))) (.cond (.tmp 33) A5 (.seq (.region 6 NF false) (.cond (.tmp 50) A7 (.seq (.seq (.region 11 Io false) (.cond (.tmp 70) .skip (.seq (.region 12 Im false) (.cond (.tmp 70) .skip (.region 13 Il false))))) (.cond (.tmp 70) A14 (.seq (.region 26 H7 false) (.cond (.tmp 163) A27 (.seq (.region 34 HY false) (.cond (.tmp 222) A35 (.seq (.seq (.region 41 HR false) (.cond (.tmp 260) .skip (.region 42 HQ false))) (.cond (.tmp 260) A43 (.seq (.region 48 HM false) (.cond (.tmp 291) A49 (.seq (.region 52 HJ false) (.cond (.tmp 328) A53 .skip)))))))))))))))
def km(c s:Int)(b3 b:Nat):Tab:=[(32,.int i64 c),(4,.int i64 s),(3,aI b3),(0,aI b)]
def agi{A5 A7 A14 A27 A35 A43 A49 A53:Code}{c s:Int}(d:QP Q)(k:Kn 359 a (km c s b3 b))(H:∀(A:Code),(((c=0\/c=1)/\A=A5)\/(c=2/\A=A7)\/((c=3\/c=4\/c=5)/\A=A14)\/(c=6/\A=A27)\/(c=7/\A=A35)\/((c=8\/c=9)/\A=A43)\/(c=10/\A=A49)\/(c=11/\A=A53)\/A=.skip)->∀P L,vm w L->Kn 359 P (km c s b3 b)->A.wp Try.prog Q P L):
  (FZ A5 A7 A14 A27 A35 A43 A49 A53).wp Try.prog Q a w:=by
 unfold FZ;refine wp_seq (wp_seq (nb d SD k rfl (by decide) (by decide) fun a w1 O k=>?_));refine bf k rfl ?_;by_cases o:c=0
 .rw[if_pos (by simpa using o)];refine wp_skip (bf k rfl ?_);rw[if_pos (by simpa using o)];exact H A5 (.inl ⟨.inl o,rfl⟩) _ _ O (k.sb (l:=km c s b3 b))
 rw[if_neg (by simpa using o)];have k:=k.sb (l:=km c s b3 b);refine nb d SB k rfl (by decide) (by decide) fun a w2 C k=>?_;have C:=O.tr C;refine bf k rfl ?_;by_cases J:c=1
 .rw[if_pos (by simpa using J)];exact H A5 (.inl ⟨.inr J,rfl⟩) _ _ C (k.sb (l:=km c s b3 b))
 rw[if_neg (by simpa using J)];have k:=k.sb (l:=km c s b3 b);refine wp_seq (nb d SA k rfl (by decide) (by decide) fun a w3 B k=>?_);have B:=C.tr B;refine bf k rfl ?_;by_cases I:c=2
 .rw[if_pos (by simpa using I)];exact H A7 (.inr (.inl ⟨I,rfl⟩)) _ _ B (k.sb (l:=km c s b3 b))
 rw[if_neg (by simpa using I)];have k:=k.sb (l:=km c s b3 b);refine wp_seq (wp_seq (nb d Oo k rfl (by decide) (by decide) fun a w4 z k=>?_));have z:=B.tr z;refine bf k rfl ?_;by_cases m:c=3
 .rw[if_pos (by simpa using m)];refine wp_skip (bf k rfl ?_);rw[if_pos (by simpa using m)];exact H A14 (.inr (.inr (.inl ⟨.inl m,rfl⟩))) _ _ z (k.sb (l:=km c s b3 b))
 rw[if_neg (by simpa using m)];have k:=k.sb (l:=km c s b3 b);refine wp_seq (nb d On k rfl (by decide) (by decide) fun a Z y k=>?_);have y:=z.tr y;refine bf k rfl ?_;by_cases j:c=4
 .rw[if_pos (by simpa using j)];refine wp_skip (bf k rfl ?_);rw[if_pos (by simpa using j)];exact H A14 (.inr (.inr (.inl ⟨.inr (.inl j),rfl⟩))) _ _ y (k.sb (l:=km c s b3 b))
 rw[if_neg (by simpa using j)];have k:=k.sb (l:=km c s b3 b);refine nb d Om k rfl (by decide) (by decide) fun a Y x k=>?_;have x:=y.tr x;refine bf k rfl ?_;by_cases G:c=5
 .rw[if_pos (by simpa using G)];exact H A14 (.inr (.inr (.inl ⟨.inr (.inr G),rfl⟩))) _ _ x (k.sb (l:=km c s b3 b))
 rw[if_neg (by simpa using G)];have k:=k.sb (l:=km c s b3 b);refine wp_seq (nb d Ol k rfl (by decide) (by decide) fun a X v k=>?_);have v:=x.tr v;refine bf k rfl ?_;by_cases F:c=6
 .rw[if_pos (by simpa using F)];exact H A27 (.inr (.inr (.inr (.inl ⟨F,rfl⟩)))) _ _ v (k.sb (l:=km c s b3 b))
 rw[if_neg (by simpa using F)];have k:=k.sb (l:=km c s b3 b);refine wp_seq (nb d Xe k rfl (by decide) (by decide) fun a W u k=>?_);have u:=v.tr u;refine bf k rfl ?_;by_cases E:c=7
 .rw[if_pos (by simpa using E)];exact H A35 (.inr (.inr (.inr (.inr (.inl ⟨E,rfl⟩))))) _ _ u (k.sb (l:=km c s b3 b))
 rw[if_neg (by simpa using E)];have k:=k.sb (l:=km c s b3 b);refine wp_seq (wp_seq (nb d W7 k rfl (by decide) (by decide) fun a V t k=>?_));have t:=u.tr t;refine bf k rfl ?_;by_cases h:c=8
 .rw[if_pos (by simpa using h)];refine wp_skip (bf k rfl ?_);rw[if_pos (by simpa using h)];exact H A43 (.inr (.inr (.inr (.inr (.inr (.inl ⟨.inl h,rfl⟩)))))) _ _ t (k.sb (l:=km c s b3 b))
 rw[if_neg (by simpa using h)];have k:=k.sb (l:=km c s b3 b);refine nb d W6 k rfl (by decide) (by decide) fun a U r k=>?_;have r:=t.tr r;refine bf k rfl ?_;by_cases D:c=9
 .rw[if_pos (by simpa using D)];exact H A43 (.inr (.inr (.inr (.inr (.inr (.inl ⟨.inr D,rfl⟩)))))) _ _ r (k.sb (l:=km c s b3 b))
 rw[if_neg (by simpa using D)];have k:=k.sb (l:=km c s b3 b);refine wp_seq (nb d W1 k rfl (by decide) (by decide) fun a T q k=>?_);have q:=r.tr q;refine bf k rfl ?_;by_cases f:c=10
 .rw[if_pos (by simpa using f)];exact H A49 (.inr (.inr (.inr (.inr (.inr (.inr (.inl ⟨f,rfl⟩))))))) _ _ q (k.sb (l:=km c s b3 b))
 rw[if_neg (by simpa using f)];have k:=k.sb (l:=km c s b3 b);refine wp_seq (nb d WY k rfl (by decide) (by decide) fun a R p k=>?_);have p:=q.tr p;refine bf k rfl ?_;have M:=k.sb (l:=km c s b3 b);by_cases e:c=11
 .rw[if_pos (by simpa using e)];exact H A53 (.inr (.inr (.inr (.inr (.inr (.inr (.inr (.inl ⟨e,rfl⟩)))))))) _ _ p M
 rw[if_neg (by simpa using e)];exact H .skip (.inr (.inr (.inr (.inr (.inr (.inr (.inr (.inr rfl)))))))) _ _ p M
end
structure DS(w:Tam)(S:bE)(ow:Ow)(b b3:Nat)(dv:Tac)(n K:Nat)(N:Int)(g:GS):Prop where
 yE:kv w S ow b g
 PV:pC ow
 lx:fF w S ow b3 51 dv
 gi:GI n K N g
 n5:n<=5
 nN:N<=99999000
section
variable{w w0 w':Tam}{S S0 S':bE}{ow kG bT:Ow}{b b3 i n K L:Nat}{N c:Int}{g g':GS}{dv:Tac}{Q:Iv}{a:Act}
def DS.O{d:Tam}(h:DS w S ow b b3 dv n K N g)(e:vm w d):DS d S ow b b3 dv n K N g:=⟨h.yE.O e,h.PV,h.lx.O e,h.gi,h.n5,h.nN⟩
def DS.to{j:Nat}{e:Int}(h:DS w S ow b b3 dv n K N g)(f:bD LG aB w S ow w' S' bT)(k:kv w' S' bT b g')(d:GI n j e g')(l:e<=99999000):DS w' S' bT b b3 dv n j e g':=
 ⟨k,h.PV.J f (fun _ h=>h),h.lx.J f id,d,h.n5,l⟩
def DS.wf(h:DS w S ow b b3 dv n K N g):Wf w S ow:=h.yE.wf
def GI.tick(h:GI n (L+28) N g)(hi:i<n)(d:N<=100000000)(c:Int):Ok (cG g i) 20/\UQ i (jz c (cG g i)).1 (hJ i (jz c (cG g i)).2 g)=true/\GI n L (N+1) (Fa i c g):=by obtain⟨f,e,m,p⟩:=h.get hi;obtain⟨l,k⟩:=h.KW hi d rfl (o:=(jz c (cG g i)).1) (s':=(jz c (cG g i)).2) ((LP m f (K:=L) (e.le (by omega))).mono (ar _) (aU _)) h.sf (fun w lg _ d j=>Qz (K:=0) j (e.le (by omega)) d);exact⟨e.ok f (by omega) (by omega),l,k.1⟩
def aaM(hQ:QP Q)(h:DS w S ow b b3 dv n (L+28) N g)(hi:i<n)(Z:dv[11]?=some (.int i64 c))(J:jX i64 c)(k:Kn 359 a [(4,.int i64 (i:Int)),(3,aI b3),(0,aI b)])(m:∀a W S' bT g',Kn 359 a [(4,.int i64 (i:Int)),(3,aI b3),(0,aI b)]->bD LG aB w S ow W S' bT->kv W S' bT b g'->GI n L (N+1) g'->Q .normal a W):(Code.region 5 JQ true).wp Try.prog Q a w:=by
 have f:=h.gi;have a1:=h.nN;obtain⟨F,s,t⟩:=f.tick hi (by omega) c;have a2:=h.n5;have p:i<g.ew.length:=by rw[f.n1];exact hi
 have D:g.aX.length<=5:=by rw[f.len.aX];exact f.len.n5
 obtain⟨R,y,o,C⟩:=h.yE;have lx:=h.lx;refine JB (n0:=12) (fun X=>ow X=some (1000+i)) mix (by exact hQ) ab4 (by kernel_rfl) ?_;intro w1 U;have d:=y.O U;have j:=lx.O U;have A:=(bD.refl LG aB w S ow).Y y.wf y.wf U;have s0:=SX.refl (fun X=>ow X=some (1000+i)) w1;have q:¬ow b=some (1000+i):=by rw[d.obj.ow];intro h;injection h with h;omega
 have r:¬ow b3=some (1000+i):=by rw[j.ow];intro h;cases h
 obtain⟨V,x,G,a0⟩:=d.ew i _ (iG p);obtain⟨bl,a3,P,M,E,I⟩:=d.arr.elem (i:=i) (u:=aI V) (by rw[o,ab,x];rfl);have O:(R.la.map aI).length=g.ew.length:=by rw[ao,o];exact d.rn
 have B:¬ow bl=some (1000+i):=by rw[E];intro h;injection h with h;omega
 repeat (first|refine sm k fun a k=>?_|refine ld k (j.cell r Z) fun a k=>?_|refine ld k (d.cell q rfl) fun a k=>?_)
 rw[P]at k;refine wQ (el:=52) (sz:=1) k rfl rfl (by rw[O];exact p) fun a k=>?_;refine ky (v:=aI V) k (by assumption) rfl (by decide) rfl (by kernel_rfl) (by kernel_rfl) (eP M B (by rw[bK];exact I)) fun a k=>?_
 repeat (first|refine sm k fun a k=>?_|refine ld k (j.cell r Z) fun a k=>?_|refine ld k (d.cell q rfl) fun a k=>?_)
 refine gV (vs:=[aI V,.int i64 c]) k (by decide) rfl (by decide) YM.enter rfl (xm G d.wf (by omega) J F) ?_;rintro e w2 ⟨v,S2,EO,rfl,nf,ud,EW,YF,UY⟩;refine⟨_,rfl,fun _=>SX.iw (fun _ h=>h) nf,fun a k=>?_⟩;have T:=d.uJ (i:=i) nf ud p x EW (fE EW) D;have z:=A.eY y.wf d.wf nf (.inr (by omega));have H:pC EO:=h.PV.J nf (fun l Y=>by simp only[iI]at Y;subst Y;exact .inr (by omega));refine gV (vs:=[aI b,.int i64 (i:Int),v,.bool false]) k (by decide) rfl (by decide) qL rfl (qG (g:=hJ i (jz c (cG g i)).2 g) ⟨_,T,o,C⟩ H YF UY s) ?_;rintro e w5 ⟨S5,KD,rfl,tj,Ms⟩;refine⟨_,rfl,fun h=>absurd rfl h,fun a k=>?_⟩;exact ay (m _ _ S5 KD (Fa i c g) (k.sb) (kM y.wf ud z tj nE) Ms t)
def Wm{j:Int}(hQ:QP Q)(h:DS w S ow b b3 dv n (L+28) N g)(hi:i<n)(hc:dv[11]?=some (.int i64 c))(M:jX i64 c)(k:Kn 359 a [(5,.int i64 j),(4,.int i64 (i:Int)),(3,aI b3),(0,aI b)])(o:∀a W S' bT g',Kn 359 a [(5,.int i64 j),(4,.int i64 (i:Int)),(3,aI b3),(0,aI b)]->bD LG aB w S ow W S' bT->kv W S' bT b g'->GI n L (N+1) g'->Q .normal a W):(Code.region 10 Dr true).wp Try.prog Q a w:=by
 have f:=h.gi;have a1:=h.nN;obtain⟨G,t,x⟩:=f.tick hi (by omega) c;have a2:=h.n5;have q:i<g.ew.length:=by rw[f.n1];exact hi
 have E:g.aX.length<=5:=by rw[f.len.aX];exact f.len.n5
 obtain⟨R,z,p,D⟩:=h.yE;have lx:=h.lx;refine JB (n0:=12) (fun Y=>ow Y=some (1000+i)) mix (by exact hQ) Xy (by kernel_rfl) ?_;intro w1 V;have d:=z.O V;have m:=lx.O V;have B:=(bD.refl LG aB w S ow).Y z.wf z.wf V;have s0:=SX.refl (fun Y=>ow Y=some (1000+i)) w1;have r:¬ow b=some (1000+i):=by rw[d.obj.ow];intro h;injection h with h;omega
 have s:¬ow b3=some (1000+i):=by rw[m.ow];intro h;cases h
 obtain⟨X,y,H,a0⟩:=d.ew i _ (iG q);obtain⟨bl,a3,T,O,F,J⟩:=d.arr.elem (i:=i) (u:=aI X) (by rw[p,ab,y];rfl);have P:(R.la.map aI).length=g.ew.length:=by rw[ao,p];exact d.rn
 have C:¬ow bl=some (1000+i):=by rw[F];intro h;injection h with h;omega
 repeat (first|refine sm k fun a k=>?_|refine ld k (m.cell s hc) fun a k=>?_|refine ld k (d.cell r rfl) fun a k=>?_)
 rw[T]at k;refine wQ (el:=52) (sz:=1) k rfl rfl (by rw[P];exact q) fun a k=>?_;refine ky (v:=aI X) k (by assumption) rfl (by decide) rfl (by kernel_rfl) (by kernel_rfl) (eP O C (by rw[bK];exact J)) fun a k=>?_
 repeat (first|refine sm k fun a k=>?_|refine ld k (m.cell s hc) fun a k=>?_|refine ld k (d.cell r rfl) fun a k=>?_)
 refine gV (vs:=[aI X,.int i64 c]) k (by decide) rfl (by decide) YM.enter rfl (xm H d.wf (by omega) M G) ?_;rintro e w2 ⟨v,S2,EO,rfl,nf,ud,EW,YF,UY⟩;refine⟨_,rfl,fun _=>SX.iw (fun _ h=>h) nf,fun a k=>?_⟩;have U:=d.uJ (i:=i) nf ud q y EW (fE EW) E;have A:=B.eY z.wf d.wf nf (.inr (by omega));have I:pC EO:=h.PV.J nf (fun l Z=>by simp only[iI]at Z;subst Z;exact .inr (by omega));refine gV (vs:=[aI b,.int i64 (i:Int),v,.bool false]) k (by decide) rfl (by decide) qL rfl (qG (g:=hJ i (jz c (cG g i)).2 g) ⟨_,U,p,D⟩ I YF UY t) ?_;rintro e w5 ⟨S5,KD,rfl,tj,Ms⟩;refine⟨_,rfl,fun h=>absurd rfl h,fun a k=>?_⟩;exact ay (o _ _ S5 KD (Fa i c g) (k.sb) (kM z.wf ud A tj nE) Ms x)
noncomputable def Aa:Code:=.seq (.region 7 ND false) (.block 1 (.loop (.seq (.seq (.region 8 NC false) (.cond (.tmp 53) .skip (.exit 1))) (.seq (.block 2 (.region 10 Dr true)) (.region 9 NB false)))))
def K1(u:QP Q)(h:DS w S ow b b3 dv n K N g)(X:336<=K)(hi:i<n)(P:dv[11]?=some (.int i64 c))(B:jX i64 c)(k:Kn 359 a [(4,.int i64 (i:Int)),(3,aI b3),(0,aI b)])(V:N<=99998000)(f:∀a W S' bT g',Kn 359 a [(4,.int i64 (i:Int)),(3,aI b3),(0,aI b)]->bD LG aB w S ow W S' bT->kv W S' bT b g'->GI n (K-336) (N+12) g'->Q .normal a W):Aa.wp Try.prog Q a w:=by
 unfold Aa;refine wp_seq (rg aB u ab3 ?_);intro O J;have y:=SX.refl aB O
 repeat refine sm k fun a k=>?_
 refine ay ?_;have d:=h.wf
 refine wp_block (wp_loop_ghost (fun F a W=>∃(j:Nat) (v:bE) (e:Ow) (D:GS),F=12-j/\j<=12/\Kn 359 a [(5,.int i64 (j:Int)),(4,.int i64 (i:Int)),(3,aI b3),(0,aI b)]/\bD LG aB w S ow W v e/\DS W v e b b3 dv n (K-28*j) (N+j) D) (12-0)
  ⟨0,S,ow,g,rfl,aF _,k.sb,(bD.refl LG aB w S ow).Y d d J,by simpa using h.O J⟩ ?_)
 clear k y;rintro F a W ⟨j,v,e,D,rfl,hj,k,EC,h1⟩;refine wp_seq (wp_seq (rg aB u ab2 ?_));intro E I;have m:=h1.O I;have p:=EC.Y d h1.wf I;have y:=SX.refl aB E
 repeat refine sm k fun a k=>?_
 refine cm (c:=decide ((j:Int)<12)) k rfl rfl rfl fun a k=>?_;refine ay (bf k rfl ?_);have k:=k.sb (l:=[(5,.int i64 (j:Int)),(4,.int i64 (i:Int)),(3,aI b3),(0,aI b)]);by_cases q:(j:Int)<12
 .rw[if_pos (by simpa using q)];refine wp_skip ?_;have C:K-28*j=(K-28*(j+1))+28:=by omega
  rw[C]at m;refine wp_seq (wp_block (Wm (by exact u) m hi P B k ?_));intro a U T z R k o A t;have x:=kM d m.wf p o nE;have G:=m.to o A t (by omega);refine rg aB (by exact u) ab1 ?_;intro M H;have y:=SX.refl aB M
  repeat refine sm k fun a k=>?_
  refine iK (s:=((j+1:Nat):Int)) k (by assumption) rfl (by decide) rfl rfl (wrap64 (by omega) (by omega)) fun a k=>?_
  repeat refine sm k fun a k=>?_
  refine ay ⟨12-(j+1),by omega,j+1,T,z,R,rfl,by omega,k.sb,x.Y d G.wf H,?_⟩;have:=G.O H;rw[show N+((j+1:Nat):Int)=N+j+1 by omega];exact this
 rw[if_neg (by simpa using q)];refine wp_exit ?_;have r:j=12:=by omega
 subst r;exact f a E v e D (k.sb) p m.yE m.gi
end
end Go.Proofs.Ytjhmkaninmgilaa
namespace Go.dF
open Go Go.RowKit
def iB(n:Nat)(p:Tah):Tbd Bool:=((List.range n).map fun j=>decide (j∈p)).toArray
def uY{n i:Nat}{p:Tah}:(iB n p).setIfInBounds i true=iB n (p++[i]):=by
 apply Array.ext
 .simp[iB]
 intro j b c;simp only[iB,Array.size_setIfInBounds,bV,ao,fi]at b;rw[Array.getElem_setIfInBounds (by simpa [iB]using b)];by_cases a:i=j
 .subst a;simp[iB]
 rw[if_neg a];simp only[iB,List.getElem_toArray,List.getElem_map,List.getElem_range,aM,ax];congr 1;exact propext ⟨fun h=>.inl h,fun h=>h.resolve_right (Ne.symm a)⟩
def Jd(n:Nat):Array.replicate n false=iB n []:=by
 apply Array.ext
 .simp[iB]
 intro j b a;simp[iB]
def NQ(N:Act->Tae)(Q:Iv):Iv
 |.normal=>N
 |.exit i=>Q (.exit i)
 |.goto i=>Q (.goto i)
 |.ret=>Q .ret
 |.panic c=>Q (.panic c)
 |.outgrown=>Q .outgrown
section
variable{P:Tap}{ops ops':Tad}{Q Q':Iv}{S:Tae}{N:Act->Tae}
def Cc{i:Nat}{K:Act->Tae}{a:Act}{w:Tam}(h:wpOp P ops (NQ N Q) i K a w):wpOp P ops Q i K a w:=by
 have d:LetsOut (NQ N Q)->LetsOut Q:=fun⟨a,w,h⟩=>⟨a,w,h⟩;unfold wpOp at h⊢;cases ho:ops[i]? with
 |none=>rw[ho]at h;exact h
 |some o=>
  rw[ho]at h;simp only at h⊢;split at h
  .rename_i b;rw[if_pos b];rcases h with h|⟨g,f⟩
   .refine .inl ?_;unfold Oper.wp at h⊢;generalize (execOp a.eval o).run P w=r at h⊢;unfold Oper.upon at h⊢;split<;>simp only at h⊢
    all_goals first
     |exact h
     |(refine h.mono fun e j c=>?_
       cases e<;>simp only at c⊢<;>first|exact c|exact d c)
   exact .inr ⟨g,d f⟩
  rename_i b;rw[if_neg b];exact h
def AT(P:Tap)(ops:Tad)(Q:Iv)(S:Tae)(p:Tah)(a:Act)(w:Tam):Prop:=
 nZ P ops Q S ops.size (ops.size-p.length) (iB ops.size p) a w
def oU(ops:Tad)(a p:Tah)(n0:Nat):Bool:=
 Region.noSelect ops&&decide (a.length+p.length<=ops.size)&&p.all (fun i=>match ops[i]? with|some o=>o.guard.isNone|none=>false)&&(List.range p.length).all fun k=>
  match p[k]? with
  |none=>false
  |some i=>if k<n0 then Region.free .any ops (iB ops.size (a++p.take k)) i&&(Region.ready .any ops (iB ops.size (a++p.take k))).contains i
   else Region.ready .any ops (iB ops.size (a++p.take k))==[i]
def Cn{h p:Tah}{n0:Nat}(a:oU ops h p n0=true)(k:Nat){i:Nat}(e:p[k]?=some i):∃o,ops[i]?=some o/\o.guard=none/\(fG ops p)[k]?=some o:=by
 unfold oU at a;simp only[aT,bk,bY]at a;obtain⟨⟨⟨l,d⟩,c⟩,f⟩:=a;have b:=c i (bQ e);cases ho:ops[i]? with
 |none=>rw[ho]at b;cases b
 |some o=>
  rw[ho]at b;refine⟨o,rfl,by simpa using b,?_⟩;unfold fG;rw[dr,pU (fun j m=>?_) k,e]
  .exact ho
  have g:=c j m;cases hoj:ops[j]? with
  |none=>rw[hoj]at g;cases g
  |some oj=>exact(aP.1 hoj).1
def QD{m p:Tah}{n0:Nat}(b:oU ops m p n0=true)(R:QP Q):
  ∀(f k:Nat) (a:Act) (w:Tam),k+f=p.length->mF P (fG ops p) (NQ (fun a w=>S w/\AT P ops Q S (m++p) a w) Q) S n0 f k a w->(f=0->S w)/\AT P ops Q S (m++p.take k) a w:=by
 intro f
 induction f with
 |zero=>
  intro k a w M h;rw[eM (by omega)];exact⟨fun _=>h.1,h.2⟩
 |succ f ih=>
  intro k a w M h;refine⟨fun e=>(by cases e),?_⟩;have l:p[k]?=some (p[k]'(by omega)):=aS _;generalize p[k]'(by omega)=i at l;obtain⟨o,s,F,r⟩:=Cn b k l;have C:=b;unfold oU at b;simp only[aT,bk,bY,cI]at b;obtain⟨⟨⟨z,D⟩,U⟩,u⟩:=b;have q:=u k (by omega);rw[l]at q;simp only at q;have B:m++p.take (k+1)=m++p.take k++[i]:=by rw[cT,l,dP];rfl
  have A:ops.size-(m++p.take k).length=(ops.size-(m++p.take (k+1)).length)+1:=by simp only[ai,aA];omega
  unfold mF at h;rw[r]at h;simp only at h;unfold AT;rw[A];by_cases t:k<n0
  .rw[if_pos t]at h q;obtain⟨O,v,L,x⟩:=h;simp only[aT]at q;obtain⟨n,d⟩:=q;refine qV s (fun e=>?_) (fun oL y=>?_) (Region.noSelect_spec z) (fun c a w=>R c a _ _ w) _ _ a w (Region.free_spec s n) (by simpa using d) (YieldsIf.plain (ops':=fG ops p) (fun g e=>by rw[F]at e;cases e) L) O ?_
   .rw[e]at s;simp at s
   .simp at y
   rw[uY,<-B];exact(ih (k+1) _ w (by omega) x).2
  rw[if_neg t]at h q;have x:Region.ready .any ops (iB ops.size (m++p.take k))=[i]:=by simpa using q
  refine⟨fun I=>(by rw[x]at I;cases I),fun j E=>?_⟩;rw[x,ax]at E;subst E;refine wpOp_mono (fun T K J=>?_) (Cc (uP (fun g e=>by rw[F]at e;cases e) r s h));have H:=ih (k+1) T K (by omega) J.2;refine⟨fun _=>?_,?_⟩
  .by_cases G:f=0
   .exact H.1 G
   exact J.1 G
  rw[uY,<-B];exact H.2
def K8{d p:Tah}{n0:Nat}(a:oU ops d p n0=true):(bJ (fG ops p)).length=p.length:=by
 unfold bJ fG;rw[ao]
 have:∀(q:Tah),(∀i∈q,i<ops.size)->(q.filterMap (ops[·]?)).length=q.length:=by
  intro q
  induction q with
  |nil=>intro _;rfl
  |cons i q ih=>
   intro c;have g:ops[i]?=some (ops[i]'(c i br)):=dz _;rw[List.filterMap_cons,g];simp only[bg];rw[ih (fun j b=>c j (aK _ b))]
 refine this p fun j b=>?_;obtain⟨k,f⟩:=aE b;obtain⟨o,e,_⟩:=Cn a k f;exact(aP.1 e).1
def Jp{d p p2:Tah}{n0:Nat}{L:List OK}{a:Act}{w:Tam}(b:oU ops d p n0=true)(g:QP Q)(e:bJ (fG ops p)=L)(f:d++p=p2)(h:TL P (fG ops p) (NQ (fun a w=>S w/\AT P ops Q S p2 a w) Q) S n0 L L 0 a w):AT P ops Q S d a w:=by
 subst f;have c:L.length=p.length:=by rw[<-e];exact K8 b
 have:=(QD (P:=P) (S:=S) b g p.length 0 a w (by omega) (c▸h e rfl)).2;rw[List.take_zero,dh]at this;exact this
def qA{b R:Tah}{a:Act}{w:Tam}(l:b.length<ops.size)(d:Region.ready .any ops (iB ops.size b)=R)(k:R≠[])(h:∀i∈R,wpOp P ops Q i (fun j c=>S c/\AT P ops Q S (b++[i]) j c) a w):AT P ops Q S b a w:=by unfold AT;rw[show ops.size-b.length=(ops.size-b.length-1)+1 by omega];refine⟨fun m=>absurd (d▸m) k,fun i e=>?_⟩;rw[d]at e;refine wpOp_mono (fun j c g=>⟨fun _=>g.1,?_⟩) (h i e);rw[uY];have f:=g.2;unfold AT at f;rw[show ops.size-b.length-1=ops.size-(b++[i]).length by rw[ai];simp;omega];exact f
def gW{i:Nat}{L:List OK}{a:Act}{w:Tam}(b:(match ops[i]? with|some o=>o.guard.isNone|none=>false)=true)(d:bJ (fG ops [i])=L)(h:TL P (fG ops [i]) (NQ N Q) S 0 L L 0 a w):wpOp P ops Q i N a w:=by
 cases ho:ops[i]? with
 |none=>rw[ho]at b;cases b
 |some o=>
  rw[ho]at b;have b:o.guard=none:=by simpa using b
  have c:fG ops [i] =#[o]:=by simp[fG,ho]
  have j:L.length=1:=by rw[<-d,c];rfl
  have h:=h d rfl;rw[j]at h;unfold mF at h;have f:(fG ops [i])[0]?=some o:=by rw[c];rfl
  rw[f]at h;simp only at h;rw[if_neg (by omega)]at h;exact wpOp_mono (fun m l k=>k.2) (Cc (uP (fun g e=>by rw[b]at e;cases e) f ho h))
def J3{p:Tah}{a:Act}{w:Tam}(c:ops.size<=p.length)(b:Region.ready .any ops (iB ops.size p)=[])(h:Q .normal a w):AT P ops Q S p a w:=by unfold AT;rw[show ops.size-p.length=0 by omega];exact⟨b,h⟩
def Sx{id:Nat}(X:Tai)(d:P.follows .mixedOrders=true){w:Tam}{a:Act}(h:∀b,vm w b->AT P ops Q (SX X b) [] a b):(Code.region id ops true).wp P Q a w:=by refine wp_region_any d ?_;have c:=h _ (vm.drew w);unfold AT at c;rw[<-Jd,fj,Nat.sub_zero]at c;exact oq _ _ _ _ c
end
variable{P:Tap}{w:Tam}{S:bE}{a:Act}{dst:Tak}{ty:Tba}{pos:String}{af:Tbd Edge}{gd:Tao (Nat×Bool)}
def qT{t el:Tba}{x:Tbb}{lo hi:Tao Tbb}{u:Ty}{ds:Taf}{n m:Int}(W:P.underlying t=some (.slice el))(L:iy P el=some u.cells.length)(I:cg w S (a.eval x) (.list ds))(G:∀d∈ds,Has u d)(T:∀i,lo=some i->∃k,a.eval i=.int k n)(F:lo=none->n=0)(X:∀i,hi=some i->∃k,a.eval i=.int k m)(N:hi=none->m=ds.length)(b1:0<=n)(b2:n<=m)(b3:m<=ds.length):
  ∃v,(execOp a.eval ⟨dst,.slice t x lo hi none,ty,pos,af,gd⟩).run P w=.ok (.value v) w/\cg w S v (.list ((ds.take m.toNat).drop n.toNat)):=by
 have p:((ds.take m.toNat).drop n.toNat).length=m.toNat-n.toNat:=by simp;omega
 have M:∀(o:Tao Addr) (cap:Nat),ds.length<=cap->(Instr.sliceAt t (.slice o ds.length cap) (lo.map a.eval) (hi.map a.eval) none).run P w=
   .ok (.slice (if cap=n.toNat then o else o.map (·.add (n.toNat*u.cells.length))) (m.toNat-n.toNat) (cap-n.toNat)) w:=by
  intro o cap f;have Y:=hC (P:=P) (w:=w) L;have V:∀q g,(Instr.sliceBound (.int q m) cap g).run P w=.ok m.toNat w:=fun q g=>run_sliceBound w q m cap g (by omega) (by omega);have Q:∀q g,(Instr.sliceBound (.int q n) m.toNat g).run P w=.ok n.toNat w:=fun q g=>run_sliceBound w q n m.toNat g (by omega) (by omega)
  have e1:(do
    let m'<-match (none:Tao Tan) with
     |some v=>Instr.sliceBound v cap (if true then .slice3Acap else .slice3Alen)
     |none=>pure cap
    let h<-match hi.map a.eval,(none:Tao Tan) with
     |some v,some _=>Instr.sliceBound v m' .slice3B
     |some v,none=>Instr.sliceBound v m' (if true then .sliceAcap else .sliceAlen)
     |none,none=>pure ds.length
     |none,some _=>stuck "Slice: max without high"
    let l<-match lo.map a.eval with
     |some v=>Instr.sliceBound v h (if(none:Tao Tan).isSome then .slice3C else .sliceB)
     |none=>pure 0
    pure (l,h,m'):Sem (Nat×Nat×Nat)).run P w=.ok (n.toNat,m.toNat,cap) w:=by
   cases hi with
   |none=>
    have:=N rfl;have A:m.toNat=ds.length:=by omega
    cases lo with
    |none=>have:=F rfl;simp[this,A]
    |some i=>obtain⟨q,hi⟩:=T i rfl;rw[A]at Q;simp[hi,Q,A]
   |some j=>
    obtain⟨q,J⟩:=X j rfl;cases lo with
    |none=>have:=F rfl;simp[this,J,V]
    |some i=>obtain⟨q,hi⟩:=T i rfl;simp[hi,Q,J,V]
  have Z:(Instr.sliceBounds true ds.length cap (lo.map a.eval) (hi.map a.eval) none).run P w=.ok (n.toNat,m.toNat,cap) w:=e1;simp[Instr.sliceAt,Instr.slice,run_underlying W,Z,Y]
 have H:∀{o:Tao Addr} {cap:Nat},a.eval x=.slice o ds.length cap->ds.length<=cap->(∀v,v=Value.slice (if cap=n.toNat then o else o.map (·.add (n.toNat*u.cells.length))) (m.toNat-n.toNat) (cap-n.toNat)->cg w S v (.list ((ds.take m.toNat).drop n.toNat)))->
   ∃v,(execOp a.eval ⟨dst,.slice t x lo hi none,ty,pos,af,gd⟩).run P w=.ok (.value v) w/\cg w S v (.list ((ds.take m.toNat).drop n.toNat)):=by intro o cap s f C;refine⟨_,?_,C _ rfl⟩;unfold execOp;simp only[s,Option.map_none,bw,M o cap f,bZ];rfl
 by_cases R:m.toNat-n.toNat=0
 .have E:(ds.take m.toNat).drop n.toNat=[]:=au (by omega)
  have O:∃o cap,a.eval x=.slice o ds.length cap/\ds.length<=cap:=by
   generalize a.eval x=v at I;cases I with
   |nil o cap=>exact⟨o,cap,rfl,aF _⟩
   |list b off cap sz xs _ _ _ f=>exact⟨_,cap,rfl,f⟩
  obtain⟨o,cap,s,f⟩:=O;refine H s f fun v z=>?_;rw[E,z,R];exact .nil _ _
 generalize K:a.eval x=v at I;cases I with
 |nil o cap=>simp at b3;omega
 |list b off cap sz xs _ MC tV f Mp hS hc hw hr=>
  refine H K f fun v' z=>?_
  have y:sz=u.cells.length:=by
   cases G6:ds with
   |nil=>exact absurd G6 tV
   |cons d r=>
    have:=hw 0 d (by rw[G6];rfl);rw[<-this];exact(cB (G d (by rw[G6];simp))).1
  have B:cap≠n.toNat:=by omega
  rw[z,if_neg B,<-p];simp only[aV,fT];have U:n.toNat*sz<=xs.length:=by rw[Mp];exact aw _ (by omega)
  refine .list b _ _ sz ((xs.drop (n.toNat*sz)).take ((m.toNat-n.toNat)*sz)) _ MC (fun e=>R (by rw[<-p,e];rfl)) (by omega) ?_ ?_ ?_ ?_ ?_
  .rw[p,aA,ba,Mp,<-Nat.sub_mul];exact Nat.min_eq_left (aw _ (by omega))
  .intro i hi;have:i<xs.length-n.toNat*sz:=by simp at hi;omega
   rw[<-y,eB];exact hS _ (by omega)
  .intro i v hi;simp only[aq,aD]at hi;split at hi
   .rw[<-y,eB];exact hc _ v hi
   cases hi
  .intro i d hi;exact hw _ d (by simp only[aD,aq]at hi;split at hi;exact hi;cases hi)
  intro i d j v c hi J s;simp only[aD,aq]at hi;split at hi
  .refine hr (n.toNat+i) d j v c hi J ?_;simp only[aq,aD]at s;split at s
   .rw[<-s,cn,eB]
   cases s
  cases hi
end Go.dF
namespace Go.Proofs.Ytjhmkaninmgilaa
open Go Go.RowKit Go.dF Go.Proofs
attribute [local irreducible] TL
def se{a b:Int}(h:jX i64 a)(d:0<b):0<=ib a b/\ib a b<b:=by
 obtain⟨j,f⟩:=h;rw[show i64.min=-9223372036854775808 by decide]at j;rw[show i64.max=9223372036854775807 by decide]at f;unfold ib;by_cases e:a<0
 .rw[if_pos e,wrap64 (n:=a+1) (by omega) (by omega),wrap64 (by omega) (by omega)];exact⟨Int.tmod_nonneg _ (by omega),Int.tmod_lt_of_pos _ d⟩
 rw[if_neg e];exact⟨Int.tmod_nonneg _ (by omega),Int.tmod_lt_of_pos _ d⟩
def Qm(l:Taf)(i:Nat):Taf:=l.take i++l.drop (i+1)
def AI{l:Taf}{i:Nat}{m:D}(h:m∈Qm l i):m∈l:=(aM.1 h).elim cw cz
def GI.cut{n K:Nat}{N:Int}{g:GS}(h:GI n K N g)(i:Nat):GI n K N {g with net:=Qm g.net i}:=
 ⟨⟨h.len.n5,h.len.cO,h.len.aX,h.len.saved,h.len.lead,h.len.vl⟩,h.n1,h.cf,h.ew,fun m d=>h.net m (AI d),by have:=h.nl;show(g.net.take i++g.net.drop (i+1)).length<=430;rw[ai,aA,ba];omega,h.told,h.nn,h.sf.cut (fun m k=>AI k) (fun m k=>by cases k)⟩
def GI.del{n L:Nat}{N:Int}{g:GS}{m:D}{ms:Taf}(h:GI n (L+28) N g)(f:N<=100000000)(k:mK N m)(r:Has hP m)(p:Sf (m::ms) g):zp m g=true/\GI n L (N+1) (qa m g)/\Sf ms (qa m g):=by
 unfold zp qa;by_cases d:Jr m g=true
 .have l:tU m<n:=by unfold Jr at d;simp only[aT,bk]at d;unfold tU;rw[<-h.n1];omega
  obtain⟨q,j,y,z⟩:=h.get l;have t:=k.n8;obtain⟨x,v,u⟩:=h.KW l f rfl (o:=(jo m (cG g (tU m))).1) (s':=(jo m (cG g (tU m))).2) (LQ y q (K:=L) j k r) p (fun w lg e f s=>QA (K:=0) s (j.le (by omega)) (e m br) t f);rw[d,if_pos rfl,x];simp only[Bool.not_true,fW,Bool.and_true,aT,bk];exact⟨⟨⟨⟨by rw[h.len.aX];exact h.len.n5,h.len.n5⟩,Ou (j.ok q (by omega) (by omega))⟩,by omega⟩,v,u.tail⟩
 rw[Bool.not_eq_true]at d;rw[d];exact⟨rfl,h.le (by omega) (by omega),p.tail⟩
def GI.all{n L:Nat}:∀{l:Taf} {N:Int} {g:GS},GI n (L+28*l.length) N g->N+l.length<=100000000->(∀m∈l,mK N m/\Has hP m)->Sf l g->uf l g=true/\GI n L (N+l.length) (l.foldl (fun g m=>qa m g) g)
 |[],N,g,h,_,_,_=>⟨rfl,h.le (by simp) (by simp)⟩
 |m::r,N,g,h,hN,hm,hf=>by simp only[bg]at h hN⊢;obtain⟨j,f⟩:=hm m br;obtain⟨q,p,d⟩:=GI.del (L:=L+28*r.length) (h.le (by omega) (ar _)) (by omega) j f hf;obtain⟨o,k⟩:=GI.all p (by omega) (fun x e=>⟨(hm x (aK _ e)).1.mono (by omega),(hm x (aK _ e)).2⟩) d;refine⟨by unfold uf;rw[q,o];rfl,?_⟩;rw[show N+((r.length+1:Nat):Int)=N+1+r.length by omega];exact k
section
variable{w w0 w':Tam}{S S0 S':bE}{ow kG bT:Ow}{b b3 b8 i n K L at_:Nat}{N c:Int}{g g':GS}{dv us:Tac}{Q:Iv}{a:Act}
def DS.KM(h:DS w S ow b b3 dv n K N g)(f:bD aB aB w S ow w' S ow)(j:Wf w' S ow):DS w' S ow b b3 dv n K N g:=by obtain⟨R,k,e,d⟩:=h.yE;exact⟨⟨R,k.J f j,e,d⟩,h.PV,h.lx.J f id,h.gi,h.n5,h.nN⟩
noncomputable def DX:Code:=.seq (.region 20 Ie false) (.seq (.region 21 Ic false) (.seq (.region 22 Ib false) (.region 23 Ia false)))
def PI{j:Int}(hQ:QP Q)(h:kv w S ow b g)(f3:at_<g.net.length)(f2:g.net.length<=430)(k:Kn 359 a [(7,.int i64 (at_:Int)),(8,aI b8),(6,.int i64 j),(4,.int i64 (i:Int)),(3,aI b3),(0,aI b)])(a0:∀a W S' bT,Kn 359 a [(8,aI b8),(6,.int i64 j),(4,.int i64 (i:Int)),(3,aI b3),(0,aI b)]->bD LG aB w S ow W S' bT->kv W S' bT b {g with net:=Qm g.net at_}->Q .normal a W):DX.wp Try.prog Q a w:=by
 obtain⟨R,gm,d9,d4⟩:=h;have e:=gm.wf;have f:=gm.net.all;unfold DX;refine wp_seq (rg aB hQ Xr ?_);intro w1 e1;have v:=gm.O e1;have a3:=(bD.refl LG aB w S ow).Y e e e1;have s0:=SX.refl aB w1
 repeat refine sm k fun a k=>?_
 refine ay ?_;obtain⟨A,f0,hv⟩:=v.net.slice;have D:=v.net;rw[hv]at D;obtain⟨S2,o,a2,a6,d7,f1⟩:=DU D v.wf;have e9:=v.pb a2 a6 (dB.nil (w:=w1) (S:=S2) (ow:=o) (T:=49) (t:=hP) (l:=11) (by rw[oi];omega) (by omega));have c4:=a3.eY e v.wf a2 (.inl (by decide));have E:(R.cells g.bad)[4]?=some (.slice A g.net.length f0):=congrArg some hv;clear D v a3 s0;have k:=k.sb (l:=[(9,gJ),(7,.int i64 (at_:Int)),(8,aI b8),(6,.int i64 j),(4,.int i64 (i:Int)),(3,aI b3),(0,aI b)]);refine wp_seq (rg (fun G=>o G=some 11) hQ Xq ?_);intro w3 e3;have r:=e9.O e3;have d0:=c4.Y e a6 e3;have s0:=SX.refl (fun G=>o G=some 11) w3;have U:¬o b=some 11:=by rw[r.obj.ow];decide
 have a8:=d7.J (bD.O e3 aB aB S2 o)
 repeat (first|refine sm k fun a k=>?_|refine ld k (r.cell U E) fun a k=>?_)
 refine nk k (by decide) rfl (by decide) fun I y af=>?_
 obtain⟨v1,Z,C⟩:=qT (P:=Try.prog) (w:=w3) (S:=S2) (a:=a) (dst:=some 119) (ty:=I) (pos:=y) (af:=af) (gd:=none) (t:=56) (el:=49) (x:=.tmp 117) (lo:=none) (hi:=some (.tmp 118)) (u:=hP) (ds:=g.net) (n:=0) (m:=(at_:Int)) (by kernel_rfl) (by kernel_rfl) (by rw[k.op (x:=.tmp 117) rfl];exact a8) f
  (fun _ h=>by cases h) (fun _=>rfl) (fun q h=>by injection h with h;subst h;exact⟨_,k.op rfl⟩) (fun h=>by cases h) (ar _) (by omega) (by omega)
 refine⟨v1,w3,Z,fun _=>s0,fun a k=>?_⟩;rw[bP,show(0:Int).toNat=0 from rfl,List.drop_zero]at C;have b9:∀d∈g.net.take at_,Has hP d:=fun d hd=>f d (cw hd);refine nk k (by decide) rfl (by decide) fun I y af=>?_;obtain⟨A1,c1,O,rfl,e2,b4,b6,b1⟩:=C.source (fun d hd=>(cB (b9 d hd)).1);obtain⟨v2,w4,Y,z,H,a5,d8⟩:=r.net.mq (P:=Try.prog) (tt:=56) (ys:=g.net.take at_) (by kernel_rfl) rfl r.wf I A1 c1 O e2 b4 b6 b9 b1 (ql (by show 0+(g.net.take at_).length<=_;rw[aA];omega));have s4:SX (fun G=>o G=some 11) w3 w4:=SX.iw (fun _ h=>h) H;refine⟨v2,w4,ic (k.op rfl) (k.op rfl) Y,fun _=>s4,fun a k=>?_⟩
 repeat refine sm k fun a k=>?_
 refine ay ?_;have e8:=r.pb H a5 d8;have c2:=d0.eY e r.wf H (.inl (by decide));have d6:=a8.J H;have k:=k.sb (l:=[(9,v2),(7,.int i64 (at_:Int)),(8,aI b8),(6,.int i64 j),(4,.int i64 (i:Int)),(3,aI b3),(0,aI b)]);refine wp_seq (rg (fun G=>z G=some 11) hQ Xp ?_);intro w5 e5;have p:=e8.O e5;have c9:=c2.Y e a5 e5;have s0:=SX.refl (fun G=>z G=some 11) w5;have U:¬z b=some 11:=by rw[p.obj.ow];decide
 have d5:=d6.J (bD.O e5 aB aB S2 z)
 repeat (first|refine sm k fun a k=>?_|refine ld k (p.cell U E) fun a k=>?_)
 refine iK (s:=((at_+1:Nat):Int)) k (by assumption) rfl (by decide) rfl rfl (wrap64 (by omega) (by omega)) fun a k=>?_;refine nk k (by decide) rfl (by decide) fun I y af=>?_
 obtain⟨v3,X,B⟩:=qT (P:=Try.prog) (w:=w5) (S:=S2) (a:=a) (dst:=some 128) (ty:=I) (pos:=y) (af:=af) (gd:=none) (t:=56) (el:=49) (x:=.tmp 125) (lo:=some (.tmp 127)) (hi:=none) (u:=hP) (ds:=g.net) (n:=((at_+1:Nat):Int)) (m:=(g.net.length:Int)) (by kernel_rfl) (by kernel_rfl) (by rw[k.op (x:=.tmp 125) rfl];exact d5) f
  (fun q h=>by injection h with h;subst h;exact⟨_,k.op rfl⟩) (fun h=>by cases h) (fun _ h=>by cases h) (fun _=>rfl) (by omega) (by omega) (ar _)
 refine⟨v3,w5,X,fun _=>s0,fun a k=>?_⟩;rw[bP,bP,dK]at B;have b7:∀d∈g.net.drop (at_+1),Has hP d:=fun d hd=>f d (cz hd);refine nk k (by decide) rfl (by decide) fun I y af=>?_;obtain⟨A3,c3,M,rfl,e0,b2,b5,b0⟩:=B.source (fun d hd=>(cB (b7 d hd)).1);obtain⟨v4,w6,V,d1,J,a4,a9⟩:=p.net.mq (P:=Try.prog) (tt:=56) (ys:=g.net.drop (at_+1)) (by kernel_rfl) rfl p.wf I A3 c3 M e0 b2 b5 b7 b0 (ql (by show([]++g.net.take at_).length+(g.net.drop (at_+1)).length<=_;rw[dW,aA,ba];omega));have s6:SX (fun G=>z G=some 11) w5 w6:=SX.iw (fun _ h=>h) J;refine⟨v4,w6,ic (k.op rfl) (k.op rfl) V,fun _=>s6,fun a k=>?_⟩
 repeat refine sm k fun a k=>?_
 refine ay ?_;have e6:=p.pb J a4 a9;have c0:=c9.eY e p.wf J (.inl (by decide));obtain⟨A6,c6,a7⟩:=a9.slice;have k:=k.sb (l:=[(9,v4),(8,aI b8),(6,.int i64 j),(4,.int i64 (i:Int)),(3,aI b3),(0,aI b)]);refine rg aB hQ Xo ?_;intro w7 e7;have F:=e6.O e7;have c7:=c0.Y e a4 e7;have s0:=SX.refl aB w7
 repeat refine sm k fun a k=>?_
 refine jw (cur:=R.cells g.bad) k (by decide) rfl (by kernel_rfl) rfl rfl (by rw[a7];rfl) F.obj.heap (by show 4<11;omega) (by rw[a7];rfl) (fun h=>absurd rfl h) fun a k=>?_;refine ay ?_;obtain⟨a1,d3,d2⟩:=F.obj.set F.wf (us:=(R.cells g.bad).set 4 v4);have e4:=F.setObj a1 d3 d2;have qp:=c7.eY e F.wf a1 (.inl (by decide));refine a0 _ _ S2 d1 (k.sb) qp ⟨{R with net:=v4},?_,d9,d4⟩;exact e4
end
section
variable{w w0 w':Tam}{S S0 S':bE}{ow kG bT:Ow}{b b3 b8 i n K L:Nat}{N c:Int}{g g':GS}{dv us:Tac}{Q:Iv}{a:Act}{X:Tai}
def DS.VD(h:DS w S ow b b3 dv n K N g)(f:bD aB X w S ow w' S ow)(j:Wf w' S ow)(k:¬X b3):DS w' S ow b b3 dv n K N g:=by obtain⟨R,l,e,d⟩:=h.yE;exact⟨⟨R,l.J f j,e,d⟩,h.PV,h.lx.J f k,h.gi,h.n5,h.nN⟩
def XG{m:D}(o:Has hP m)(k:us.length=46)(l:cg w S (.agg us.toArray) m):us[2]?=some (.int i64 (cD 2 m).q):=by
 obtain⟨j,rfl,f⟩:=dU.1 o;obtain⟨r,d,h⟩:=cJ f 2 I6 (by rw[Ty.dm];rfl);obtain⟨q,rfl,t⟩:=h;obtain⟨s,e⟩:∃u,us[2]?=some u:=⟨_,aS (by omega)⟩;have p:cD 2 (D.agg j)=.int i64 q:=by show j.getD 2 .top=_;rw[ae,d];rfl
 rw[e,p,(l.BE 2 e d).cQ];rfl
noncomputable def wA:Code:=.seq (.region 24 H9 true) (.cond (.tmp 146) (.region 25 H8 true) .skip)
def L8{j:Int}{m:D}(hQ:QP Q)(h:DS w S ow b b3 dv n (L+28) N g)(a4:fF w S ow b8 49 us)(T:us.length=46)(U:cg w S (.agg us.toArray) m)(hm:Has hP m)(b2:mK N m)(hf:Sf [m] g)(k:Kn 359 a [(8,aI b8),(6,.int i64 j),(4,.int i64 (i:Int)),(3,aI b3),(0,aI b)])(p:∀a W S' bT g',Kn 359 a [(6,.int i64 j),(4,.int i64 (i:Int)),(3,aI b3),(0,aI b)]->bD LG aB w S ow W S' bT->kv W S' bT b g'->GI n L (N+1) g'->Q .normal a W):wA.wp Try.prog Q a w:=by
 have Y:=h.gi;have c3:=h.nN;obtain⟨y,r,-⟩:=Y.del (by omega) b2 hm hf;have x:=XG hm T U;obtain⟨R,J,z,P⟩:=h.yE;unfold wA;refine wp_seq (jy (n0:=13) aB mix (by exact hQ) Xn (fun _=>by kernel_rfl) ?_);intro w1 e1;have d:=J.O e1;have G:=a4.O e1;have O:=(bD.refl LG aB w S ow).Y J.wf J.wf e1;have s0:=SX.refl aB w1
 have F:∀(a:Act),Jr m g=false->Kn 359 a [(6,.int i64 j),(4,.int i64 (i:Int)),(3,aI b3),(0,aI b)]->Q .normal a w1:=by intro a I k;exact p _ _ S ow g k O ⟨R,d,z,P⟩ (Y.le (by omega) (by omega))
 obtain⟨Al,c1,b7⟩:=d.arr.slice;have a0:(R.la.map aI).length=g.ew.length:=by rw[ao,z];exact d.rn
 repeat (first|refine sm k fun a k=>?_|refine ld k (G.cell id x) fun a k=>?_)
 by_cases h1:decide ((cD 2 m).q≥1)=true
 .refine cm (c:=true) k rfl rfl (congrArg some h1) fun a k=>?_
  repeat (first|refine sm k fun a k=>?_|refine ld k (d.cell id rfl) fun a k=>?_|refine ld k (G.cell id x) fun a k=>?_)
  rw[b7]at k
  repeat refine sm k fun a k=>?_
  rw[a0]at k;by_cases h2:decide ((cD 2 m).q<=(g.ew.length:Int))=true
  .refine cm (c:=true) k rfl rfl (congrArg some h2) fun a k=>?_;refine pk k rfl rfl fun a k=>?_;refine ay (bf k rfl ?_);have k:=k.sb (l:=[(8,aI b8),(6,.int i64 j),(4,.int i64 (i:Int)),(3,aI b3),(0,aI b)]);have c6:=of_decide_eq_true h1;have c4:=of_decide_eq_true h2;have I:Jr m g=true:=by unfold Jr;rw[h2,show decide (1<=(cD 2 m).q)=true from h1];rfl
   have hg:qa m g=oX (tU m) (jo m (cG g (tU m))).1 false (hJ (tU m) (jo m (cG g (tU m))).2 g):=by unfold qa;rw[I];rfl
   unfold zp at y;rw[I,Bool.not_true,fW]at y;simp only[aT,bk]at y;obtain⟨⟨⟨⟨a8,Z⟩,C⟩,b4⟩,B⟩:=y;rw[hg]at r;have A:(cD 2 m).q-1=((tU m:Nat):Int):=by unfold tU;omega
   have hi:tU m<g.ew.length:=by unfold tU;omega
   have o:i64.wrap ((cD 2 m).q-1)=((tU m:Nat):Int):=by rw[A];exact wrap64 (by omega) (by omega)
   generalize tU m=q at A hi o C B r;obtain⟨bs,E,b0,c2⟩:=d.ew q _ (iG hi);refine JB (n0:=14) (fun bb=>ow bb=some (1000+q)) mix (by exact hQ) Xm (by kernel_rfl) ?_;intro w2 e2;have f:=d.O e2;have t:=G.O e2;have a3:=O.Y J.wf d.wf e2;have M:=bD.O e2 aB aB S ow;have V:=b0.J d.wf f.wf M (fun h=>h) rfl;have s1:=SX.refl (fun bb=>ow bb=some (1000+q)) w2;have a6:¬ow b=some (1000+q):=by rw[f.obj.ow];intro h;injection h with h;omega
   have H:¬ow b8=some (1000+q):=by rw[t.ow];intro h;cases h
   obtain⟨bl,c0,a1,b6,a9,b5⟩:=f.arr.elem (i:=q) (u:=aI bs) (by rw[z,ab,E];rfl);have a5:¬ow bl=some (1000+q):=by rw[a9];intro h;injection h with h;omega
   repeat (first|refine sm k fun a k=>?_|refine ld k (t.cell H x) fun a k=>?_)
   refine Da (s:=((q:Nat):Int)) k (by assumption) rfl (by decide) rfl rfl o fun a k=>?_
   repeat (first|refine sm k fun a k=>?_|refine ld k (f.cell a6 (j:=2) rfl) fun a k=>?_)
   refine ld k (t.cell H x) fun a k=>?_;refine Da (s:=((q:Nat):Int)) k (by assumption) rfl (by decide) rfl rfl o fun a k=>?_;rw[a1]at k;refine wQ (el:=52) (sz:=1) k rfl rfl (by rw[a0];exact hi) fun a k=>?_;refine ky (v:=aI bs) k (by assumption) rfl (by decide) rfl (by kernel_rfl) (by kernel_rfl) (eP b6 a5 (by rw[bK];exact b5)) fun a k=>?_;refine lN (vs:=us) k rfl T (fun w' a7 q v hv=>by rw[av];exact t.cell H hv w' a7) fun a k=>?_;refine gV (vs:=[aI bs,.agg us.toArray]) k (by decide) rfl (by decide) c17.enter rfl (Cj V f.wf (by omega) hm ((U.J (bD.O e1 aB aB S ow)).J M) (zB C) b4) ?_;rintro e w3 ⟨v,S3,G5,rfl,BR,PY,ME,hr3,ht3⟩;refine⟨_,rfl,fun _=>SX.iw (fun _ h=>h) BR,fun a k=>?_⟩;have b9:=f.uJ (i:=q) BR PY hi E ME (fE ME) a8;have a2:=a3.eY J.wf f.wf BR (.inr (by omega));have b1:pC G5:=h.PV.J BR (fun l hl=>by simp only[iI]at hl;subst hl;exact .inr (by omega));refine gV (vs:=[aI b,.int i64 ((q:Nat):Int),v,.bool false]) k (by decide) rfl (by decide) qL rfl (qG (g:=hJ q (jo m (cG g q)).2 g) ⟨_,b9,z,P⟩ b1 hr3 ht3 B) ?_;rintro e w5 ⟨S5,KD,rfl,tj,Z⟩;refine⟨_,rfl,fun h=>absurd rfl h,fun a k=>?_⟩;exact ay (p _ _ S5 KD _ (k.sb) (kM J.wf PY a2 tj nE) Z r)
  refine cm (c:=false) k rfl rfl (congrArg some (cE.2 h2)) fun a k=>?_;refine pk k rfl rfl fun a k=>?_;refine ay (bf k rfl (wp_skip (F _ (by unfold Jr;rw[cE.2 h2,Bool.and_false]) (k.sb))))
 refine cm (c:=false) k rfl rfl (congrArg some (cE.2 h1)) fun a k=>?_
 repeat refine sm k fun a k=>?_
 refine pk k rfl rfl fun a k=>?_;refine ay (bf k rfl (wp_skip (F _ (by unfold Jr;rw[show decide (1<=(cD 2 m).q)=false from cE.2 h1,Bool.false_and]) (k.sb))))
noncomputable def An:Code:=.seq (.region 14 Ik false) (.block 3 (.loop (.seq (.seq (.region 15 Ij false) (.cond (.tmp 88) .skip (.exit 3))) (.seq (.block 4 (.seq (.region 17 Ii true) (.seq (.region 18 Ih false) (.seq (.seq (.region 19 Ig false) (.cond (.tmp 112) DX .skip)) wA)))) (.region 16 Dq false)))))
def Ln{x7:Int}{rj:Bool}(J:QP Q)(h:DS w S ow b b3 dv n K N g)(hK:112<=K)(hN:N<=99998000)(hc:dv[11]?=some (.int i64 c))(hx:dv[7]?=some (.int i64 x7))(b4:jX i64 x7)(hj:dv[10]?=some (.bool rj))(k:Kn 359 a [(4,.int i64 (i:Int)),(3,aI b3),(0,aI b)])(a5:∀a W S' bT g',Kn 359 a [(4,.int i64 (i:Int)),(3,aI b3),(0,aI b)]->bD LG aB w S ow W S' bT->kv W S' bT b g'->GI n (K-112) (N+4) g'->Q .normal a W):An.wp Try.prog Q a w:=by
 unfold An;refine wp_seq (rg aB J Xx ?_);intro w1 e1;have I:=SX.refl aB w1
 repeat refine sm k fun a k=>?_
 refine ay ?_;have d:=h.wf;obtain⟨p0,p4⟩:=se (b:=4) b4 (by omega)
 refine wp_block (wp_loop_ghost (fun mm a W=>∃(j:Nat) (F:bE) (o:Ow) (r:GS),mm=4-j/\j<=4/\Kn 359 a [(6,.int i64 (j:Int)),(4,.int i64 (i:Int)),(3,aI b3),(0,aI b)]/\bD LG aB w S ow W F o/\DS W F o b b3 dv n (K-28*j) (N+j) r) (4-0)
  ⟨0,S,ow,g,rfl,aF _,k.sb,(bD.refl LG aB w S ow).Y d d e1,by simpa using h.O e1⟩ ?_)
 clear k I;rintro mm a W ⟨j,F,o,r,rfl,hj4,k,EC,h1⟩;refine wp_seq (wp_seq (rg aB J Xw ?_));intro w2 e2;have O:=h1.O e2;have b0:=EC.Y d h1.wf e2;have I:=SX.refl aB w2
 repeat (first|refine sm k fun a k=>?_|refine ld k (O.lx.cell id hx) fun a k=>?_)
 refine gV (vs:=[.int i64 x7,.int i64 4]) k (by decide) rfl (by decide) c8.enter rfl (kX O.wf b4 (by decide) (by decide)) ?_;rintro e w3 ⟨rfl,p,PY⟩;have s1:=p.vi aB;refine⟨_,rfl,fun _=>s1,fun a k=>?_⟩;obtain⟨R,U,c1,b6⟩:=O.yE;have M:=O.KM p PY;have a7:=b0.Z d O.wf p nE;obtain⟨A,f5,hv⟩:=U.net.slice;have D:=U.net.all;refine iK (s:=1+ib x7 4) k (by assumption) rfl (by decide) rfl rfl (wrap64 (by omega) (by omega)) fun a k=>?_;have b1:∀(a:Act),Kn 359 a [(4,.int i64 (i:Int)),(3,aI b3),(0,aI b)]->Q .normal a w3:=fun a k=>a5 a w3 F o r k a7 M.yE (M.gi.le (by omega) (by omega));by_cases c0:(j:Int)<1+ib x7 4
 .refine cm (c:=true) k rfl rfl (OJ c0) fun a k=>?_
  repeat (first|refine sm k fun a k=>?_|refine ld k (U.cell id (j:=4) rfl) fun a k=>?_)
  rw[hv]at k
  repeat refine sm k fun a k=>?_
  refine cm (c:=decide ((r.net.length:Int)>0)) k rfl rfl rfl fun a k=>?_;refine pk k rfl rfl fun a k=>?_;refine ay (bf k rfl ?_);by_cases hp:(r.net.length:Int)>0
  .rw[if_pos (by simpa using hp)];refine wp_skip ?_;have k:=k.sb (l:=[(6,.int i64 (j:Int)),(4,.int i64 (i:Int)),(3,aI b3),(0,aI b)]);have e0:=M.gi.nl;generalize c3:i64.wrap (c+(j:Int))=cj;have Y:jX i64 cj:=by rw[<-c3];exact lI _ _
   obtain⟨q0,q1⟩:=se (b:=(r.net.length:Int)) Y hp;generalize g0:(ib cj (r.net.length:Int)).toNat=t;have c6:ib cj (r.net.length:Int)=(t:Int):=by omega
   have E:t<r.net.length:=by omega
   obtain⟨m,hm⟩:∃m,r.net[t]?=some m:=⟨_,aS E⟩;have z:=bQ hm;clear I s1 p PY b0 e2 U;refine wp_seq (wp_block (wp_seq (jy (n0:=10) aB mix (by exact J) Xu (fun _=>by kernel_rfl) ?_)));intro w4 e4;have h4:=M.O e4;have a9:=a7.Y d M.wf e4;have I:=SX.refl aB w4;obtain⟨R,a6,c1,b6⟩:=h4.yE;obtain⟨A,f5,hv⟩:=a6.net.slice
   repeat (first|refine sm k fun a k=>?_|refine ld k (h4.lx.cell id hc) fun a k=>?_)
   refine iK (s:=cj) k (by assumption) rfl (by decide) rfl rfl c3 fun a k=>?_
   repeat (first|refine sm k fun a k=>?_|refine ld k (a6.cell id (j:=4) rfl) fun a k=>?_)
   rw[hv]at k
   repeat refine sm k fun a k=>?_
   refine gV (vs:=[.int i64 cj,.int i64 (r.net.length:Int)]) k (by decide) rfl (by decide) c8.enter rfl (kX h4.wf Y (jt (by omega) (by omega)) (by omega)) ?_;rintro e w5 ⟨rfl,tj,RX⟩;have s1:=tj.vi aB;refine⟨_,rfl,fun _=>s1,fun a k=>?_⟩
   repeat refine sm k fun a k=>?_
   refine ay ?_;rw[c6]at k;have h5:=h4.KM tj RX;have d2:=a9.Z d h4.wf tj nE;have k:=k.sb (l:=[(7,.int i64 (t:Int)),(6,.int i64 (j:Int)),(4,.int i64 (i:Int)),(3,aI b3),(0,aI b)]);clear I s1 tj RX a9 e4 a6;refine wp_seq (rg aB J Xt ?_);intro w6 e6;have h6:=h5.O e6;have a0:=d2.Y d h5.wf e6;have I:=SX.refl aB w6;obtain⟨R,P,c1,b6⟩:=h6.yE;obtain⟨bt,f6,us,c7,c4,d8,f,a3,a2⟩:=P.net.elem hm;rw[oi]at f a3
   have b7:cg w6 F (.agg us.toArray) m:=by obtain⟨lm,rfl,e3⟩:=dU.1 (D m z);refine .agg us lm ?_ a2;have:=fH e3;rw[this,f,Ty.dm];rfl
   have b9:∀u∈us,u.oneCell'=true:=by
    intro u hu;obtain⟨q,hq⟩:=aE hu;have f7:q<us.length:=(aO.1 hq).1;obtain⟨f8,e7⟩:=cB (D m z);have a4:q<hP.cells.length:=by rw[oi];omega
    obtain⟨c,f1,f0⟩:=e7 q (hP.cells[q]'a4) (aS a4);exact(a2 q u c hq f1).iE f0 (bY.1 (show hP.cells.all Ty.scalar=true from rfl) _ (aN a4))
   repeat (first|refine sm k fun a k=>?_|refine ld k (P.cell id (j:=4) rfl) fun a k=>?_)
   rw[c7]at k;refine wQ (el:=49) (sz:=46) k rfl rfl E fun a k=>?_;refine lN (vs:=us) k rfl f (fun w' d6 q v hv=>eP c4 (fun h=>h) (a3 q v hv) w' d6) fun a k=>?_;refine jO (nn:=46) k (by decide) rfl (by decide) (by kernel_rfl) (fun zs _=>SX.alloc _ _ _) fun zs d5 a k=>?_;refine ln (vs:=us) (cur:=zs.toArray) k (by decide) rfl (by rw[f];kernel_rfl) rfl rfl rfl (heap_alloc_new w6 _) (by rw[bV];omega) b9 (fun h=>absurd rfl h) fun a k=>?_;refine ay ?_;rw[fill_eq d5 f];obtain⟨H,b5,a1⟩:=kU (T:=49) (zs:=zs) (us:=us) P.wf;have h8:w.heap.size<=w6.heap.size:=a0.size;have h7:=h6.VD H b5 (fun e=>by have:=h6.lx.lt;rw[show b3=w6.heap.size from e]at this;omega);have qp:=a0.Z d h6.wf H (fun bb hb=>by rw[show bb=_ from hb];exact h8);have C:=b7.J H;generalize f9:w6.heap.size=b8 at k a1 h7 qp C h8⊢;generalize f2:(w6.alloc _).setRow b8 _=w7 at a1 h7 qp C⊢;have k:=k.sb (l:=[(7,.int i64 (t:Int)),(8,aI b8),(6,.int i64 (j:Int)),(4,.int i64 (i:Int)),(3,aI b3),(0,aI b)]);clear H b5 f2 c7 c4 d8 a3 a2 I a0 e6 P b7
   have Z:∀(Q2:Iv),QP Q2->(∀a W S' bT g',Kn 359 a [(6,.int i64 (j:Int)),(4,.int i64 (i:Int)),(3,aI b3),(0,aI b)]->bD LG aB w S ow W S' bT->DS W S' bT b b3 dv n (K-28*(j+1)) (N+((j+1:Nat):Int)) g'->Q2 .normal a W)->
     ∀a W S2 y g2,Kn 359 a [(8,aI b8),(6,.int i64 (j:Int)),(4,.int i64 (i:Int)),(3,aI b3),(0,aI b)]->bD LG aB w S ow W S2 y->DS W S2 y b b3 dv n (K-28*j) (N+j) g2->fF W S2 y b8 49 us->cg W S2 (.agg us.toArray) m->Sf [m] g2->wA.wp Try.prog Q2 a W:=by
    intro Q2 f3 d9 a W S2 y g2 k d1 hE d4 d7 hf;have f4:K-28*j=(K-28*(j+1))+28:=by omega
    rw[f4]at hE;refine L8 (L:=K-28*(j+1)) f3 hE d4 f d7 (D m z) (h7.gi.net m z) hf k ?_;intro a W3 S3 d3 g3 k p e5 c2;refine d9 a W3 S3 d3 g3 k (kM d hE.wf d1 p nE) ?_;have:=hE.to p e5 c2 (by omega);rw[show N+((j+1:Nat):Int)=N+j+1 by omega];exact this
   have last:∀a W S' bT g',Kn 359 a [(6,.int i64 (j:Int)),(4,.int i64 (i:Int)),(3,aI b3),(0,aI b)]->bD LG aB w S ow W S' bT->DS W S' bT b b3 dv n (K-28*(j+1)) (N+((j+1:Nat):Int)) g'->
     (Code.region 16 Dq false).wp Try.prog (Exit.then (fun a W=>∃n',n'<4-j/\∃(j:Nat) (F:bE) (o:Ow) (r:GS),n'=4-j/\j<=4/\Kn 359 a [(6,.int i64 (j:Int)),(4,.int i64 (i:Int)),(3,aI b3),(0,aI b)]/\bD LG aB w S ow W F o/\DS W F o b b3 dv n (K-28*j) (N+j) r) (Exit.inBlock 3 Q)) a W:=by
    intro a W S' bT g' k d0 hF;refine rg aB (by exact J) Xv ?_;intro w9 e9;have I:=SX.refl aB w9
    repeat refine sm k fun a k=>?_
    refine iK (s:=((j+1:Nat):Int)) k (by assumption) rfl (by decide) rfl rfl (wrap64 (by omega) (by omega)) fun a k=>?_
    repeat refine sm k fun a k=>?_
    exact ay ⟨4-(j+1),by omega,j+1,S',bT,g',rfl,by omega,k.sb,d0.Z d hF.wf (bD.O e9 aB aB S' bT) nE,hF.O e9⟩
   refine wp_seq (wp_seq (rg aB (by exact J) Xs ?_));intro w8 e8;have B:=h7.O e8;have b2:=a1.O e8;have a8:=qp.Y d h7.wf e8;have I:=SX.refl aB w8;have V:=C.J (bD.O e8 aB aB F o)
   repeat (first|refine sm k fun a k=>?_|refine ld k (B.lx.cell id hj) fun a k=>?_)
   refine qy k (by assumption) rfl (by decide) rfl fun a k=>?_;refine ay (bf k rfl ?_);have k':=k.sb (l:=[(7,.int i64 (t:Int)),(8,aI b8),(6,.int i64 (j:Int)),(4,.int i64 (i:Int)),(3,aI b3),(0,aI b)]);cases rj with
   |true=>
    refine wp_skip (Z _ (by exact J) (fun a W S' bT g' h1 O M=>last a W S' bT g' h1 O M) a w8 F o r (k'.sb) a8 B b2 V (h7.gi.sf.cut (net:=r.net) (fun _ k=>k) (fun x hx=>.inl (by rw[ax.1 hx];exact z))))
   |false=>
    refine PI (by exact J) B.yE E e0 k' ?_;intro a W S2 y k G hG;have c9:=kM d B.wf a8 G nE;exact Z _ (by exact J) (fun a W S' bT g' h1 O M=>last a W S' bT g' h1 O M) a W S2 y _ k c9 (B.to G hG (B.gi.cut t) (by omega)) (b2.J G id) (V.J G) (h7.gi.sf.cut (fun _ k=>AI k) (fun x hx=>.inl (by rw[ax.1 hx];exact z)))
  rw[if_neg (by simpa using hp)];exact wp_exit (b1 a (k.sb))
 refine cm (c:=false) k rfl rfl (OL c0) fun a k=>?_
 repeat refine sm k fun a k=>?_
 refine pk k rfl rfl fun a k=>?_;refine ay (bf k rfl (wp_exit (b1 a (k.sb))))
end
section
variable{w w0 w':Tam}{S S0 S':bE}{ow kG bT:Ow}{b b3 b8 i n K L at_:Nat}{N c:Int}{g g':GS}{dv us:Tac}{Q:Iv}{a:Act}
noncomputable def AK:Code:=.seq (.region 37 HV false) (.seq (.region 38 HU false) (.seq (.region 39 HT false) (.region 40 HS false)))
def L2(hQ:QP Q)(h:kv w S ow b g)(f2:at_<g.net.length)(f1:g.net.length<=430)(k:Kn 359 a [(12,.int i64 (at_:Int)),(4,.int i64 (i:Int)),(3,aI b3),(0,aI b)])(Z:∀a W S' bT,Kn 359 a [(4,.int i64 (i:Int)),(3,aI b3),(0,aI b)]->bD LG aB w S ow W S' bT->kv W S' bT b {g with net:=Qm g.net at_}->Q .normal a W):AK.wp Try.prog Q a w:=by
 obtain⟨R,gm,d8,d3⟩:=h;have e:=gm.wf;have f:=gm.net.all;unfold AK;refine wp_seq (rg aB hQ Xb ?_);intro w1 e1;have r:=gm.O e1;have a2:=(bD.refl LG aB w S ow).Y e e e1;have s0:=SX.refl aB w1
 repeat refine sm k fun a k=>?_
 refine ay ?_;obtain⟨A,e9,hv⟩:=r.net.slice;have C:=r.net;rw[hv]at C;obtain⟨S2,j,a1,a5,d6,f0⟩:=DU C r.wf;have e8:=r.pb a1 a5 (dB.nil (w:=w1) (S:=S2) (ow:=j) (T:=49) (t:=hP) (l:=11) (by rw[oi];omega) (by omega));have c2:=a2.eY e r.wf a1 (.inl (by decide));have D:(R.cells g.bad)[4]?=some (.slice A g.net.length e9):=congrArg some hv;clear C r a2 s0;have k:=k.sb (l:=[(13,gJ),(12,.int i64 (at_:Int)),(4,.int i64 (i:Int)),(3,aI b3),(0,aI b)]);refine wp_seq (rg (fun F=>j F=some 11) hQ Xa ?_);intro w3 e3;have p:=e8.O e3;have c9:=c2.Y e a5 e3;have s0:=SX.refl (fun F=>j F=some 11) w3;have O:¬j b=some 11:=by rw[p.obj.ow];decide
 have a7:=d6.J (bD.O e3 aB aB S2 j)
 repeat (first|refine sm k fun a k=>?_|refine ld k (p.cell O D) fun a k=>?_)
 refine nk k (by decide) rfl (by decide) fun H v af=>?_
 obtain⟨v1,Y,B⟩:=qT (P:=Try.prog) (w:=w3) (S:=S2) (a:=a) (dst:=some 245) (ty:=H) (pos:=v) (af:=af) (gd:=none) (t:=56) (el:=49) (x:=.tmp 243) (lo:=none) (hi:=some (.tmp 244)) (u:=hP) (ds:=g.net) (n:=0) (m:=(at_:Int)) (by kernel_rfl) (by kernel_rfl) (by rw[k.op (x:=.tmp 243) rfl];exact a7) f
  (fun _ h=>by cases h) (fun _=>rfl) (fun q h=>by injection h with h;subst h;exact⟨_,k.op rfl⟩) (fun h=>by cases h) (ar _) (by omega) (by omega)
 refine⟨v1,w3,Y,fun _=>s0,fun a k=>?_⟩;rw[bP,show(0:Int).toNat=0 from rfl,List.drop_zero]at B;have b7:∀d∈g.net.take at_,Has hP d:=fun d hd=>f d (cw hd);refine nk k (by decide) rfl (by decide) fun H v af=>?_;obtain⟨A1,c1,M,rfl,e0,b2,b5,b0⟩:=B.source (fun d hd=>(cB (b7 d hd)).1);obtain⟨v2,w4,X,y,G,a4,d7⟩:=p.net.mq (P:=Try.prog) (tt:=56) (ys:=g.net.take at_) (by kernel_rfl) rfl p.wf H A1 c1 M e0 b2 b5 b7 b0 (ql (by show 0+(g.net.take at_).length<=_;rw[aA];omega));have s4:SX (fun F=>j F=some 11) w3 w4:=SX.iw (fun _ h=>h) G;refine⟨v2,w4,ic (k.op rfl) (k.op rfl) X,fun _=>s4,fun a k=>?_⟩
 repeat refine sm k fun a k=>?_
 refine ay ?_;have e6:=p.pb G a4 d7;have c0:=c9.eY e p.wf G (.inl (by decide));have d5:=a7.J G;have k:=k.sb (l:=[(13,v2),(12,.int i64 (at_:Int)),(4,.int i64 (i:Int)),(3,aI b3),(0,aI b)]);refine wp_seq (rg (fun F=>y F=some 11) hQ W9 ?_);intro w5 e5;have o:=e6.O e5;have c7:=c0.Y e a4 e5;have s0:=SX.refl (fun F=>y F=some 11) w5;have O:¬y b=some 11:=by rw[o.obj.ow];decide
 have d4:=d5.J (bD.O e5 aB aB S2 y)
 repeat (first|refine sm k fun a k=>?_|refine ld k (o.cell O D) fun a k=>?_)
 refine iK (s:=((at_+1:Nat):Int)) k (by assumption) rfl (by decide) rfl rfl (wrap64 (by omega) (by omega)) fun a k=>?_;refine nk k (by decide) rfl (by decide) fun H v af=>?_
 obtain⟨v3,V,z⟩:=qT (P:=Try.prog) (w:=w5) (S:=S2) (a:=a) (dst:=some 254) (ty:=H) (pos:=v) (af:=af) (gd:=none) (t:=56) (el:=49) (x:=.tmp 251) (lo:=some (.tmp 253)) (hi:=none) (u:=hP) (ds:=g.net) (n:=((at_+1:Nat):Int)) (m:=(g.net.length:Int)) (by kernel_rfl) (by kernel_rfl) (by rw[k.op (x:=.tmp 251) rfl];exact d4) f
  (fun q h=>by injection h with h;subst h;exact⟨_,k.op rfl⟩) (fun h=>by cases h) (fun _ h=>by cases h) (fun _=>rfl) (by omega) (by omega) (ar _)
 refine⟨v3,w5,V,fun _=>s0,fun a k=>?_⟩;rw[bP,bP,dK]at z;have b6:∀d∈g.net.drop (at_+1),Has hP d:=fun d hd=>f d (cz hd);refine nk k (by decide) rfl (by decide) fun H v af=>?_;obtain⟨A3,c3,J,rfl,d9,b1,b4,a9⟩:=z.source (fun d hd=>(cB (b6 d hd)).1);obtain⟨v4,w6,U,d0,I,a3,a8⟩:=o.net.mq (P:=Try.prog) (tt:=56) (ys:=g.net.drop (at_+1)) (by kernel_rfl) rfl o.wf H A3 c3 J d9 b1 b4 b6 a9 (ql (by show([]++g.net.take at_).length+(g.net.drop (at_+1)).length<=_;rw[dW,aA,ba];omega));have s6:SX (fun F=>y F=some 11) w5 w6:=SX.iw (fun _ h=>h) I;refine⟨v4,w6,ic (k.op rfl) (k.op rfl) U,fun _=>s6,fun a k=>?_⟩
 repeat refine sm k fun a k=>?_
 refine ay ?_;have e4:=o.pb I a3 a8;have b9:=c7.eY e o.wf I (.inl (by decide));obtain⟨A6,c6,a6⟩:=a8.slice;have k:=k.sb (l:=[(13,v4),(4,.int i64 (i:Int)),(3,aI b3),(0,aI b)]);refine rg aB hQ W8 ?_;intro w7 e7;have E:=e4.O e7;have c4:=b9.Y e a3 e7;have s0:=SX.refl aB w7
 repeat refine sm k fun a k=>?_
 refine jw (cur:=R.cells g.bad) k (by decide) rfl (by kernel_rfl) rfl rfl (by rw[a6];rfl) E.obj.heap (by show 4<11;omega) (by rw[a6];rfl) (fun h=>absurd rfl h) fun a k=>?_;refine ay ?_;obtain⟨a0,d2,d1⟩:=E.obj.set E.wf (us:=(R.cells g.bad).set 4 v4);have e2:=E.setObj a0 d2 d1;have qp:=c4.eY e E.wf a0 (.inl (by decide));refine Z _ _ S2 d0 (k.sb) qp ⟨{R with net:=v4},?_,d8,d3⟩;exact e2
noncomputable def As:Code:=.seq (.region 35 HX false) (.cond (.tmp 229) (.seq (.region 36 HW true) AK) .skip)
def LB(C:QP Q)(h:DS w S ow b b3 dv n K N g)(U:dv[11]?=some (.int i64 c))(p:jX i64 c)(k:Kn 359 a [(4,.int i64 (i:Int)),(3,aI b3),(0,aI b)])(f:∀a W S' bT g',Kn 359 a [(4,.int i64 (i:Int)),(3,aI b3),(0,aI b)]->bD LG aB w S ow W S' bT->kv W S' bT b g'->GI n K N g'->Q .normal a W):As.wp Try.prog Q a w:=by
 have d:=h.wf;have B:=h.gi.nl;unfold As;refine wp_seq (rg aB C Xd ?_);intro F I;have t:=h.O I;have o:=(bD.refl LG aB w S ow).Y d d I;have O:=SX.refl aB F;obtain⟨R,m,T,P⟩:=t.yE;obtain⟨A,Y,G⟩:=m.net.slice
 repeat (first|refine sm k fun a k=>?_|refine ld k (m.cell id (j:=4) rfl) fun a k=>?_)
 rw[G]at k
 repeat refine sm k fun a k=>?_
 refine cm (c:=decide ((g.net.length:Int)>0)) k rfl rfl rfl fun a k=>?_;refine ay (bf k rfl ?_);by_cases z:(g.net.length:Int)>0
 .rw[if_pos (by simpa using z)];obtain⟨q0,q1⟩:=se (b:=(g.net.length:Int)) p z;generalize V:(ib c (g.net.length:Int)).toNat=at_;have r:ib c (g.net.length:Int)=(at_:Int):=by omega
  have q:at_<g.net.length:=by omega
  have k:=k.sb (l:=[(4,.int i64 (i:Int)),(3,aI b3),(0,aI b)]);refine wp_seq (jy (n0:=8) aB mix (by exact C) Xc (fun _=>by kernel_rfl) ?_);intro J E;have s:=t.O E;have x:=o.Y d t.wf E;have O:=SX.refl aB J;have D:=m.O E
  repeat (first|refine sm k fun a k=>?_|refine ld k (D.cell id (j:=4) rfl) fun a k=>?_|refine ld k (s.lx.cell id U) fun a k=>?_)
  rw[G]at k
  repeat refine sm k fun a k=>?_
  refine gV (vs:=[.int i64 c,.int i64 (g.net.length:Int)]) k (by decide) rfl (by decide) c8.enter rfl (kX s.wf p (jt (by omega) (by omega)) (by omega)) ?_;rintro e w3 ⟨rfl,BR,PY⟩;have M:=BR.vi aB;refine⟨_,rfl,fun _=>M,fun a k=>?_⟩
  repeat refine sm k fun a k=>?_
  refine ay ?_;rw[r]at k;have H:=s.KM BR PY;have v:=x.Z d s.wf BR nE;refine L2 (by exact C) H.yE q B (k.sb) ?_;intro a W Z y k u X;exact f a W Z y _ k (kM d H.wf v u nE) X (h.gi.cut at_)
 rw[if_neg (by simpa using z)];exact wp_skip (f a F S ow g (k.sb) o t.yE h.gi)
def Wp(q:QP Q)(h:DS w S ow b b3 dv n K N g)(x:12040<=K)(v:N<=99998000)(k:Kn 359 a [(0,aI b)])(f:∀a W S' bT g',Kn 359 a [(0,aI b)]->bD LG aB w S ow W S' bT->kv W S' bT b g'->GI n (K-12040) (N+430) g'->Q .normal a W):yZ.wp Try.prog Q a w:=by have d:=h.gi;have o:=d.nl;obtain⟨R,u,_,_⟩:=h.yE;have j:=u.net.all;have t:GI n (K-12040+28*g.net.length) N {g with net:=[]}:=(⟨⟨d.len.n5,d.len.cO,d.len.aX,d.len.saved,d.len.lead,d.len.vl⟩,d.n1,d.cf,d.ew,fun m e=>(by cases e),aF _,d.told,d.nn,d.sf.cut (fun m e=>by cases e) (fun m e=>by cases e)⟩:GI n K N {g with net:=[]}).le (by omega) (ar _);obtain⟨s,r⟩:=GI.all t (by omega) (fun m e=>⟨d.net m e,j m e⟩) (d.sf.cut (fun m e=>by cases e) (fun m e=>.inl e));refine Fv q h.yE h.PV s k fun a W S' bT k l p=>f a W S' bT _ k l p ?_;exact r.le (aU _) (by omega)
end
end Go.Proofs.Ytjhmkaninmgilaa
namespace Go.Proofs.Ytjhmkaninmgilaa
open Go Go.RowKit Go.dF Go.Proofs
section
variable{w:Tam}{S:bE}{ow:Ow}{l b:Nat}{s:RS}
def Ll{x:D}{u:Tan}(h:kr w S ow l (dG 0) b [cR s,cL s])(G:Wf w S ow)(A:1000<=l)(F:Has vw x)(H:cg w S u x)(z:Ok s 20):
  Calls Try.prog 16 #[.pointer (some ⟨b,0,none⟩),u] w fun e k=>∃E vo j f,e=.returned (.tuple [E,.int i64 (dH x s).1.2.1,vo].toArray)/\bD (iI l) aB w S ow k j f/\Wf k j f/\kr k j f l (dG 0) b [cR (dH x s).2,cL (dH x s).2]/\
   (cg k j E (dH x s).1.1/\Has dY (dH x s).1.1)/\cg k j vo (dH x s).1.2.2/\Has zk (dH x s).1.2.2:=by
 have t:dx (.V s16.params) ([x]++[cR s,cL s].flatten):=aJ.2 ⟨_,_,rfl,F,fE h⟩;refine(h.call (ob0:=dG 0) (vs:=[u]) (n:=1) c16 rfl rfl rfl rfl rfl rfl (by decide) (.inl (by decide)) rfl A G rfl rfl ?_ t z).mono ?_
 .intro i v d m q
  match i,m,q with
  |0,m,q=>injection m with m;injection q with q;subst m q;exact H
 rintro e N ⟨v,j,f,τ,M,outs,rfl,a,P8,P7,UW,P9,mE⟩;replace a:D.ff [.ff [(dH x s).1.1,.int i64 (dH x s).1.2.1,(dH x s).1.2.2],.agg (cR (dH x s).2),.agg (cL (dH x s).2)]=.ff (M::outs.map .agg):=a;injection a with a;have p:outs.length=2:=P8
 match outs,p with
 | [o1,o2],_=>
  simp only[cM,List.map_nil,eI,D.agg.injEq,and_true]at a;obtain⟨rfl,rfl,rfl⟩:=a;rcases mE with⟨c,hc,_⟩|⟨_,us,ds,rfl,g,hul,hdl,uk⟩
  .have I:(3:Nat)=1:=congrArg List.length hc;cases I
  injection g with g;subst g;have o:us.length=3:=hul
  match us,o with
  | [u0,u1,u2],_=>
   have K:=qH (ts:=dY.cells) (τ:=τ) (.inl ⟨_,rfl,uk 0 _ _ _ rfl rfl rfl⟩);have J:=qH (ts:=VF) (τ:=τ) (.inl ⟨_,rfl,uk 2 _ _ _ rfl rfl rfl⟩);have C:=uk 1 _ _ _ rfl rfl rfl;unfold gk at C;simp only[aj,if_false]at C;obtain⟨y,r,B⟩:=C;injection r with r;subst r;have L:u1=.int i64 (dH x s).1.2.1:=B.1.cQ;subst L;exact⟨u0,u2,j,f,rfl,P7,UW,P9,K,J⟩
end
attribute [local irreducible] TL AT
def Kn.swap{n:Nat}{a:Act}{p q:Nat×Tan}{m:Tab}(h:Kn n a (p::q::m))(c:p.1≠q.1):Kn n a (q::p::m):=by
 refine⟨h.1,h.2.1,fun t v e=>h.2.2 t v ?_⟩;rw[<-e];simp only[lk];by_cases d:t=p.1
 .subst d;simp[c]
 simp[d]
def lH{P:Tap}{ops:Tad}{Q:Iv}{c:Tae}{p q:Tah}{a:Act}{w:Tam}(h:AT P ops Q c p a w)(e:p.length=q.length)(d:iB ops.size p=iB ops.size q):AT P ops Q c q a w:=by unfold AT at h⊢;rw[<-e,<-d];exact h
def L15:Tak->Tab
 |none=>[]
 |some B=>[(15,aI B)]
def L17:Tak->Tab
 |none=>[]
 |some B=>[(17,aI B)]
structure KS(w0:Tam)(S0:bE)(o0:Ow)(X:Tai)(w2:Tam)(F:Tam->bE->Ow->Prop)(m:Tab)(b7 b9:Tak)(a:Act)(w:Tam)(S:bE)(ow:Ow):Prop where
 kn:Kn 359 a (L15 b7++(L17 b9++m))
 wf:Wf w S ow
 st:bD LG aB w0 S0 o0 w S ow
 sx:SX X w2 w
 f:F w S ow
 n:pC ow
 c7:∀B,b7=some B->∃zs,zs.length=29/\fF w S ow B 78 zs
 c9:∀B,b9=some B->∃zs,zs.length=8/\fF w S ow B 75 zs
 g7:∀B,b7=some B->w2.heap.size<=B
 g9:∀B,b9=some B->w2.heap.size<=B
 ne:∀B,b7=some B->b9≠some B
def KK(w0:Tam)(S0:bE)(o0:Ow)(X:Tai)(w2:Tam)(F:Tam->bE->Ow->Prop)(m:Tab)(b7 b9:Tak)(a:Act)(w:Tam):Prop:=∃S ow,KS w0 S0 o0 X w2 F m b7 b9 a w S ow
section
variable{w0 w2:Tam}{S0:bE}{o0:Ow}{X:Tai}{F:Tam->bE->Ow->Prop}{m:Tab}{b7 b9:Tak}{a a':Act}{w:Tam}{S:bE}{ow:Ow}{N:Act->Tae}{Q:Iv}
def rz(h:SX X w2 w)(o:Obj):SX X w2 (w.alloc o):=
 ⟨aY h.1 (by simp),fun b c d=>(Below.heap_alloc w o b (az c h.1)).trans (h.2 b c d)⟩
def Hk(h:SX X w2 w){b:Nat}(f:w2.heap.size<=b)(r:Tbd Tan):SX X w2 (w.setRow b r):=
 ⟨aY h.1 (by simp),fun k d c=>(setRow_other w b k r (fun e=>by omega)).trans (h.2 k d c)⟩
def KS.ago(h:KS w0 S0 o0 X w2 F m none b9 a w S ow)(r:∀w S ow o,Wf w S ow->F w S ow->F (w.alloc o) S ow)(j:Wf w0 S0 o0){zs:Tac}(q:zs.length=29)(k:Kn 359 a' ((15,aI w.heap.size)::(L17 b9++m))):KS w0 S0 o0 X w2 F m (some w.heap.size) b9 a' (w.alloc (.cells zs.toArray 78)) S ow:=by
 have d:=bD.alloc h.wf (.cells zs.toArray 78);refine⟨k,d.2,h.st.Z j h.wf d.1 nE,rz h.sx _,r _ _ _ _ h.wf h.f,h.n,?_,fun B c=>?_,?_,h.g9,?_⟩
 .rintro B c;injection c with c;subst c;exact⟨zs,q,fF.new h.wf 78 zs⟩
 .obtain⟨us,p,l⟩:=h.c9 B c;exact⟨us,p,l.J d.1 (fun h=>h)⟩
 .rintro B c;injection c with c;subst c;exact h.sx.1
 rintro B c e;injection c with c;subst c;obtain⟨us,p,l⟩:=h.c9 _ e;exact Nat.lt_irrefl _ l.lt
def KS.agn(h:KS w0 S0 o0 X w2 F m b7 none a w S ow)(r:∀w S ow o,Wf w S ow->F w S ow->F (w.alloc o) S ow)(j:Wf w0 S0 o0){zs:Tac}(q:zs.length=8)(k:Kn 359 a' ((17,aI w.heap.size)::(L15 b7++m))):KS w0 S0 o0 X w2 F m b7 (some w.heap.size) a' (w.alloc (.cells zs.toArray 75)) S ow:=by
 have d:=bD.alloc h.wf (.cells zs.toArray 75);refine⟨?_,d.2,h.st.Z j h.wf d.1 nE,rz h.sx _,r _ _ _ _ h.wf h.f,h.n,fun B c=>?_,?_,h.g7,?_,?_⟩
 .cases b7 with
  |none=>exact k
  |some B=>exact Kn.swap k (fun e=>by cases e)
 .obtain⟨us,p,l⟩:=h.c7 B c;exact⟨us,p,l.J d.1 (fun h=>h)⟩
 .rintro B c;injection c with c;subst c;exact⟨zs,q,fF.new h.wf 75 zs⟩
 .rintro B c;injection c with c;subst c;exact h.sx.1
 rintro B c e;injection e with e;subst e;obtain⟨us,p,l⟩:=h.c7 _ c;exact Nat.lt_irrefl _ l.lt
def Dy(l:∀w S ow o,Wf w S ow->F w S ow->F (w.alloc o) S ow)(c:Wf w0 S0 o0)(h:KK w0 S0 o0 X w2 F m none b9 a w)(j:∀B a' d,KK w0 S0 o0 X w2 F m (some B) b9 a' d->N a' d):TL Try.prog (fG kQ [13]) (NQ (fun a w=>SX X w2 w/\N a w) Q) (SX X w2) 0 [(some 15,.alloc 78,none)] [(some 15,.alloc 78,none)] 0 a w:=by obtain⟨S,ow,h⟩:=h;refine jO (nn:=29) h.kn (by decide) rfl (by decide) (by kernel_rfl) (fun e _=>rz h.sx _) fun e f a k=>ay ?_;exact⟨rz h.sx _,j _ _ _ ⟨S,ow,h.ago l c f k⟩⟩
def Dx(l:∀w S ow o,Wf w S ow->F w S ow->F (w.alloc o) S ow)(c:Wf w0 S0 o0)(h:KK w0 S0 o0 X w2 F m b7 none a w)(j:∀B a' d,KK w0 S0 o0 X w2 F m b7 (some B) a' d->N a' d):TL Try.prog (fG kQ [14]) (NQ (fun a w=>SX X w2 w/\N a w) Q) (SX X w2) 0 [(some 17,.alloc 75,none)] [(some 17,.alloc 75,none)] 0 a w:=by obtain⟨S,ow,h⟩:=h;refine jO (nn:=8) h.kn (by decide) rfl (by decide) (by kernel_rfl) (fun e _=>rz h.sx _) fun e f a k=>ay ?_;exact⟨rz h.sx _,j _ _ _ ⟨S,ow,h.agn l c f k⟩⟩
def JH:bJ (fG kQ [13])=[(some 15,.alloc 78,none)]:=by kernel_rfl
def JG:bJ (fG kQ [14])=[(some 17,.alloc 75,none)]:=by kernel_rfl
def JF:bJ (fG kQ [8])=[oC 283 16 #[(.tmp 281),(.tmp 282)] #[52,44]]:=by kernel_rfl
def aca:bJ (fG kQ [9,10,11,12])=[oM 274 283,(some 284,.extract (.tmp 274) 0,none),(some 285,.extract (.tmp 274) 1,none),(some 286,.extract (.tmp 274) 2,none)]:=by kernel_rfl
def acb:bJ (fG kQ [15,16,17])=[oS 78 15 284,oA 16 285,oS 75 17 286]:=by kernel_rfl
def acd:bJ (fG kQ [0,1,2,3,4,5,6,7])=[oM 275 0,oN 276 275,oF 277 59 276 1,oL 278 54 277,oM 279 4,oI 280 54 278 279,oL 281 52 280,oL 282 44 14]:=by kernel_rfl
def Hh{b:Nat}{ops:Tad}{j:Tae}{n i:Nat}{f:Tab}{r L:List OK}{x y:Tbb}{t T:Tba}{cur vs:Tac}(k:Kn n a f)(q:iy Try.prog t=some vs.length)(p:mD f x=some (aI b))(o:mD f y=some (.agg vs.toArray))(d:fF w S ow b T cur)(l:cur.length=vs.length)(c:∀v∈vs,v.oneCell'=true)(u:j (w.setRow b vs.toArray))(h:∀a',Kn n a' f->TL Try.prog ops Q j 0 L r (i+1) a' (w.setRow b vs.toArray)):TL Try.prog ops Q j 0 L ((none,.store t x y,none)::r) i a w:=by
 have e:(cur.toArray.toList.take 0++vs++cur.toArray.toList.drop (0+vs.length))=vs:=by simp[<-l]
 refine ln (vs:=vs) (cur:=cur.toArray) (off:=0) k (aF _) rfl q p o rfl d.heap (by simp[l]) c ?_ ?_
 .rw[e];exact fun _=>u
 rw[e];exact h
end
section
variable{w:Tam}{S:bE}{ow:Ow}{b b3 Mn i:Nat}{vs us:Tac}{R:GR}{g:GS}{s:RS}{x:D}{Q:Iv}{a:Act}
def XO(hQ:QP Q)(hn:pC ow)(h:kv w S ow b g)(hi:i<g.ew.length)(f1:i<100)(d0:g.aX.length<=5)(hx:Has vw x)(a8:Ok (cG g i) 20)(a6:fF w S ow Mn 44 us)(d1:us.length=27)(d2:cg w S (.agg us.toArray) x)(k:Kn 359 a [(14,aI Mn),(4,.int i64 (i:Int)),(3,aI b3),(0,aI b)])(L:∀a W S' D b4 c,Kn 359 a [(17,aI b4),(4,.int i64 (i:Int)),(3,aI b3),(0,aI b)]->bD LG aB w S ow W S' D->kv W S' D b (hJ i (dH x (cG g i)).2 g)->pC D->
   fF W S' D b4 75 c->c.length=8->cg W S' (.agg c.toArray) (dH x (cG g i)).1.2.2->Has zk (dH x (cG g i)).1.2.2->Q .normal a W):(Code.region 46 kQ true).wp Try.prog Q a w:=by
 obtain⟨R,gm,Y,c6⟩:=h;have hs:g.ew[i]?=some (cG g i):=iG hi;generalize e8:cG g i=s at a8 L hs;have t:=gm.wf;have K:kQ.size=18:=by kernel_rfl
 refine Sx (fun r=>ow r=some (1000+i)) mix fun w2 e2=>?_;have E:=gm.O e2;have a5:=a6.O e2;have b6:bD LG aB w S ow w2 S ow:=bD.O e2 LG aB S ow;have s0:=SX.refl (fun r=>ow r=some (1000+i)) w2;have c3:¬ow b=some (1000+i):=by rw[E.obj.ow];intro h;injection h with h;omega
 have c1:¬ow Mn=some (1000+i):=by rw[a6.ow];intro e;cases e
 obtain⟨bs,a0,f0,e7⟩:=E.ew i s hs;obtain⟨bl,e6,d8,d6,d5,b1⟩:=E.arr.elem (i:=i) (u:=aI bs) (by rw[Y,ab,a0];rfl);have d7:i<(R.la.map aI).length:=by rw[ao,Y,E.rn];exact hi
 have c2:¬ow bl=some (1000+i):=by rw[d5];intro h;injection h with h;omega
 refine Jp (p:=[0,1,2,3,4,5,6,7]) (p2:=[0,1,2,3,4,5,6,7]) (n0:=8) (by kernel_rfl) hQ acd rfl ?_
 repeat (first|refine sm k fun a k=>?_|refine ld k (E.cell c3 rfl) fun a k=>?_)
 rw[d8]at k;refine wQ (el:=52) (sz:=1) k rfl rfl d7 fun a k=>?_;refine ky (v:=aI bs) k (by assumption) rfl (by decide) rfl (by kernel_rfl) (by kernel_rfl) (eP d6 c2 (by rw[bK];exact b1)) fun a k=>?_;refine lN (vs:=us) k rfl d1 (fun w' c4 q v hv=>by rw[av];exact a5.cell c1 hv w' c4) fun a k=>?_;refine ay ⟨s0,?_⟩;have a7:cg w2 S (.agg us.toArray) x:=d2.keep (S':=S) (w':=w2) (fun _ _ h=>h) (fun b o _=>e2.cell _);let F0:Tam->bE->Ow->Prop:=fun w S D=>D=ow/\GM w S D b (R.cells g.bad) R g/\cg w S (.agg us.toArray) x;let F1:Tac->Tac->Tam->bE->Ow->Prop:=fun d c w S ow=>GM w S ow b (R.cells g.bad) R (hJ i (dH x s).2 g)/\cg w S (.agg d.toArray) (dH x s).1.1/\cg w S (.agg c.toArray) (dH x s).1.2.2;have O:∀w S ow o,Wf w S ow->F0 w S ow->F0 (w.alloc o) S ow:=fun w S ow o P h=>⟨h.1,h.2.1.J (bD.alloc P o).1 (bD.alloc P o).2,h.2.2.J (bD.alloc P o).1⟩;have M:∀d c w S ow o,Wf w S ow->F1 d c w S ow->F1 d c (w.alloc o) S ow:=fun d c w S ow o P h=>⟨h.1.J (bD.alloc P o).1 (bD.alloc P o).2,h.2.1.J (bD.alloc P o).1,h.2.2.J (bD.alloc P o).1⟩;let m0:Tab:=[(281,aI bs),(282,.agg us.toArray),(4,.int i64 (i:Int)),(3,aI b3),(0,aI b)];let m1:Tac->Tac->Tab:=fun d c=>[(284,.agg d.toArray),(285,.int i64 (dH x s).1.2.1),(286,.agg c.toArray),(4,.int i64 (i:Int)),(3,aI b3),(0,aI b)];let J0:=KK w S ow (fun r=>ow r=some (1000+i)) w2 F0 m0;let J1:=fun d c=>KK w S ow (fun r=>ow r=some (1000+i)) w2 (F1 d c) (m1 d c);let A:=AT Try.prog kQ Q (SX (fun r=>ow r=some (1000+i)) w2);have Z:J0 none none a w2:=⟨S,ow,k.sb,E.wf,b6,s0,⟨rfl,E,a7⟩,hn,(fun _ h=>by cases h),(fun _ h=>by cases h),(fun _ h=>by cases h),(fun _ h=>by cases h),(fun _ h=>by cases h)⟩;let C9:Tac->Tac->Prop:=fun d c=>d.length=29/\c.length=8/\(∀u∈d,u.oneCell'=true)/\(∀u∈c,u.oneCell'=true)/\Has dY (dH x s).1.1/\Has zk (dH x s).1.2.2
 have J:∀d c y B9 a w,C9 d c->J1 d c (some y) (some B9) a w->A [0,1,2,3,4,5,6,7,8,9,10,11,12,13,14] a w:=by rintro d c y B9 a w3 ⟨G,C,YG,Mm,hte,P6⟩ ⟨S3,G5,h⟩;refine Jp (p:=[15,16,17]) (p2:=[0,1,2,3,4,5,6,7,8,9,10,11,12,13,14,15,16,17]) (n0:=0) (by kernel_rfl) hQ acb rfl ?_;obtain⟨z7,c0,l7⟩:=h.c7 y rfl;obtain⟨z9,b8,l9⟩:=h.c9 B9 rfl;have b0:y≠B9:=fun e=>h.ne y rfl (by rw[e]);obtain⟨g1,r1,r2⟩:=h.f;obtain⟨sa,wa,la⟩:=l7.set (us:=d) h.wf;have a4:=l9.J sa (fun e=>b0 e.symm);obtain⟨sb,wb,lb⟩:=a4.set (us:=c) wa;have iw:=la.J sb b0;have x1:=Hk h.sx (h.g7 y rfl) d.toArray;have x2:=Hk x1 (h.g9 B9 rfl) c.toArray;refine Hh (vs:=d) h.kn (by rw[G];kernel_rfl) rfl rfl l7 (by rw[c0,G]) YG x1 fun a k=>?_;refine xl k x1 rfl (by decide) rfl fun a k=>?_;refine Hh (vs:=c) k (by rw[C];kernel_rfl) rfl rfl a4 (by rw[b8,C]) Mm x2 fun a k=>?_;refine ay ⟨x2,J3 (by rw[K];decide) (by kernel_rfl) ?_⟩;have T:=h.st.Z t h.wf sa (fun r e=>by rw[show r=y from e];rw[<-e2.heap];exact h.g7 y rfl);have b5:=T.Z t wa sb (fun r e=>by rw[show r=B9 from e];rw[<-e2.heap];exact h.g9 B9 rfl);have g2:=(g1.J sa wa).J sb wb;exact L _ _ _ _ B9 c (k.sb) b5 ⟨R,g2,Y,c6⟩ h.n lb C ((r2.J sa).J sb) P6
 have a2:∀d c y a w,C9 d c->J1 d c (some y) none a w->A [0,1,2,3,4,5,6,7,8,9,10,11,12,13] a w:=fun d c y a w H h=>
  Jp (p:=[14]) (n0:=0) (by kernel_rfl) hQ JG rfl (Dx (M d c) t h fun B a w h=>J d c y B a w H h)
 have a1:∀d c B9 a w,C9 d c->J1 d c none (some B9) a w->A [0,1,2,3,4,5,6,7,8,9,10,11,12,14] a w:=fun d c B9 a w H h=>
  Jp (p:=[13]) (n0:=0) (by kernel_rfl) hQ JH rfl (Dy (M d c) t h fun B a w h=>lH (J d c B B9 a w H h) rfl (by kernel_rfl))
 have nC:∀d c a w,C9 d c->J1 d c none none a w->A [0,1,2,3,4,5,6,7,8,9,10,11,12] a w:=by
  intro d c a w H h;refine qA (R:=[13,14]) (by rw[K];decide) (by kernel_rfl) (by decide) fun i hi=>?_;simp only[aH,cb,or_false]at hi;rcases hi with rfl|rfl
  .exact gW (by kernel_rfl) JH (Dy (M d c) t h fun B a w h=>a2 d c B a w H h)
  exact gW (by kernel_rfl) JG (Dx (M d c) t h fun B a w h=>a1 d c B a w H h)
 have call:∀(p p2:Tah) b7 b9 a w,oU kQ p [9,10,11,12] 4=true->p++[9,10,11,12]=p2->J0 b7 b9 a w->(∀d c a w,C9 d c->J1 d c b7 b9 a w->A p2 a w)->TL Try.prog (fG kQ [8]) (NQ (fun a w=>SX (fun r=>ow r=some (1000+i)) w2 w/\A p a w) Q) (SX (fun r=>ow r=some (1000+i)) w2) 0 [oC 283 16 #[(.tmp 281),(.tmp 282)] #[52,44]] [oC 283 16 #[(.tmp 281),(.tmp 282)] #[52,44]] 0 a w:=by
  rintro p p2 b7 b9 a w3 hp d3 ⟨S3,G5,h⟩ hN;obtain⟨d4,g1,r1⟩:=h.f;obtain⟨f5,I,a9,-⟩:=g1.ew i s hs;rw[a0]at I;injection I with I;subst I;refine gV (vs:=[aI bs,.agg us.toArray]) h.kn (by decide) rfl (by decide) c16.enter ?_ (Ll a9 h.wf (by omega) hx r1 a8) ?_
  .cases b7<;>cases b9<;>rfl
  rintro e9 w4 ⟨ve,vo,S4,UP,rfl,rH,KI,MD,⟨hre,hte⟩,YD,P6⟩
  have s4:SX (fun r=>ow r=some (1000+i)) w2 w4:=by
   refine⟨aY h.sx.1 rH.size,fun r hb hx=>?_⟩;refine Eq.trans ?_ (h.sx.2 r hb hx);have b2:=az hb h.sx.1;have e5:r<w.heap.size:=by rw[<-e2.heap];exact hb
   cases ho:G5 r with
   |none=>exact rH.free r b2 ho (fun h=>h)
   |some l=>
    refine rH.GY r l b2 ho (fun hl=>hx ?_);have hl:l=1000+i:=hl;subst hl;rw[<-d4];exact ho
  refine⟨_,rfl,fun h=>absurd rfl h,fun a k=>ay ⟨s4,?_⟩⟩;obtain⟨d,de,rfl,f3,G,e1,e4,-,V⟩:=ML hre hte rfl;obtain⟨c,f4,rfl,f2,C,e0,e3,-,U⟩:=ML YD P6 rfl;refine Jp hp hQ aca d3 ?_;refine sm k fun a k=>?_;refine qz (j:=0) k (by assumption) rfl (by decide) rfl rfl fun a k=>?_;refine qz (j:=1) k (by assumption) rfl (by decide) rfl rfl fun a k=>?_;refine qz (j:=2) k (by assumption) rfl (by decide) rfl rfl fun a k=>?_;refine ay ⟨s4,hN d c a w4 ⟨G,C,V,U,hte,P6⟩ ?_⟩;have T:=h.st.eY t h.wf rH (.inr (by omega));have d9:=g1.uJ (i:=i) (s':=(dH x s).2) rH KI hi a0 MD (fE MD) d0;refine⟨S4,UP,?_,KI,T,s4,⟨d9,hre,YD⟩,h.n.J rH (fun l hl=>by simp only[iI]at hl;subst hl;exact .inr (by omega)),fun B hB=>?_,fun B hB=>?_,h.g7,h.g9,h.ne⟩
  .cases b7<;>cases b9<;>exact k.sub ⟨rfl,rfl,rfl,rfl,rfl,rfl,by repeat constructor⟩
  .obtain⟨z,h1,h2⟩:=h.c7 B hB;exact⟨z,h1,h2.J rH id⟩
  obtain⟨z,h1,h2⟩:=h.c9 B hB;exact⟨z,h1,h2.J rH id⟩
 have a3:∀y B9 a w,J0 (some y) (some B9) a w->A [0,1,2,3,4,5,6,7,13,14] a w:=fun y B9 a w h=>
  Jp (p:=[8]) (n0:=0) (by kernel_rfl) hQ JF rfl (call _ _ _ _ _ _ (by kernel_rfl) rfl h fun d c a w H h=>lH (J d c y B9 a w H h) rfl (by kernel_rfl))
 have nA:∀y a w,J0 (some y) none a w->A [0,1,2,3,4,5,6,7,13] a w:=by
  intro y a w h;refine qA (R:=[8,14]) (by rw[K];decide) (by kernel_rfl) (by decide) fun i hi=>?_;simp only[aH,cb,or_false]at hi;rcases hi with rfl|rfl
  .exact gW (by kernel_rfl) JF (call _ _ _ _ _ _ (by kernel_rfl) rfl h fun d c a w H h=>lH (a2 d c y a w H h) rfl (by kernel_rfl))
  exact gW (by kernel_rfl) JG (Dx O t h fun B a w h=>a3 y B a w h)
 have nB:∀B9 a w,J0 none (some B9) a w->A [0,1,2,3,4,5,6,7,14] a w:=by
  intro B9 a w h;refine qA (R:=[8,13]) (by rw[K];decide) (by kernel_rfl) (by decide) fun i hi=>?_;simp only[aH,cb,or_false]at hi;rcases hi with rfl|rfl
  .exact gW (by kernel_rfl) JF (call _ _ _ _ _ _ (by kernel_rfl) rfl h fun d c a w H h=>lH (a1 d c B9 a w H h) rfl (by kernel_rfl))
  exact gW (by kernel_rfl) JH (Dy O t h fun B a w h=>lH (a3 B B9 a w h) rfl (by kernel_rfl))
 refine qA (R:=[8,13,14]) (by rw[K];decide) (by kernel_rfl) (by decide) fun i hi=>?_;simp only[aH,cb,or_false]at hi;rcases hi with rfl|rfl|rfl
 .exact gW (by kernel_rfl) JF (call _ _ _ _ _ _ (by kernel_rfl) rfl Z fun d c a w H h=>nC d c a w H h)
 .exact gW (by kernel_rfl) JH (Dy O t Z fun B a w h=>nA B a w h)
 exact gW (by kernel_rfl) JG (Dx O t Z fun B a w h=>nB B a w h)
end
def Az:∀{ts:Tal} {l:Taf} {i:Nat} {t:Ty} {d:D},dx (.V ts) l->ts[i]?=some t->Has t d->dx (.V ts) (l.set i d)
 |[],_,_,_,_,_,h,_=>by cases h
 |_::ts,l,0,t,d,hl,h,hd=>by obtain⟨x,r,rfl,_,e⟩:=aJ.1 (show dx (.cons _ (.V ts)) l from hl);injection h with h;subst h;exact aJ.2 ⟨_,_,rfl,hd,e⟩
 |_::ts,l,i+1,t,d,hl,h,hd=>by obtain⟨x,r,rfl,f,e⟩:=aJ.1 (show dx (.cons _ (.V ts)) l from hl);exact aJ.2 ⟨_,_,rfl,f,Az e h hd⟩
def C5(c:Int):Tac:=((nY.drop 2).set 0 (.int i64 3)).set 3 (.int i64 c)
def aaH(c:Int):D:=.agg (((qw.cells.drop 2).set 0 (.int i64 3)).set 3 (.int i64 c))
def PL{c:Int}(j:jX i64 c):Has vw (aaH c):=by
 obtain⟨l,f,h⟩:=dU.1 FY;have e:qw.cells=l:=by rw[f];rfl
 have d:dx (.V C6) (l.drop 2):=tP (a:=[.int i64,.int i64]) (b:=C6) h;rw[<-e]at d;exact dU.2 ⟨_,rfl,Az (Az d (t:=.int i64) rfl ⟨_,rfl,by decide⟩) (t:=.int i64) rfl ⟨_,rfl,j⟩⟩
def PK{w:Tam}{S:bE}{c:Int}:cg w S (.agg (C5 c).toArray) (aaH c):=by
 refine .agg _ _ ?_ fun j u d e f=>?_
 .unfold C5;rw[aQ,aQ,aQ,aQ];rfl
 unfold C5 at e;rw[bj]at e f;by_cases h:3=j
 .subst h;rw[if_pos rfl]at e f;rw[if_pos (by rw[aQ];decide)]at e f;injection e with e;injection f with f;subst e f;exact .int _ _
 rw[if_neg h]at e f;rw[bj]at e f;by_cases k:0=j
 .subst k;rw[if_pos rfl,if_pos (by decide)]at e f;injection e with e;injection f with f;subst e f;exact .int _ _
 rw[if_neg k]at e f;rw[aD]at e f;exact FX _ _ _ e f
def PJ{c:Int}:∀v∈C5 c,v.oneCell'=true:=by
 intro v d;rcases cX d with d|rfl
 .rcases cX d with d|rfl
  .have:∀v∈nY.drop 2,v.oneCell'=true:=by decide
   exact this v d
  rfl
 rfl
noncomputable def DJ:Code:=.seq (.region 46 kQ true) (.region 47 HN false)
noncomputable def Am:Code:=.seq (.region 43 HP false) (.seq (.seq (.region 44 HO false) (.cond (.tmp 271) (.region 45 Oy false) .skip)) DJ)
section
variable{w w0 w':Tam}{S S0 S':bE}{ow kG bT:Ow}{b b3 Mn i n K L:Nat}{N c op:Int}{g g':GS}{dv us:Tac}{x:D}{Q:Iv}{a:Act}
def O4(O:QP Q)(h:DS w S ow b b3 dv n (L+28) N g)(hi:i<n)(D:fF w S ow Mn 44 us)(G:us.length=27)(U:Has vw x)(E:(cD 0 x).q≠2)(I:cg w S (.agg us.toArray) x)(k:Kn 359 a [(14,aI Mn),(4,.int i64 (i:Int)),(3,aI b3),(0,aI b)])(f:∀a W S' bT g',Kn 359 a [(4,.int i64 (i:Int)),(3,aI b3),(0,aI b)]->bD LG aB w S ow W S' bT->kv W S' bT b g'->GI n L (N+1) g'->Q .normal a W):DJ.wp Try.prog Q a w:=by
 have d:=h.gi;have X:=h.nN;have Y:=h.n5;have l:=h.wf;obtain⟨R,M,a3,a4⟩:=d.get hi;obtain⟨p,r,-⟩:=d.KW hi (by omega) rfl (o:=(dH x (cG g i)).1.2.2) (s':=(dH x (cG g i)).2) ((LR (x:=x) a3 R (K:=L) (M.le (by omega))).mono (ar _) (aU _)) d.sf (fun w lg _ hN Z=>QB (K:=0) Z (M.le (by omega)) E hN);unfold DJ;refine wp_seq (XO (by exact O) h.PV h.yE (by rw[d.n1];exact hi) (by omega) (by rw[d.len.aX];exact d.len.n5) U (M.ok R (by omega) (by omega)) D G I k ?_);intro a w1 S1 B a0 P k A t J C u m H;refine rg aB O W2 ?_;intro T y;have s:=t.O y;have z:=A.Y l t.wf y;have s0:=SX.refl aB T;have j:=C.O y
 repeat refine sm k fun a k=>?_
 refine lN (vs:=P) k rfl u (fun w' F q v V=>by rw[av];exact j.cell id V w' F) fun a k=>?_;refine gV (vs:=[aI b,.int i64 (i:Int),.agg P.toArray,.bool false]) k (by decide) rfl (by decide) qL rfl (qG (g:=hJ i (dH x (cG g i)).2 g) s J (m.J (bD.O y aB aB S1 B)) H p) ?_;rintro e w5 ⟨S5,KD,rfl,tj,Ms⟩;refine⟨_,rfl,fun h=>absurd rfl h,fun a k=>?_⟩;exact ay (f _ _ S5 KD _ (k.sb) (kM l s.wf z tj nE) Ms r)
def Lk(M:QP Q)(h:DS w S ow b b3 dv n (L+28) N g)(hi:i<n)(a0:dv.length=76)(hc:dv[11]?=some (.int i64 c))(I:jX i64 c)(E:dv[49]?=some (.int i64 op))(F:op≠2)(hx:Has vw x)(D:cg w S (.agg (dv.drop 49).toArray) x)(k:Kn 359 a [(4,.int i64 (i:Int)),(3,aI b3),(0,aI b)])(q:∀a W S' bT g',Kn 359 a [(4,.int i64 (i:Int)),(3,aI b3),(0,aI b)]->bD LG aB w S ow W S' bT->kv W S' bT b g'->GI n L (N+1) g'->Q .normal a W):Am.wp Try.prog Q a w:=by
 have d:=h.wf;unfold Am;refine wp_seq (rg aB M W5 ?_);intro m z;have s:=h.O z;have o:=(bD.refl LG aB w S ow).Y d d z;have P:=SX.refl aB m
 repeat (first|refine sm k fun a k=>?_|refine ld k (s.lx.cell id hc) fun a k=>?_)
 refine mM (ps:=[(0,.int i64 c)]) (vs:=((nY.drop 5).take 7).set 0 (.int i64 c)) k (by assumption) rfl (by decide) rfl (by kernel_rfl) fun a k=>?_;refine mM (ps:=[(0,.int i64 3),(3,.agg (((nY.drop 5).take 7).set 0 (.int i64 c)).toArray)]) (vs:=C5 c) k (by assumption) rfl (by decide) rfl (by kernel_rfl) fun a k=>?_;refine jO (nn:=27) k (by decide) rfl (by decide) (by kernel_rfl) (fun A _=>SX.alloc _ _ _) fun A C a k=>?_;have r:(C5 c).length=27:=by unfold C5;rw[aQ,aQ];rfl
 refine ln (vs:=C5 c) (cur:=A.toArray) k (by decide) rfl (by rw[r];kernel_rfl) rfl rfl rfl (heap_alloc_new m _) (by rw[bV];omega) PJ (fun h=>absurd rfl h) fun a k=>?_;refine ay ?_;rw[fill_eq C r];obtain⟨j,u,p⟩:=kU (T:=44) (zs:=A) (us:=C5 c) s.wf;have V:w.heap.size<=m.heap.size:=o.size;have v:=s.VD j u (fun e=>by have:=s.lx.lt;rw[show b3=m.heap.size from e]at this;omega);have qp:=o.Z d s.wf j (fun bb hb=>by rw[show bb=_ from hb];exact V);have f:=(D.J (bD.O z aB aB S ow)).J j;have G:b3≠m.heap.size:=fun e=>by have:=s.lx.lt;rw[e]at this;omega
 generalize U:m.heap.size=Mn at k p v qp f V G⊢;generalize J:(m.alloc _).setRow Mn _=w7 at p v qp f⊢;have k:=k.sb (l:=[(14,aI Mn),(4,.int i64 (i:Int)),(3,aI b3),(0,aI b)]);clear j u J P o z s;refine wp_seq (wp_seq (rg aB M W4 ?_));intro X y;have O:=v.O y;have B:=qp.Y d v.wf y;have t:=p.O y;have R:=f.J (bD.O y aB aB S ow);have P:=SX.refl aB X
 repeat (first|refine sm k fun a k=>?_|refine ld k (O.lx.cell id E) fun a k=>?_)
 refine cm (c:=decide (op=2)) k rfl rfl rfl fun a k=>?_;refine ay (bf k rfl ?_);have k:=k.sb (l:=[(14,aI Mn),(4,.int i64 (i:Int)),(3,aI b3),(0,aI b)]);rw[if_neg (by simpa using F)];refine wp_skip ?_;refine O4 M O hi t r (PL I) (show(3:Int)≠2 by decide) PK k ?_;intro a W S' bT g' k Y Z H;exact q a W S' bT g' k (kM d O.wf B Y nE) Z H
end
end Go.Proofs.Ytjhmkaninmgilaa
namespace Go.Proofs.Ytjhmkaninmgilaa
open Go Go.RowKit Go.dF Go.Proofs
variable{C M K:Nat}{N:Int}{z s t:RS}{x:Int}{y:Taf}
def IP{k:Nat}(h:cK C M s k)(r:∀e∈s.le,Has dY e)(H:x<=9223372036854775807):∃a b,oV x s=.agg [.list a,.list b]:=by
 obtain⟨S,R⟩:=h.li;unfold oV qe;refine fZ (fun a:Int×Taf×Taf=>a.1<=9223372036854775807) (fun d:D=>∃a b,d=.agg [.list a,.list b]) (fun a=>(a.1-s.li).toNat) ?_ _ _ H (ca _);intro a T
 have e:mQ s (iS s.li s.lt s.le) a.1 a.2.1 a.2.2=if decide (a.1>s.li) then
   (if(decide (((eJ s.li s.lt s.le a.1 1).length:Int)=1))&&((cD 2 ((eJ s.li s.lt s.le a.1 1).getD 0 .top)).q==2) then .inr (aC 2 (D.agg ((((eJ s.li s.lt s.le a.1 1).getD 0 .top).A.drop 27).take 2)) [])
    else .inl (IntKind.wrap i64 (a.1-1),a.2.1,a.2.2)) else .inr (kC s (iS s.li s.lt s.le)):=rfl
 rw[e];by_cases g:decide (a.1>s.li)=true
 .rw[if_pos g];rw[bk]at g;generalize A:((decide (((eJ s.li s.lt s.le a.1 1).length:Int)=1))&&((cD 2 ((eJ s.li s.lt s.le a.1 1).getD 0 .top)).q==2))=c;cases c with
  |true=>
   simp only[aT,bk,beq_iff_eq]at A;obtain⟨P,O⟩:=A;have J:(eJ s.li s.lt s.le a.1 1).length=1:=by omega
   obtain⟨y,w⟩:=bI.1 J;have I:y∈s.le:=qk (i:=s.li) (f:=a.1) (m:=1) (by show y∈eJ s.li s.lt s.le a.1 1;rw[w];simp);obtain⟨l,rfl,B⟩:=dU.1 (r y I);obtain⟨G,v,⟨q,o,_⟩⟩:=cJ B 27 (.list I6) (by rw[Ty.dm];rfl);obtain⟨F,u,⟨p,n,_⟩⟩:=cJ B 28 (.list I6) (by rw[Ty.dm];rfl);subst o n;refine⟨q,p,?_⟩;rw[w]
   have e:∀j,j<2->((l.drop 27).take 2).getD j .top=l.getD (27+j) .top:=by intro j L;rw[ae,ae,aq,if_pos L,aD]
   show D.agg [((l.drop 27).take 2).getD 0 .top,((l.drop 27).take 2).getD 1 .top]=_;rw[e 0 (by omega),e 1 (by omega),ae,ae,v,u];rfl
  |false=>
   show IntKind.wrap i64 (a.1-1)<=_/\(IntKind.wrap i64 (a.1-1)-s.li).toNat<_;rw[wrap64 (by omega) (by omega)];exact⟨by omega,by omega⟩
 rw[if_neg g];show∃_ _,kC s (iS s.li s.lt s.le)=_;have Q:kC s (iS s.li s.lt s.le)=if decide (s.li>0) then aC 2 (D.agg [.list s.sv,.list s.sl]) [] else aC 2 (D.agg [.list s.fv,.list s.fl]) []:=rfl
 rw[Q];by_cases E:decide (s.li>0)=true
 .rw[if_pos E];exact⟨_,_,rfl⟩
 rw[if_neg E];exact⟨_,_,rfl⟩
def LS(h:Bs N s)(i:Idle s)(k:cK C M s K)(q:∀e∈s.le,Has dY e):Good C M K N s ((eG x y s).1.2,(eG x y s).2):=by
 have g:=h.inv i;unfold eG;dsimp only;by_cases o:((decide (((y:Taf).length:Int)<1))||(decide (((y:Taf).length:Int)>1048576)))=true
 .rw[if_pos o];exact .done g k
 rw[if_neg o];by_cases f:decide (x>s.bB)=true
 .rw[if_pos f];exact .done g k
 rw[if_neg f];by_cases b:decide (x<=(iS s.li s.lt s.le).1)=true
 .rw[if_pos b];exact .done g k
 rw[if_neg b];rw[bk]at f b;have b:¬x<=s.li:=b;obtain⟨O,A⟩:=k.li;have v:=h.G7;simp only[MX]at A;obtain⟨I,H,n⟩:=IP (x:=x) k q (by omega);have d:=Ct (x:=x) k (by omega);rw[n]at d⊢
 have m:1<=y.length/\y.length<=1048576:=by simp only[bW,not_or,bk]at o;omega
 have p:=Fq (i:=s.li) (t:=s.lt) (l:=s.le) (k:=x) (by omega) (by omega);obtain⟨L,J,w⟩:=iF p;obtain⟨_,B⟩:=eU.1 k.may
 have u:1<=(gl s.li s.lt s.le x).1:=by
  have j:(x-s.li-1).toNat<s.le.length:=by omega
  unfold gl;rw[if_neg (by omega),if_neg (by omega),aS j];exact h.pos _ (aN j)
 have G:iY s.li s.lt s.le x=(uq s.li s.le x,x,(gl s.li s.lt s.le x).1,s.le.drop (x-s.li).toNat):=by unfold iY iT;rw[if_neg (by omega)]
 have r:(x,(gl s.li s.lt s.le x).1,s.le.drop (x-s.li).toNat)=iT s.li s.lt s.le x:=by unfold iT;rw[if_neg (by omega)]
 have F:(jB s.li s.lt s.le x).1=(gl s.li s.lt s.le x).1:=rfl;rw[G,F];dsimp only;refine .done (t:=fL _) ?_ ?_
 .refine⟨⟨⟨rfl,rfl⟩,⟨fun e=>?_,fun e=>?_⟩,⟨?_,?_⟩,fun _=>m,h.PT,?_,h.oH,?_,?_⟩,.inr ⟨rfl,i.KV,rfl,.inr ?_⟩,fun a=>absurd (show true=false from a) (by decide),g.msg,g.KL⟩
  .have e:x=0:=e;omega
  .have e:(gl s.li s.lt s.le x).1=0:=e;omega
  .show x<=s.bB;omega
  .show s.bB<=x+((s.le.drop (x-s.li).toNat).length:Int);rw[ba];omega
  .show cZ (gl s.li s.lt s.le x).1 (s.le.drop (x-s.li).toNat)<=s.term;rw[w,uU];exact h.PW
  .show x+((s.le.drop (x-s.li).toNat).length:Int)<=N;have:=h.top;rw[ba];omega
  .intro e E;exact h.pos e (cz (show e∈s.le.drop _ from E))
  show xc s.le x=s.le.drop (x-s.li).toNat;exact Bb B (by omega) (by omega)
 refine cK.saved (k.MS (aU _) (c:=x) r ?_ ⟨rfl,rfl,rfl,rfl,rfl,rfl,rfl,rfl,rfl⟩);exact d
noncomputable def Sc:VC:=nR Try.prog VA [(13,{drop:=[9000000013]})] s18 Try.f18
attribute [irreducible] Sc
def aab(x:Int)(y:Taf)(s:RS):Prop:=
 (True)/\(
 let a:=(iS s.li s.lt s.le)
 (True)/\((((decide (((y:Taf).length:Int)<1))||(decide (((y:Taf).length:Int)>1048576)))=false->
  (True)/\((decide (x>s.bB)=false->
   (True)/\((decide (x<=a.1)=false->
    ((true=true->Ok s 0))/\(
    let c:=(oV x s)
    ((true=true->gn s.li s.lt s.le=true))/\(
    let b:=(jB s.li s.lt s.le x)
    ((true=true->gn s.li s.lt s.le=true))/\(
    True))))))))))
def Q8(x:Int)(y:Taf)(s:RS)(h:Ok s 0):aab x y s:=by
 unfold aab
 (repeat' (first|exact trivial|apply And.intro|intro _))
 all_goals first
  |exact h
  |exact h.may
def c18:bu Try.prog 18 s18 (fun a=>Ok (ig (a.drop 2)) 0) (fun a=>TE (eG (a.getD 0 .top).q (a.getD 1 .top).A (ig (a.drop 2)))):=by refine hZ (given:=[(13,{drop:=[9000000013]})]) mix UI Try.func18 rfl (by kernel_rfl) (v:=Sc) (by kernel_rfl) ?_;intro a h d;obtain⟨_,_,rfl,⟨x,rfl,g⟩,e⟩:=aJ.1 h;obtain⟨_,_,rfl,⟨y,rfl,f,c⟩,b⟩:=aJ.1 e;have i:=b;obtain⟨s,rfl⟩:=fU b;refine zH acL TE ((0,.top),dN) (y:=eG x y s) (zE (Q8 x y s d))
attribute [local irreducible] TL
def PH{w:Tam}{S:bE}{ow:Ow}{us:Tac}{ds:Taf}{T:Tba}(t:Wf w S ow)(m:us.length=ds.length)(z:∀d∈ds,d.cells.length=1)(q:ds≠[])(x:∀(i:Nat) u d,us[i]?=some u->ds[i]?=some d->cg w S u d)(y:∀d∈ds,d.cells=[d]):
  ∃r,bD aB aB w S ow (w.alloc (.cells us.toArray T)) r ow/\Wf (w.alloc (.cells us.toArray T)) r ow/\cg (w.alloc (.cells us.toArray T)) r (.slice (some ⟨w.heap.size,0,none⟩) ds.length ds.length) (.list ds):=by
 obtain⟨f,g⟩:=bD.alloc t (.cells us.toArray T);have p:=fF.new t T us;refine⟨fun b o=>S b o\/b=w.heap.size,⟨f.size,f.os,f.tape,f.output,f.GY,f.free,fun _ _ h=>.inl h,f.cell,f.keep,fun b o h=>h.imp id (fun e=>.inl (by omega)),f.um,f.iw⟩,⟨fun b o h=>h.elim (g.s b o) (fun e=>by rw[e];exact p.lt),g.o,fun b o l h m=>h.elim (fun h=>g.d b o l h m) (fun e=>by rw[e,p.ow]at m;cases m)⟩,?_⟩;refine .list w.heap.size 0 ds.length 1 us ds (by omega) q (aU _) (by omega) (fun i _=>.inr rfl) (fun i v k=>by rw[av];exact ja p.heap k) (fun i d n=>z d (bQ n)) ?_;intro i d j v c n a k;rw[y d (bQ n)]at a
 match j,a with
 |0,a=>
  injection a with a;subst a;rw[bK,dO]at k;exact(x i v d k n).keep (fun _ _ h=>.inl h) f.cell
end Go.Proofs.Ytjhmkaninmgilaa
namespace Go.Proofs.Ytjhmkaninmgilaa
open Go Go.RowKit Go.dF Go.Proofs
attribute [local irreducible] TL AT
section
variable{w:Tam}{S:bE}{ow:Ow}{l b:Nat}{s:RS}
def Ey{x:Int}{y:Taf}{u:Tan}(h:kr w S ow l (dG 0) b [cR s,cL s])(F:Wf w S ow)(A:1000<=l)(E:jX i64 x)(o:Has (.list (.int .u8)) (.list y))(G:cg w S u (.list y))(z:Ok s 0):
  Calls Try.prog 18 #[.pointer (some ⟨b,0,none⟩),.int i64 x,u] w fun e r=>∃vo m f,e=.returned (.tuple [.int i64 (eG x y s).1.1,vo].toArray)/\bD (iI l) aB w S ow r m f/\Wf r m f/\kr r m f l (dG 0) b [cR (eG x y s).2,cL (eG x y s).2]/\
   cg r m vo (eG x y s).1.2/\Has zk (eG x y s).1.2:=by
 have t:dx (.V s18.params) ([D.int i64 x,.list y]++[cR s,cL s].flatten):=aJ.2 ⟨_,_,rfl,⟨_,rfl,E⟩,aJ.2 ⟨_,_,rfl,o,fE h⟩⟩;refine(h.call (ob0:=dG 0) (vs:=[.int i64 x,u]) (n:=2) c18 rfl rfl rfl rfl rfl rfl (by decide) (.inl (by decide)) rfl A F rfl rfl ?_ t z).mono ?_
 .intro i v d g j
  match i,g,j with
  |0,g,j=>injection g with g;injection j with j;subst g j;exact .int _ _
  |1,g,j=>injection g with g;injection j with j;subst g j;exact G
 rintro e L ⟨v,m,f,τ,K,outs,rfl,a,P8,P7,UW,P9,mE⟩;replace a:D.ff [.ff [.int i64 (eG x y s).1.1,(eG x y s).1.2],.agg (cR (eG x y s).2),.agg (cL (eG x y s).2)]=.ff (K::outs.map .agg):=a;injection a with a;have q:outs.length=2:=P8
 match outs,q with
 | [o1,o2],_=>
  simp only[cM,List.map_nil,eI,D.agg.injEq,and_true]at a;obtain⟨rfl,rfl,rfl⟩:=a;rcases mE with⟨c,hc,_⟩|⟨_,us,ds,rfl,k,hul,hdl,uk⟩
  .have H:(2:Nat)=1:=congrArg List.length hc;cases H
  injection k with k;subst k;have p:us.length=2:=hul
  match us,p with
  | [u1,u2],_=>
   have I:=qH (ts:=VF) (τ:=τ) (.inl ⟨_,rfl,uk 1 _ _ _ rfl rfl rfl⟩);have C:=uk 0 _ _ _ rfl rfl rfl;unfold gk at C;simp only[aj,if_false]at C;obtain⟨y,o,B⟩:=C;injection o with o;subst o;have J:u1=.int i64 (eG x _ s).1.1:=B.1.cQ;subst J;exact⟨u2,m,f,rfl,P7,UW,P9,I⟩
end
def LZ{P:Tap}{w:Tam}{a:Act}{dst:Tak}{ty:Tba}{pos:String}{af:_}{gd:Tao (Nat×Bool)}{s d:Tba}{x:Tbb}{c k1 k:IntKind}{n:Int}(e:a.eval x=.int c n)(f:P.underlying s=some (.int k1))(g:P.underlying d=some (.int k)):
  (execOp a.eval ⟨dst,.convert s d x,ty,pos,af,gd⟩).run P w=.ok (.value (.int k (k.wrap n))) w:=by unfold execOp;simp only[e,convert];simp[run_underlying f,run_underlying g,Conv.intToInt]
def Le(w:Tam)(p q r:Int):(Instr.buildSlice 27 3 #[(0,.int .u8 p),(1,.int .u8 q),(2,.int .u8 r)]).run Try.prog w=.ok (.slice (some ⟨w.heap.size,0,none⟩) 3 3) (w.alloc (.cells [Value.int .u8 p,.int .u8 q,.int .u8 r].toArray 5)):=by
 have h:E9 Try.prog 27 5 1=true:=by kernel_rfl
 unfold E9 at h;split at h
 .rename_i e g;rw[aT,beq_iff_eq]at h;obtain⟨rfl,h⟩:=h;split at h
  .rename_i c a;simp only[aT,beq_iff_eq,bk]at h;obtain⟨⟨⟨j,i⟩,m⟩,k⟩:=h;obtain⟨z,d⟩:=dk.1 i;refine run_buildSlice w _ _ 3 _ _ c z g a d (by omega) (by omega) ?_;rw[j];generalize (fun x=>z.cells[x % z.cells.size]!)=f;rw[show Array.range (3*1)=#[0,1,2] from rfl];simp[Instr.fill,Value.cells]
  cases h
 cases h
def OQ{Q:Iv}{c:Tae}{ops:Tad}{n n0 i d t:Nat}{a:Act}{w:Tam}{m:Tab}{gd:Tao (Nat×Bool)}{e r:List OK}{p1 p2 p3:Int}(k:Kn n a m)(hi:n0<=i)(o:rq e m gd=some true)(p:d<n)(j:lk m t=some (.int .u8 p2))(q:r≠[]->c (w.alloc (.cells [Value.int .u8 p1,.int .u8 p2,.int .u8 p3].toArray 5)))(h:∀f,Kn n f ((d,.slice (some ⟨w.heap.size,0,none⟩) 3 3)::m)->TL Try.prog ops Q c n0 e r (i+1) f (w.alloc (.cells [Value.int .u8 p1,.int .u8 p2,.int .u8 p3].toArray 5))):
  TL Try.prog ops Q c n0 e ((some d,.buildSlice 27 3 #[(0,.const (.int .u8 p1)),(1,.tmp t),(2,.const (.int .u8 p3))],gd)::r) i a w:=by
 refine nk k hi o p (fun B g C=>⟨_,_,?_,q,h⟩);have v:=Le w p1 p2 p3;unfold execOp;simp only[bw]
 have u:(#[(0,Operand.const (.int .u8 p1)),(1,.tmp t),(2,.const (.int .u8 p3))]:Tbd (Nat×Tbb)).map (fun(i,x)=>(i,a.eval x))=#[(0,Value.int .u8 p1),(1,.int .u8 p2),(2,.int .u8 p3)]:=by have A:a.eval (.const (.int .u8 p1))=.int .u8 p1:=k.op rfl;have z:a.eval (.tmp t)=.int .u8 p2:=k.op j;have y:a.eval (.const (.int .u8 p3))=.int .u8 p3:=k.op rfl;simp[A,z,y]
 rw[u,v];rfl
def ab8:bJ (fG gj [0,1,2,3,4,5,6,7,8,9,10,11,14,15,16,17])=[oM 302 0,oN 303 302,oF 304 59 303 1,oL 305 54 304,oM 306 4,oI 307 54 305 306,oL 308 52 307,oF 309 67 18 5,oL 310 3 309,oF 311 51 3 3,oF 312 49 311 4,oL 313 3 312,oF 316 51 3 3,oF 317 49 316 8,oL 318 3 317,(some 319,.convert 3 5 (.tmp 318),none)]:=by kernel_rfl
def JE:bJ (fG gj [12])=[oC 314 8 #[(.tmp 313),(.const (.int i64 6))] #[3,3]]:=by kernel_rfl
def ab9:bJ (fG gj [13])=[oB 315 .add 3 310 314]:=by kernel_rfl
def JD:bJ (fG gj [18])=[(some 320,.buildSlice 27 3 #[(0,.const (.int .u8 1)),(1,.tmp 319),(2,.const (.int .u8 3))],none)]:=by kernel_rfl
def E6:bJ (fG gj [23])=[(some 20,.alloc 75,none)]:=by kernel_rfl
def SJ:bJ (fG gj [19])=[oC 321 18 #[(.tmp 308),(.tmp 315),(.tmp 320)] #[52,3,27]]:=by kernel_rfl
def ab6:bJ (fG gj [20,21,22])=[oM 301 321,(some 322,.extract (.tmp 301) 0,none),(some 323,.extract (.tmp 301) 1,none)]:=by kernel_rfl
def ab7:bJ (fG gj [24,25])=[oA 19 322,oS 75 20 323]:=by kernel_rfl
def aaP:oU gj [] [0,1,2,3,4,5,6,7,8,9,10,11,14,15,16,17] 16=true:=by kernel_rfl
def aaW:Region.ready .any gj (iB gj.size [0,1,2,3,4,5,6,7,8,9,10,11,14,15,16,17])=[12,18,23]:=by kernel_rfl
def aaV:oU gj [0,1,2,3,4,5,6,7,8,9,10,11,14,15,16,17,12] [13] 1=true:=by kernel_rfl
def aaU:Region.ready .any gj (iB gj.size [0,1,2,3,4,5,6,7,8,9,10,11,14,15,16,17,12,13])=[18,23]:=by kernel_rfl
def aaT:Region.ready .any gj (iB gj.size [0,1,2,3,4,5,6,7,8,9,10,11,14,15,16,17,12,13,18])=[19,23]:=by kernel_rfl
def aaS:oU gj [0,1,2,3,4,5,6,7,8,9,10,11,14,15,16,17,12,13,18,19] [20,21,22] 3=true:=by kernel_rfl
def aaR:oU gj [0,1,2,3,4,5,6,7,8,9,10,11,14,15,16,17,12,13,18,19,20,21,22] [23] 0=true:=by kernel_rfl
def aaQ:oU gj [0,1,2,3,4,5,6,7,8,9,10,11,14,15,16,17,12,13,18,19,20,21,22,23] [24,25] 0=true:=by kernel_rfl
end Go.Proofs.Ytjhmkaninmgilaa
namespace Go.Proofs.Ytjhmkaninmgilaa
open Go Go.RowKit Go.dF Go.Proofs
attribute [local irreducible] TL AT
def Wh:Tak->Tab
 |none=>[]
 |some B=>[(320,.slice (some ⟨B,0,none⟩) 3 3)]
def MN:Tak->Tab
 |none=>[]
 |some B=>[(20,aI B)]
structure CS(w0:Tam)(S0:bE)(o0:Ow)(X:Tai)(w2:Tam)(F:Tam->bE->Ow->Prop)(m:Tab)(yy:Taf)(bS bA:Tak)(a:Act)(w:Tam)(S:bE)(ow:Ow):Prop where
 kn:Kn 359 a (Wh bS++(MN bA++m))
 wf:Wf w S ow
 st:bD LG aB w0 S0 o0 w S ow
 sx:SX X w2 w
 f:F w S ow
 n:pC ow
 cS:∀B,bS=some B->cg w S (.slice (some ⟨B,0,none⟩) 3 3) (.list yy)
 cA:∀B,bA=some B->∃zs,zs.length=8/\fF w S ow B 75 zs
 gA:∀B,bA=some B->w2.heap.size<=B
def CC(w0:Tam)(S0:bE)(o0:Ow)(X:Tai)(w2:Tam)(F:Tam->bE->Ow->Prop)(m:Tab)(yy:Taf)(bS bA:Tak)(a:Act)(w:Tam):Prop:=∃S ow,CS w0 S0 o0 X w2 F m yy bS bA a w S ow
section
variable{w0 w2:Tam}{S0:bE}{o0:Ow}{X:Tai}{F:Tam->bE->Ow->Prop}{m m':Tab}{yy:Taf}{bS bA:Tak}{a a':Act}{w w':Tam}{S S':bE}{ow:Ow}{N:Act->Tae}{Q:Iv}
def Yq(F:Tam->bE->Ow->Prop):Prop:=∀w S ow w' S',bD aB aB w S ow w' S' ow->Wf w' S' ow->F w S ow->F w' S' ow
def CS.go(h:CS w0 S0 o0 X w2 F m yy bS bA a w S ow)(p:Yq F)(j:Wf w0 S0 o0)(d:bD aB aB w S ow w' S' ow)(l:Wf w' S' ow)(k:Kn 359 a' (Wh bS++(MN bA++m'))):CS w0 S0 o0 X w2 F m' yy bS bA a' w' S' ow:=
 ⟨k,l,h.st.Z j h.wf d nE,h.sx.trans (d.vi X),p _ _ _ _ _ d l h.f,h.n,fun B e=>(h.cS B e).J d,fun B e=>let ⟨o,r,q⟩:=h.cA B e;⟨o,r,q.J d id⟩,h.gA⟩
def CS.alA(h:CS w0 S0 o0 X w2 F m yy bS none a w S ow)(p:Yq F)(l:Wf w0 S0 o0){zs:Tac}(o:zs.length=8)(k:Kn 359 a' ((20,aI w.heap.size)::(Wh bS++m))):CS w0 S0 o0 X w2 F m yy bS (some w.heap.size) a' (w.alloc (.cells zs.toArray 75)) S ow:=by
 have d:=bD.alloc h.wf (.cells zs.toArray 75);refine⟨?_,d.2,h.st.Z l h.wf d.1 nE,rz h.sx _,p _ _ _ _ _ d.1 d.2 h.f,h.n,fun B e=>(h.cS B e).J d.1,?_,?_⟩
 .cases bS with
  |none=>exact k
  |some B=>exact Kn.swap k (fun e=>by cases e)
 .rintro B j;injection j with j;subst j;exact⟨zs,o,fF.new h.wf 75 zs⟩
 rintro B j;injection j with j;subst j;exact h.sx.1
def MK(l:Yq F)(d:Wf w0 S0 o0)(h:CC w0 S0 o0 X w2 F m yy bS none a w)(j:∀B a' w',CC w0 S0 o0 X w2 F m yy bS (some B) a' w'->N a' w'):TL Try.prog (fG gj [23]) (NQ (fun a w=>SX X w2 w/\N a w) Q) (SX X w2) 0 [(some 20,.alloc 75,none)] [(some 20,.alloc 75,none)] 0 a w:=by obtain⟨S,ow,h⟩:=h;refine jO (nn:=8) h.kn (by decide) rfl (by decide) (by kernel_rfl) (fun e _=>rz h.sx _) fun e f a k=>ay ?_;exact⟨rz h.sx _,j _ _ _ ⟨S,ow,h.alA l d f k⟩⟩
def Qn{p:Int}(A:Yq F)(s:Wf w0 S0 o0)(r:yy=[.int .u8 1,.int .u8 p,.int .u8 3])(y:lk (MN bA++m) 319=some (.int .u8 p))(h:CC w0 S0 o0 X w2 F m yy none bA a w)(z:∀B a' w',CC w0 S0 o0 X w2 F m yy (some B) bA a' w'->N a' w'):TL Try.prog (fG gj [18]) (NQ (fun a w=>SX X w2 w/\N a w) Q) (SX X w2) 0 [(some 320,.buildSlice 27 3 #[(0,.const (.int .u8 1)),(1,.tmp 319),(2,.const (.int .u8 3))],none)] [(some 320,.buildSlice 27 3 #[(0,.const (.int .u8 1)),(1,.tmp 319),(2,.const (.int .u8 3))],none)] 0 a w:=by
 obtain⟨S,ow,h⟩:=h;refine OQ h.kn (by decide) rfl (by decide) y (fun _=>rz h.sx _) fun a k=>ay ?_;refine⟨rz h.sx _,?_⟩
 obtain⟨G,o,q,t⟩:=PH (us:=[Value.int .u8 1,.int .u8 p,.int .u8 3]) (ds:=[D.int .u8 1,.int .u8 p,.int .u8 3]) (T:=5) h.wf rfl (fun d j=>by
  simp only[aH,cb,or_false]at j;rcases j with rfl|rfl|rfl<;>rfl) (by simp) (fun i u d l j=>by
  match i,l,j with
  |0,l,j=>injection l with l;injection j with j;subst l j;exact .int _ _
  |1,l,j=>injection l with l;injection j with j;subst l j;exact .int _ _
  |2,l,j=>injection l with l;injection j with j;subst l j;exact .int _ _) (fun d j=>by simp only[aH,cb,or_false]at j;rcases j with rfl|rfl|rfl<;>rfl)
 refine z w.heap.size _ _ ⟨G,ow,k,q,h.st.Z s h.wf o nE,rz h.sx _,A _ _ _ _ _ o q h.f,h.n,?_,fun B e=>let ⟨x,E,C⟩:=h.cA B e;⟨x,E,C.J o id⟩,h.gA⟩;rintro B v;injection v with v;subst v;rw[r];exact t
end
section
variable{w:Tam}{S:bE}{ow:Ow}{b b3 b18 i:Nat}{dv sv:Tac}{R:GR}{g:GS}{c x7 u:Int}{Q:Iv}{a:Act}
def ua(c:Int):Taf:=[.int .u8 1,.int .u8 (IntKind.u8.wrap c),.int .u8 3]
def XN(T:QP Q)(hn:pC ow)(h:kv w S ow b g)(hi:i<g.ew.length)(e6:i<100)(c7:g.aX.length<=5)(b1:Ok (cG g i) 0)(lx:fF w S ow b3 51 dv)(c4:dv[7]?=some (.int i64 x7))(P:jX i64 x7)(hc:dv[11]?=some (.int i64 c))(a9:fF w S ow b18 67 sv)(c9:sv[6]?=some (.int i64 u))(hu:0<=u/\u<=1099511627776)(k:Kn 359 a [(18,aI b18),(4,.int i64 (i:Int)),(3,aI b3),(0,aI b)])(M:∀a W S' G b6 o,Kn 359 a [(20,aI b6),(4,.int i64 (i:Int)),(3,aI b3),(0,aI b)]->bD LG aB w S ow W S' G->kv W S' G b (hJ i (eG (u+ib x7 6) (ua c) (cG g i)).2 g)->pC G->
   fF W S' G b6 75 o->o.length=8->cg W S' (.agg o.toArray) (eG (u+ib x7 6) (ua c) (cG g i)).1.2->Has zk (eG (u+ib x7 6) (ua c) (cG g i)).1.2->Q .normal a W):(Code.region 50 gj true).wp Try.prog Q a w:=by
 obtain⟨R,gm,a0,c6⟩:=h;have hs:g.ew[i]?=some (cG g i):=iG hi;generalize e4:cG g i=s at b1 M hs;have r:=gm.wf;have K:gj.size=26:=by kernel_rfl
 obtain⟨p0,p6⟩:=se (b:=6) P (by omega);refine Sx (fun q=>ow q=some (1000+i)) mix fun w2 e2=>?_;have H:=gm.O e2;have a8:=a9.O e2;have a6:=lx.O e2;have b9:bD LG aB w S ow w2 S ow:=bD.O e2 LG aB S ow;have s0:=SX.refl (fun q=>ow q=some (1000+i)) w2;have c3:¬ow b=some (1000+i):=by rw[H.obj.ow];intro h;injection h with h;omega
 have c1:¬ow b18=some (1000+i):=by rw[a9.ow];intro e;cases e
 have b0:¬ow b3=some (1000+i):=by rw[lx.ow];intro e;cases e
 obtain⟨bs,a2,e5,e3⟩:=H.ew i s hs;obtain⟨bl,e0,d4,d2,d1,b4⟩:=H.arr.elem (i:=i) (u:=aI bs) (by rw[a0,ab,a2];rfl);have d3:i<(R.la.map aI).length:=by rw[ao,a0,H.rn];exact hi
 have c2:¬ow bl=some (1000+i):=by rw[d1];intro h;injection h with h;omega
 refine Jp (p:=[0,1,2,3,4,5,6,7,8,9,10,11,14,15,16,17]) (p2:=[0,1,2,3,4,5,6,7,8,9,10,11,14,15,16,17]) (n0:=16) aaP T ab8 rfl ?_
 repeat (first|refine sm k fun a k=>?_|refine ld k (H.cell c3 rfl) fun a k=>?_)
 rw[d4]at k;refine wQ (el:=52) (sz:=1) k rfl rfl d3 fun a k=>?_;refine ky (v:=aI bs) k (by assumption) rfl (by decide) rfl (by kernel_rfl) (by kernel_rfl) (eP d2 c2 (by rw[bK];exact b4)) fun a k=>?_
 repeat (first|refine sm k fun a k=>?_|refine ld k (a6.cell b0 hc) fun a k=>?_|refine ld k (a6.cell b0 c4) fun a k=>?_|refine ld k (a8.cell c1 c9) fun a k=>?_)
 refine qt (v:=.int .u8 (IntKind.u8.wrap c)) k (by assumption) rfl (by decide) (fun ty e1 af w' _=>LZ (k1:=i64) (k.op rfl) (by kernel_rfl) (by kernel_rfl)) fun a k=>?_;refine ay ⟨s0,?_⟩;let F0:Tam->bE->Ow->Prop:=fun w S G=>G=ow/\GM w S G b (R.cells g.bad) R g;let F1:Tac->Tam->bE->Ow->Prop:=fun o w S ow=>GM w S ow b (R.cells g.bad) R (hJ i (eG (u+ib x7 6) (ua c) s).2 g)/\cg w S (.agg o.toArray) (eG (u+ib x7 6) (ua c) s).1.2;have D:Yq F0:=fun w S ow w' S' st hw h=>⟨h.1,h.2.J st hw⟩;have d5:∀o,Yq (F1 o):=fun o w S ow w' S' st hw h=>⟨h.1.J st hw,h.2.J st⟩;let m0:Tab:=[(308,aI bs),(310,.int i64 u),(313,.int i64 x7),(319,.int .u8 (IntKind.u8.wrap c)),(4,.int i64 (i:Int)),(3,aI b3),(0,aI b)];let mP:Tab:=[(308,aI bs),(315,.int i64 (u+ib x7 6)),(319,.int .u8 (IntKind.u8.wrap c)),(4,.int i64 (i:Int)),(3,aI b3),(0,aI b)];let m1:Tac->Tab:=fun o=>[(322,.int i64 (eG (u+ib x7 6) (ua c) s).1.1),(323,.agg o.toArray),(4,.int i64 (i:Int)),(3,aI b3),(0,aI b)];let J0:=CC w S ow (fun q=>ow q=some (1000+i)) w2 F0 m0 (ua c);let JP:=CC w S ow (fun q=>ow q=some (1000+i)) w2 F0 mP (ua c);let J1:=fun o=>CC w S ow (fun q=>ow q=some (1000+i)) w2 (F1 o) (m1 o) (ua c);let A:=AT Try.prog gj Q (SX (fun q=>ow q=some (1000+i)) w2);have a1:J0 none none a w2:=⟨S,ow,k.sb,H.wf,b9,s0,⟨rfl,H⟩,hn,(fun _ h=>by cases h),(fun _ h=>by cases h),(fun _ h=>by cases h)⟩;let C9:Tac->Prop:=fun o=>o.length=8/\(∀u∈o,u.oneCell'=true)/\Has zk (eG (u+ib x7 6) (ua c) s).1.2
 have O:∀o t a w,C9 o->J1 o none (some t) a w->A [0,1,2,3,4,5,6,7,8,9,10,11,14,15,16,17,12,13,18,19,20,21,22,23] a w:=by rintro o t a w3 ⟨E,Mm,P6⟩ ⟨S3,G5,h⟩;refine Jp (p:=[24,25]) (p2:=[0,1,2,3,4,5,6,7,8,9,10,11,14,15,16,17,12,13,18,19,20,21,22,23,24,25]) (n0:=0) aaQ T ab7 rfl ?_;obtain⟨z9,c0,l9⟩:=h.cA t rfl;obtain⟨g1,r2⟩:=h.f;obtain⟨sb,wb,lb⟩:=l9.set (us:=o) h.wf;have x2:=Hk h.sx (h.gA t rfl) o.toArray;refine xl h.kn h.sx rfl (by decide) rfl fun a k=>?_;refine Hh (vs:=o) k (by rw[E];kernel_rfl) rfl rfl l9 (by rw[c0,E]) Mm x2 fun a k=>?_;refine ay ⟨x2,J3 (by rw[K];decide) (by kernel_rfl) ?_⟩;have b7:=h.st.Z r h.wf sb (fun q e=>by rw[show q=t from e];rw[<-e2.heap];exact h.gA t rfl);have g2:=g1.J sb wb;exact M _ _ _ _ t o (k.sb) b7 ⟨R,g2,a0,c6⟩ h.n lb E (r2.J sb) P6
 have nC:∀o a w,C9 o->J1 o none none a w->A [0,1,2,3,4,5,6,7,8,9,10,11,14,15,16,17,12,13,18,19,20,21,22] a w:=fun o a w hc h=>
  Jp (p:=[23]) (n0:=0) aaR T E6 rfl (MK (d5 o) r h fun B a w h=>O o B a w hc h)
 have call:∀(p V:Tah) C bA a w,oU gj p [20,21,22] 3=true->p++[20,21,22]=V->JP (some C) bA a w->(∀o a w,C9 o->J1 o none bA a w->A V a w)->TL Try.prog (fG gj [19]) (NQ (fun a w=>SX (fun q=>ow q=some (1000+i)) w2 w/\A p a w) Q) (SX (fun q=>ow q=some (1000+i)) w2) 0 [oC 321 18 #[(.tmp 308),(.tmp 315),(.tmp 320)] #[52,3,27]] [oC 321 18 #[(.tmp 308),(.tmp 315),(.tmp 320)] #[52,3,27]] 0 a w:=by
  rintro p V C bA a w3 hp Y ⟨S3,G5,h⟩ hN;obtain⟨d0,g1⟩:=h.f;obtain⟨f0,J,b2,-⟩:=g1.ew i s hs;rw[a2]at J;injection J with J;subst J;refine gV (vs:=[aI bs,.int i64 (u+ib x7 6),.slice (some ⟨C,0,none⟩) 3 3]) h.kn (by decide) rfl (by decide) c18.enter ?_ (Ey (x:=u+ib x7 6) (y:=ua c) b2 h.wf (by omega) (jt (by omega) (by omega)) ⟨_,rfl,⟨(by show(3:Nat)<=maxLen;decide),(by show 3*1<=_;decide)⟩,fun d hd=>?_⟩ (h.cS C rfl) b1) ?_
  .cases bA<;>rfl
  .simp only[ua,aH,cb,or_false]at hd;rcases hd with rfl|rfl|rfl
   .exact⟨_,rfl,by decide⟩
   .exact⟨_,rfl,lI _ _⟩
   exact⟨_,rfl,by decide⟩
  rintro e9 w4 ⟨vo,S4,UP,rfl,rH,KI,MD,YD,P6⟩
  have U:SX (fun q=>ow q=some (1000+i)) w2 w4:=by
   refine⟨aY h.sx.1 rH.size,fun q hb hx=>?_⟩;refine Eq.trans ?_ (h.sx.2 q hb hx);have b5:=az hb h.sx.1;have d9:q<w.heap.size:=by rw[<-e2.heap];exact hb
   cases ho:G5 q with
   |none=>exact rH.free q b5 ho (fun h=>h)
   |some l=>
    refine rH.GY q l b5 ho (fun hl=>hx ?_);have hl:l=1000+i:=hl;subst hl;rw[<-d0];exact ho
  refine⟨_,rfl,fun h=>absurd rfl h,fun a k=>ay ⟨U,?_⟩⟩;obtain⟨o,e8,rfl,e7,E,d7,d8,-,Z⟩:=ML YD P6 rfl;refine Jp hp T ab6 Y ?_;refine sm k fun a k=>?_;refine qz (j:=0) k (by assumption) rfl (by decide) rfl rfl fun a k=>?_;refine qz (j:=1) k (by assumption) rfl (by decide) rfl rfl fun a k=>?_;refine ay ⟨U,hN o a w4 ⟨E,Z,P6⟩ ?_⟩;have b8:=h.st.eY r h.wf rH (.inr (by omega));have d6:=g1.uJ (i:=i) (s':=(eG (u+ib x7 6) (ua c) s).2) rH KI hi a2 MD (fE MD) c7;refine⟨S4,UP,?_,KI,b8,U,⟨d6,YD⟩,h.n.J rH (fun l hl=>by simp only[iI]at hl;subst hl;exact .inr (by omega)),fun B hB=>(by cases hB),fun B hB=>?_,h.gA⟩
  .cases bA<;>exact k.sub ⟨rfl,rfl,rfl,rfl,rfl,by repeat constructor⟩
  obtain⟨z,h1,h2⟩:=h.cA B hB;exact⟨z,h1,h2.J rH id⟩
 have lS:∀bA,lk (MN bA++m0) 319=some (.int .u8 (IntKind.u8.wrap c)):=fun bA=>by cases bA<;>rfl
 have a7:∀bA,lk (MN bA++mP) 319=some (.int .u8 (IntKind.u8.wrap c)):=fun bA=>by cases bA<;>rfl
 have L:∀C t a w,JP (some C) (some t) a w->A [0,1,2,3,4,5,6,7,8,9,10,11,14,15,16,17,12,13,18,23] a w:=fun C t a w h=>
  Jp (p:=[19]) (n0:=0) (by kernel_rfl) T SJ rfl (call _ _ _ _ _ _ (by kernel_rfl) rfl h fun o a w hc h=>lH (O o t a w hc h) rfl (by kernel_rfl))
 have a4:∀C a w,JP (some C) none a w->A [0,1,2,3,4,5,6,7,8,9,10,11,14,15,16,17,12,13,18] a w:=by
  intro C a w h;refine qA (R:=[19,23]) (by rw[K];decide) aaT (by decide) fun i hi=>?_;simp only[aH,cb,or_false]at hi;rcases hi with rfl|rfl
  .exact gW (by kernel_rfl) SJ (call _ _ _ _ _ _ aaS rfl h fun o a w hc h=>nC o a w hc h)
  exact gW (by kernel_rfl) E6 (MK D r h fun B a w h=>L C B a w h)
 have a5:∀t a w,JP none (some t) a w->A [0,1,2,3,4,5,6,7,8,9,10,11,14,15,16,17,12,13,23] a w:=fun t a w h=>
  Jp (p:=[18]) (n0:=0) (by kernel_rfl) T JD rfl (Qn D r rfl (a7 _) h fun B a w h=>lH (L B t a w h) rfl (by kernel_rfl))
 have nP:∀a w,JP none none a w->A [0,1,2,3,4,5,6,7,8,9,10,11,14,15,16,17,12,13] a w:=by
  intro a w h;refine qA (R:=[18,23]) (by rw[K];decide) aaU (by decide) fun i hi=>?_;simp only[aH,cb,or_false]at hi;rcases hi with rfl|rfl
  .exact gW (by kernel_rfl) JD (Qn D r rfl (a7 _) h fun B a w h=>a4 B a w h)
  exact gW (by kernel_rfl) E6 (MK D r h fun B a w h=>a5 B a w h)
 have I:∀(p V:Tah) bS bA a w,oU gj p [13] 1=true->p++[13]=V->J0 bS bA a w->(∀a w,JP bS bA a w->A V a w)->TL Try.prog (fG gj [12]) (NQ (fun a w=>SX (fun q=>ow q=some (1000+i)) w2 w/\A p a w) Q) (SX (fun q=>ow q=some (1000+i)) w2) 0 [oC 314 8 #[(.tmp 313),(.const (.int i64 6))] #[3,3]] [oC 314 8 #[(.tmp 313),(.const (.int i64 6))] #[3,3]] 0 a w:=by
  rintro p V bS bA a w3 hp Y ⟨S3,G5,h⟩ hN;refine gV (vs:=[.int i64 x7,.int i64 6]) h.kn (by decide) rfl (by decide) c8.enter ?_ (kX h.wf P (by decide) (by decide)) ?_
  .cases bS<;>cases bA<;>rfl
  rintro e9 w4 ⟨rfl,rH,KI⟩;have U:=h.sx.trans (rH.vi (fun q=>ow q=some (1000+i)));refine⟨_,rfl,fun h=>absurd rfl h,fun a k=>ay ⟨U,?_⟩⟩;refine Jp hp T ab9 Y ?_;refine iK (s:=u+ib x7 6) k U rfl (by decide) ?_ rfl (wrap64 (by omega) (by omega)) fun a k=>?_
  .cases bS<;>cases bA<;>rfl
  refine ay ⟨U,hN a w4 ⟨S3,G5,h.go D r rH KI ?_⟩⟩;cases bS<;>cases bA<;>exact k.sub ⟨rfl,rfl,rfl,rfl,rfl,rfl,by repeat constructor⟩
 have a3:∀C t a w,J0 (some C) (some t) a w->A [0,1,2,3,4,5,6,7,8,9,10,11,14,15,16,17,18,23] a w:=fun C t a w h=>
  Jp (p:=[12]) (n0:=0) (by kernel_rfl) T JE rfl (I _ _ _ _ _ _ (by kernel_rfl) rfl h fun a w h=>lH (L C t a w h) rfl (by kernel_rfl))
 have nS:∀C a w,J0 (some C) none a w->A [0,1,2,3,4,5,6,7,8,9,10,11,14,15,16,17,18] a w:=by
  intro C a w h;refine qA (R:=[12,23]) (by rw[K];decide) (by kernel_rfl) (by decide) fun i hi=>?_;simp only[aH,cb,or_false]at hi;rcases hi with rfl|rfl
  .exact gW (by kernel_rfl) JE (I _ _ _ _ _ _ (by kernel_rfl) rfl h fun a w h=>lH (a4 C a w h) rfl (by kernel_rfl))
  exact gW (by kernel_rfl) E6 (MK D r h fun B a w h=>a3 C B a w h)
 have nA:∀t a w,J0 none (some t) a w->A [0,1,2,3,4,5,6,7,8,9,10,11,14,15,16,17,23] a w:=by
  intro t a w h;refine qA (R:=[12,18]) (by rw[K];decide) (by kernel_rfl) (by decide) fun i hi=>?_;simp only[aH,cb,or_false]at hi;rcases hi with rfl|rfl
  .exact gW (by kernel_rfl) JE (I _ _ _ _ _ _ (by kernel_rfl) rfl h fun a w h=>lH (a5 t a w h) rfl (by kernel_rfl))
  exact gW (by kernel_rfl) JD (Qn D r rfl (lS _) h fun B a w h=>lH (a3 B t a w h) rfl (by kernel_rfl))
 refine qA (R:=[12,18,23]) (by rw[K];decide) aaW (by decide) fun i hi=>?_;simp only[aH,cb,or_false]at hi;rcases hi with rfl|rfl|rfl
 .exact gW (by kernel_rfl) JE (I _ _ _ _ _ _ aaV rfl a1 fun a w h=>nP a w h)
 .exact gW (by kernel_rfl) JD (Qn D r rfl (lS _) a1 fun B a w h=>nS B a w h)
 exact gW (by kernel_rfl) E6 (MK D r a1 fun B a w h=>nA B a w h)
end
noncomputable def AL:Code:=.seq (.region 49 HL false) (.seq (.region 50 gj true) (.region 51 HK false))
def Lf{s:RS}(h:dx (.V eZ) (encS s)):∀e∈s.le,Has dY e:=by obtain⟨x,d,q,rfl,_,f⟩:=cJ h 53 (.list dY) (by rw[Ty.dm];rfl);have e:(encS s)[53]?=some (.list s.le):=rfl;rw[e]at d;injection d with d;injection d with d;rw[d];exact f
section
variable{w w0 w':Tam}{S S0 S':bE}{ow kG bT:Ow}{b b3 Mn i n K L:Nat}{N c x7:Int}{g g':GS}{dv us:Tac}{Q:Iv}{a:Act}
def L5(hQ:QP Q)(h:DS w S ow b b3 dv n (L+28) N g)(hi:i<n)(b1:dv[7]?=some (.int i64 x7))(C:jX i64 x7)(hc:dv[11]?=some (.int i64 c))(k:Kn 359 a [(4,.int i64 (i:Int)),(3,aI b3),(0,aI b)])(t:∀a W S' bT g',Kn 359 a [(4,.int i64 (i:Int)),(3,aI b3),(0,aI b)]->bD LG aB w S ow W S' bT->kv W S' bT b g'->GI n L (N+1) g'->Q .normal a W):AL.wp Try.prog Q a w:=by
 have j:=h.gi;have c9:=h.nN;have d0:=h.n5;have d:=h.wf;obtain⟨a1,Y,a3,a4⟩:=j.get hi;have y:i<g.ew.length:=by rw[j.n1];exact hi
 have hx:=iG y;obtain⟨l0,l1⟩:=Y.li;simp only[MX]at l1
 have b8:∀e∈(cG g i).le,Has dY e:=by obtain⟨R,gm,x,b5⟩:=h.yE;obtain⟨X,P,H,E⟩:=gm.ew i _ hx;exact Lf E
 unfold AL;refine wp_seq (rg aB hQ W0 ?_);intro w1 e1;have h1:=h.O e1;have a7:=(bD.refl LG aB w S ow).Y d d e1;have s0:=SX.refl aB w1;obtain⟨R,f,x,b5⟩:=h1.yE;obtain⟨X,P,H,E⟩:=f.ew i _ hx;obtain⟨bl,d1,c4,c0,c7,b9⟩:=f.arr.elem (i:=i) (u:=aI X) (by rw[x,ab,P];rfl);have c3:(R.la.map aI).length=g.ew.length:=by rw[ao,x];exact f.rn
 repeat (first|refine sm k fun a k=>?_|refine ld k (f.cell id rfl) fun a k=>?_)
 rw[c4]at k;refine wQ (el:=52) (sz:=1) k rfl rfl (by rw[c3];exact y) fun a k=>?_;refine ky (v:=aI X) k (by assumption) rfl (by decide) rfl (by kernel_rfl) (by kernel_rfl) (eP c0 (fun h=>h) (by rw[bK];exact b9)) fun a k=>?_;refine gV (vs:=[aI X]) k (by decide) rfl (by decide) U5.enter rfl (mU H f.wf (Y.ok a1 (aF _) (by omega))) ?_;rintro e z ⟨A1,n1,c1,A2,n2,c2,rfl,-,nf,ud⟩;refine⟨_,rfl,fun _=>nf.vi _,fun a k=>?_⟩;have h2:=h1.KM nf ud;have A:=a7.Z d h1.wf nf nE;have s1:=nf.vi aB;refine jO (nn:=9) k (by decide) rfl (by decide) (by kernel_rfl) (fun Z _=>s1.trans (SX.alloc _ _ _)) fun Z b0 a k=>?_;refine ln (vs:=G0 (cG g i) (.slice A1 n1 c1) (.slice A2 n2 c2)) k (by decide) rfl (by kernel_rfl) rfl rfl rfl (heap_alloc_new z _) (by show 0+9<=Z.toArray.size;rw[bV];omega) (by simp[G0,Value.oneCell']) (fun h=>absurd rfl h) fun a k=>?_;refine ay ?_;have b4:(G0 (cG g i) (.slice A1 n1 c1) (.slice A2 n2 c2)).length=9:=rfl;rw[fill_eq b0 b4];obtain⟨r,D,s⟩:=kU (T:=67) (zs:=Z) (us:=G0 (cG g i) (.slice A1 n1 c1) (.slice A2 n2 c2)) ud;have h8:w.heap.size<=z.heap.size:=A.size;have m:=h2.VD r D (fun e=>by have:=h2.lx.lt;rw[show b3=z.heap.size from e]at this;omega);have p:=A.Z d h2.wf r (fun bb hb=>by rw[show bb=_ from hb];exact h8);generalize c6:z.heap.size=U at k s m p⊢;generalize hW:(z.alloc _).setRow U _=w3 at s m p⊢;have k:=k.sb (l:=[(18,aI U),(4,.int i64 (i:Int)),(3,aI b3),(0,aI b)]);clear r D s0 s1 hW;obtain⟨G,I,-⟩:=m.gi.KW hi (by omega) rfl (o:=(eG ((cG g i).li+ib x7 6) (ua c) (cG g i)).1.2) (s':=(eG ((cG g i).li+ib x7 6) (ua c) (cG g i)).2) ((LS a3 a1 Y b8).mono (by omega) (by omega)) m.gi.sf (fun w lg _ hN hS=>QC hS);refine wp_seq (XN (by exact hQ) m.PV m.yE y (by omega) (by rw[j.len.aX];exact j.len.n5) (Y.ok a1 (aF _) (by omega)) m.lx b1 C hc s (u:=(cG g i).li) rfl ⟨l0,by omega⟩ k ?_);intro a w4 S1 a8 d2 co k a6 M b7 a9 O F b6;have a0:=kM d m.wf p a6 nE;refine rg aB hQ WZ ?_;intro w5 V;have J:=M.O V;have a5:=a0.Y d M.wf V;have s0:=SX.refl aB w5;have B:=a9.O V
 repeat refine sm k fun a k=>?_
 refine lN (vs:=co) k rfl O (fun w' b2 q v hv=>by rw[av];exact B.cell id hv w' b2) fun a k=>?_;refine gV (vs:=[aI b,.int i64 (i:Int),.agg co.toArray,.bool false]) k (by decide) rfl (by decide) qL rfl (qG (g:=hJ i (eG ((cG g i).li+ib x7 6) (ua c) (cG g i)).2 g) J b7 (F.J (bD.O V aB aB S1 a8)) b6 G) ?_;rintro e w6 ⟨S6,ow6,rfl,yT,hg6⟩;refine⟨_,rfl,fun h=>absurd rfl h,fun a k=>?_⟩;exact ay (t _ _ S6 ow6 _ (k.sb) (kM d J.wf a5 yT nE) hg6 I)
end
def gX(i:Nat)(g:GS):RS:=rS ((i+1:Nat):Int) g.fv g.fl (cG g i).term (cG g i).vote (cG g i).li (cG g i).lt (cG g i).sv (cG g i).sl (cG g i).gN (cG g i).le
def RQ{i t:Int}{l:Taf}(h:gn i t l=true):jf i t [] i t l=true/\(iD i t [] i t l).2=l:=by
 obtain⟨_,e⟩:=eU.1 h
 have d:jf i t [] i t l=true:=by unfold jf gl;rw[if_neg (by omega),if_pos rfl];simp[h]
 refine⟨d,?_⟩;unfold iD;rw[if_pos d];cases l with
 |nil=>rfl
 |cons x r=>
  obtain⟨f,_⟩:=iu.1 e;unfold qb
  have:rO i t [] x=false:=by unfold rO gl;rw[if_neg (by omega),if_neg (by omega)];simp
  rw[this];simp
section
variable{w w0 w':Tam}{S S0 S':bE}{ow kG bT:Ow}{b b3 Mn i n K L:Nat}{N c x7:Int}{g g':GS}{dv us:Tac}{Q:Iv}{a:Act}
def wG:Idle (gX i g):=⟨rfl,rfl,rfl,rfl,rfl⟩
def Sf.Wb{s:RS}{ms:Taf}(h:Sf ms g)(hi:g.ew[i]?=some s)(l:0<=s.term)(p:V3 (.agg [.list g.fv,.list g.fl])):Sf ms (kB i (hJ i (gX i g) g)):=by
 obtain⟨w,h,f⟩:=h;obtain⟨r,u,lg,d⟩:=h.ew i s hi;have o:cG g i=s:=by unfold cG;rw[ae,hi];rfl
 have e:gX i g=rS s.id g.fv g.fl s.term s.vote s.li s.lt s.sv s.sl s.gN s.le:=by unfold gX;rw[o,r];rfl
 have q:fb w s.id lg 0 (gX i g):=by rw[e];exact⟨rfl,d.ok,⟨d.sv.lo,d.sv.kp,d.sv.cm.le (by have:=d.cm.1;show s.li.toNat<=_;omega),fun k=>(by cases k),fun k=>(by cases k)⟩,d.te,d.lo,⟨ar _,rfl,rfl⟩,p,d.c2,.inl rfl,d.vt,d.vg,fun k=>(by cases k),fun k=>(by cases k),fun m j=>(by cases j),fun m j=>(by cases j)⟩
 have t:=h.act (s':=gX i g) hi (.refl _ _) q (by rw[e];exact l);refine⟨w,t.note (s:=gX i g) ?_,f⟩;show(g.ew.set i _)[i]?=_;rw[bj,if_pos rfl,if_pos (aO.1 hi).1]
def GI.Wb(h:GI n K N g)(hi:i<n)(y:n<=5):cK (G K) K (gX i g) K/\GI n K N (kB i (hJ i (gX i g) g)):=by
 obtain⟨A,k,l,x⟩:=h.get hi;have r:i<g.ew.length:=by rw[h.n1];exact hi
 have t:cK (G K) K (gX i g) K:=by
  refine⟨k.may,?_,?_,k.rI,?_,?_,?_,?_,?_,k.cs,k.cl,k.tm,k.tx,rfl⟩
  .show(1:Int)<=((i+1:Nat):Int);omega
  .show((i+1:Nat):Int)<=5;omega
  .show 0+K<=K;omega
  .show 0+K<=_;have:=k.ne;omega
  .show 0+G K<=G K;omega
  .show 0+K<=_;have:=k.nv;omega
  show gF (.agg [.list g.fv,.list g.fl])=true;exact h.cf.1
 have v:Bs N (gX i g):=⟨⟨rfl,rfl⟩,l.zz,⟨ar _,by show(cG g i).li<=(cG g i).li+((cG g i).le.length:Int);omega⟩,l.gH,aF _,l.PW,l.oH,l.top,l.pos⟩;refine⟨t,?_⟩;have e:(hJ i (gX i g) g).ew.length=g.ew.length:=aQ;have o:uI (hJ i (gX i g) g):=⟨by rw[e];exact h.len.n5,by rw[e];exact h.len.cO,by rw[e];exact h.len.aX,by rw[e];exact h.len.saved,h.len.lead,h.len.vl⟩;obtain⟨f,p⟩:=Kd o i;have m:=h.sf.Wb (iG r) k.tm h.cf.2.2;generalize kB i (hJ i (gX i g) g)=z at f p m;refine⟨p,?_,?_,?_,?_,?_,?_,h.nn,m⟩
 .rw[f.ew,e];exact h.n1
 .rw[f.fv,f.fl];exact h.cf
 .intro j s u;rw[f.ew]at u;rw[f.saved];have d:(g.ew.set i (gX i g))[j]?=some s:=u;rw[bj]at d;by_cases q:i=j
  .subst q;rw[if_pos rfl,if_pos r]at d;injection d with d;subst d;exact⟨wG,t,v,x⟩
  rw[if_neg q]at d;exact h.ew j s d
 .rw[f.net];exact h.net
 .rw[f.net];exact h.nl
 rw[f.told];exact h.told
def GM.Ri{R:GR}{vs:Tac}{X:Tai}{bs:Nat}{s':RS}(h:GM w S ow b vs R g)(d:bD (iI (1000+i)) X w S ow w' S' bT)(q:Wf w' S' bT)(hi:i<g.ew.length)(r:kr w' S' bT (1000+i) (dG 0) bs [cR s',cL s'])(k:dx (.V eZ) (encS s'))(x:g.aX.length<=5):
  GM w' S' bT b vs {R with lb:=R.lb.set i bs} {g with ew:=g.ew.set i s'} where
 wf:=q
 obj:=h.obj.J d cu
 fv:=h.fv.J d
 fl:=h.fl.J d
 arr:=h.arr.J h.wf d cu
 rn:=by rw[aQ,aQ];exact h.rn
 ew:=fun j s e=>by
  have m:i<R.lb.length:=by rw[h.rn];exact hi
  rw[bj]at e;by_cases f:i=j
  .subst f;rw[if_pos rfl,if_pos hi]at e;injection e with e;subst e;exact⟨bs,by rw[bj,if_pos rfl,if_pos m],r,k⟩
  rw[if_neg f]at e;obtain⟨u,p,o,t⟩:=h.ew j s e;exact⟨u,by rw[bj,if_neg f];exact p,o.J h.wf q d cu rfl,t⟩
 saved:=h.saved.J h.wf d cu
 net:=h.net.J h.wf d cu
 told:=h.told.J h.wf d cu
 bG:=h.bG.J h.wf d cu
 cO:=h.cO.J h.wf d cu
 read:=h.read.J h.wf d cu
 oH:=h.oH.J h.wf d cu
 xH:=h.xH
 pD:=fun j l e=>let ⟨v,p,o⟩:=h.pD j l e;⟨v,p,o.J h.wf d (by have y:j<g.aX.length:=(aO.1 e).1;simp only[iI];omega)⟩
def XF{C M:Nat}{id:Int}{c0 c1 s4 s5 s6 s7:Tan}{s:RS}{l:Nat}(x:Wf w S ow)(j:1000<=l)(m:1<=id/\id<=5){fv fl:Taf}(F:cg w S (.agg [c0,c1].toArray) (.agg [.list fv,.list fl]))(p:FC fv fl)(k:cK C M s K)(d:Bs N s)(A:cg w S (.agg [.int i64 s.term,.int i64 s.vote,.int i64 s.li,.int i64 s.lt,s4,s5,s6,s7].toArray) (tX s))(f:Has iU (tX s)):
  Calls Try.prog 11 [.int i64 id,.agg [c0,c1].toArray,.agg [.int i64 s.term,.int i64 s.vote,.int i64 s.li,.int i64 s.lt,s4,s5,s6,s7].toArray].toArray w fun e w'=>∃b S' bT,e=.returned (.pointer (some ⟨b,0,none⟩))/\bD (iI l) aB w S ow w' S' bT/\Wf w' S' bT/\kr w' S' bT l (dG 0) b [cR (rS id fv fl s.term s.vote s.li s.lt s.sv s.sl s.gN s.le),cL (rS id fv fl s.term s.vote s.li s.lt s.sv s.sl s.gN s.le)]/\w.heap.size<=b:=by
 obtain⟨G,o⟩:=RQ k.may;obtain⟨h,E⟩:=eU.1 k.may;have B:MX=1099511627776:=rfl;have H:=d.oH;have z:=k.tm;have y:=k.tx;obtain⟨v,u,t,r⟩:=h
 have:=A9 (l:=l) (id:=id) (term:=s.term) (vote:=s.vote) (li:=s.li) (lt:=s.lt) (fv:=fv) (fl:=fl) (sv:=s.sv) (sl:=s.sl) (sd:=s.gN) (es:=s.le) (c0:=c0) (c1:=c1) (s4:=s4) (s5:=s5) (s6:=s6) (s7:=s7) x j
  (by simp only[ny,aT,bk];exact m) (jt (by omega) (by omega)) F p.2.1 p.1 A f
  (by simp only[ny,aT,bk];omega) (by simp only[ny,aT,bk];omega) G k.cl (by rw[o];exact d.PW) (by have:=k.rI;omega) (by rw[o];exact k.may) ⟨jE.2 ⟨v,u,t,r⟩,d.zz⟩ (jt (by omega) (by omega)) (jt (by omega) (by omega)) (fun q=>⟨k.cs q,d.gH q⟩)
 rw[o]at this;exact this
noncomputable def AF:Code:=.seq (.region 53 HI true) (.seq (.seq (.region 54 HH false) (.cond (.tmp 345) (.seq (.region 55 Ox false) .ret) .skip)) (.seq (.region 56 HG false) (.region 57 HF false)))
def LW(hQ:QP Q)(h:DS w S ow b b3 dv n K N g)(hi:i<n)(k:Kn 359 a [(4,.int i64 (i:Int)),(3,aI b3),(0,aI b)])(F:∀a W S' bT g',Kn 359 a [(4,.int i64 (i:Int)),(3,aI b3),(0,aI b)]->bD LG aB w S ow W S' bT->kv W S' bT b g'->GI n K N g'->Q .normal a W):AF.wp Try.prog Q a w:=by
 have m:=h.gi;have d1:=h.n5;have f:=h.wf;obtain⟨a1,a2,a3,a4⟩:=m.get hi;obtain⟨fk,d9⟩:=m.Wb hi d1;have B:i<g.ew.length:=by rw[m.n1];exact hi
 obtain⟨R,gm,a8,b9⟩:=h.yE;unfold AF;refine wp_seq (jy (n0:=13) (fun bb=>ow bb=some (1000+i)) mix (by exact hQ) WX (fun _=>by kernel_rfl) ?_);intro w8 e8;have d:=gm.O e8;have Y:=(bD.refl LG aB w S ow).Y f f e8;have s0:=SX.refl (fun bb=>ow bb=some (1000+i)) w8;have D:¬ow b=some (1000+i):=by rw[d.obj.ow];intro h;injection h with h;omega
 obtain⟨bt,e1,us,d6,d5,c9,a5,a6,t⟩:=d.saved.elem a4;have c2:=d.saved.all _ (bQ a4);have r:us.length=8:=a5;have c3:iU.cells.length=8:=rfl;rw[c3]at a6;have b8:¬ow bt=some (1000+i):=by rw[c9];intro h;injection h with h;omega
 have c4:i<g.saved.length:=(aO.1 a4).1
 repeat refine sm k fun a k=>?_
 refine iK (s:=((i+1:Nat):Int)) k (by assumption) rfl (by decide) rfl rfl (wrap64 (by omega) (by omega)) fun a k=>?_
 repeat refine sm k fun a k=>?_
 refine lN (vs:=[R.fv,R.fl]) k rfl rfl (fun w' A j v E=>by
  match j,E with
  |0,E=>exact d.cell D (j:=0) E w' A
  |1,E=>exact d.cell D (j:=1) E w' A) fun a k=>?_
 repeat (first|refine sm k fun a k=>?_|refine ld k (d.cell D (j:=3) rfl) fun a k=>?_)
 rw[d6]at k;refine wQ (el:=65) (sz:=8) k rfl rfl c4 fun a k=>?_;refine lN (vs:=us) k rfl r (fun w' A j v E=>eP d5 b8 (a6 j v E) w' A) fun a k=>?_
 obtain⟨V,U,T,P,M,J,I,H,rfl⟩:∃V U T P M J I H,us=[V,U,T,P,M,J,I,H]:=by
  match us,r with
  | [V,U,T,P,M,J,I,H],_=>exact⟨V,U,T,P,M,J,I,H,rfl⟩
 have v0:V=.int i64 (cG g i).term:=(t 0 _ _ rfl rfl).cQ;have v1:U=.int i64 (cG g i).vote:=(t 1 _ _ rfl rfl).cQ;have v2:T=.int i64 (cG g i).li:=(t 2 _ _ rfl rfl).cQ;have v3:P=.int i64 (cG g i).lt:=(t 3 _ _ rfl rfl).cQ;subst v0 v1 v2 v3;have d3:=d.fv;have d4:=d.fl
 have C:=XF (l:=1000+i) (id:=((i+1:Nat):Int)) (c0:=R.fv) (c1:=R.fl) (s4:=M) (s5:=J) (s6:=I) (s7:=H) d.wf (by omega) (by omega)
  (.agg [R.fv,R.fl] _ rfl (fun q u y x o=>by
   match q,x,o with
   |0,x,o=>injection x with x;injection o with o;subst x o;exact d3
   |1,x,o=>injection x with x;injection o with o;subst x o;exact d4)) m.cf a2 a3
  (.agg _ _ rfl (fun q u y x o=>t q u y x o)) c2
 refine gV (vs:=[.int i64 ((i+1:Nat):Int),.agg [R.fv,R.fl].toArray,.agg [Value.int i64 (cG g i).term,.int i64 (cG g i).vote,.int i64 (cG g i).li,.int i64 (cG g i).lt,M,J,I,H].toArray]) k (by decide) rfl (by decide) Kq rfl C ?_;rintro e w9 ⟨bs,S9,ow9,rfl,X7,hw9,V5,hbs⟩;refine⟨_,rfl,fun _=>SX.iw (fun _ h=>h) X7,fun a k=>?_⟩;have s9:SX (fun bb=>ow bb=some (1000+i)) w8 w9:=SX.iw (fun _ h=>h) X7;refine sm k fun a k=>?_;refine ay ?_;have c7:rS ((i+1:Nat):Int) g.fv g.fl (cG g i).term (cG g i).vote (cG g i).li (cG g i).lt (cG g i).sv (cG g i).sl (cG g i).gN (cG g i).le=gX i g:=rfl;rw[c7]at V5;have d8:=d.Ri (i:=i) X7 hw9 B V5 (fE V5) (by rw[m.len.aX];exact m.len.n5);have b7:=Y.eY f d.wf X7 (.inr (by omega));have k:=k.sb (l:=[(21,aI bs),(4,.int i64 (i:Int)),(3,aI b3),(0,aI b)]);clear C s9 s0 Y;refine wp_seq (wp_seq (rg aB hQ WW ?_));intro wa ea;have b2:=d8.O ea;have b6:=b7.Y f hw9 ea;have s0:=SX.refl aB wa
 repeat refine sm k fun a k=>?_
 refine N4 (p:=some ⟨bs,0,none⟩) k (by assumption) rfl (by decide) rfl rfl (by kernel_rfl) fun a k=>?_;refine ay (bf k rfl (wp_skip ?_));have k:=k.sb (l:=[(21,aI bs),(4,.int i64 (i:Int)),(3,aI b3),(0,aI b)]);refine wp_seq (rg aB hQ WV ?_);intro wb eb;have z:=b2.O eb;have b5:=b6.Y f b2.wf eb;have s0:=SX.refl aB wb;have a7:i<(R.la.map aI).length:=by rw[ao,a8,gm.rn];exact B
 obtain⟨bl,e5,e0,b1,b0,e3,e4,e2,Z,a0,d0⟩:=z.arr.set (i:=i) (u:=aI bs) z.wf a7
 repeat (first|refine sm k fun a k=>?_|refine ld k (z.cell (fun h=>h) (j:=2) rfl) fun a k=>?_)
 rw[show({R with lb:=R.lb.set i bs}:GR).l=R.l from rfl]at b1;rw[show R.l=_ from b1]at k;refine wQ (el:=52) (sz:=1) k rfl rfl a7 fun a k=>?_;refine ln (vs:=[aI bs]) (off:=i) (cur:=e0) k (by decide) rfl (by kernel_rfl) (by show some (Value.pointer _)=_;first|rw[bK,av] |rw[bK]) rfl rfl b0 (by simp only[aW];omega) (by simp[aI,Value.oneCell']) (fun h=>absurd rfl h) fun a k=>?_;refine ay ?_;have d7:=z.Oi (la:=R.la.set i bs) Z a0 (by rw[List.map_set];exact d0);have X:=b5.eY f z.wf Z (.inl (by decide));have G:kv _ S9 ow9 b (hJ i (gX i g) g):=⟨{R with lb:=R.lb.set i bs,la:=R.la.set i bs},d7,by show R.la.set i bs=R.lb.set i bs;rw[a8],b9⟩;generalize wb.setRow bl _=wc at G X a0⊢;have k:=k.sb (l:=[(4,.int i64 (i:Int)),(3,aI b3),(0,aI b)]);refine rg aB hQ WU ?_;intro wd ed;have a9:=G.O ed;have b4:=X.Y f G.wf ed;have s0:=SX.refl aB wd;have O:=m.len;have d2:uI (hJ i (gX i g) g):=⟨by show(g.ew.set i _).length<=5;rw[aQ];exact O.n5,by show g.cO.length=(g.ew.set i _).length;rw[aQ];exact O.cO,by show g.aX.length=(g.ew.set i _).length;rw[aQ];exact O.aX,by show g.saved.length=(g.ew.set i _).length;rw[aQ];exact O.saved,O.lead,O.vl⟩
 have c6:cG (hJ i (gX i g) g) i=gX i g:=by show(g.ew.set i _).getD i dN=_;rw[ae,bj,if_pos rfl,if_pos B];rfl
 repeat refine sm k fun a k=>?_
 refine gV (vs:=[aI b,.int i64 (i:Int)]) k (by decide) rfl (by decide) Ko rfl (A8 a9 d2 (by show i<(g.ew.set i _).length;rw[aQ];exact B) (by rw[c6];exact fk.ok wG (aF _) (by omega))) ?_;rintro e we ⟨Se,owe,rfl,ste,hge⟩;refine⟨_,rfl,fun h=>absurd rfl h,fun a k=>?_⟩;exact ay (F _ _ Se owe _ (k.sb) (kM f a9.wf b4 ste nE) hge d9)
end
def NP:Tal:=[I6,I6,.list (.int .u8)]++VY++C6
def zw:Ty:=.agg (.V NP)
def F2{w:Tam}{S:bE}{dv:Tac}{d:D}(C:Has zw d)(z:cg w S (.agg dv.toArray) d):dv.length=76/\(∀j:Nat,NP[j]?=some I6->∃q,dv[j]?=some (.int i64 q)/\jX i64 q)/\(∃c,dv[10]?=some (.bool c))/\∃x,cg w S (.agg (dv.drop 49).toArray) x/\Has vw x:=by
 obtain⟨l,rfl,t⟩:=dU.1 C;have i:l.length=76:=by rw[fH t,Ty.dm];rfl
 have h:dx (.V NP) l:=t;obtain⟨P1,o,v,r⟩:=z.zd;injection o with o;have e:dv=P1:=by simpa using congrArg Array.toList o
 subst e;have k:dv.length=76:=by rw[v,i]
 refine⟨k,?_,?_,?_⟩
 .intro j B;obtain⟨x,m,q,rfl,A⟩:=cJ h j I6 (by rw[Ty.dm];exact B);have p:j<dv.length:=by rw[v];exact(aO.1 m).1
  have f:dv[j]?=some dv[j]:=aS p;rw[f,(r j _ _ f m).cQ];exact⟨q,rfl,A⟩
 .obtain⟨x,m,E⟩:=cJ h 10 .bool (by rw[Ty.dm];rfl);obtain⟨c,rfl⟩:=dg.1 E;have f:dv[10]?=some dv[10]:=aS (by omega);rw[f,(r 10 _ _ f m).gU];exact⟨c,rfl⟩
 refine⟨.agg (l.drop 49),.agg _ _ (by rw[ba,ba,k,i]) (fun j u y f s=>?_),dU.2 ⟨_,rfl,tP (a:=[I6,I6,.list (.int .u8)]++VY) (b:=C6) h⟩⟩;rw[aD]at f s;exact r _ _ _ f s
section
variable{w w0 w':Tam}{S S0 S':bE}{ow kG bT:Ow}{b n K:Nat}{N:Int}{g:GS}{dv:Tac}{Q:Iv}{a:Act}
def JV(w:Tam)(S:bE)(ow:Ow)(b n K:Nat)(N:Int)(e:Ending)(w':Tam):Prop:=∃S' bT c,e=.returned (.tuple #[])/\bD LG aB w S ow w' S' bT/\kv w' S' bT b c/\GI n K N c
def Jk{d:D}(h:kv w S ow b g)(hn:pC ow)(f:GI n K N g)(h5:n<=5)(h0:1<=n)(hN:N<=99990000)(hK:12040<=K)(hd:Has zw d)(hr:cg w S (.agg dv.toArray) d)(b7:∀op,dv[49]?=some (.int i64 op)->op≠2):
  Calls Try.prog 10 [aI b,.agg dv.toArray].toArray w (JV w S ow b n (K-12040) (N+430)):=by
 obtain⟨c0,o,⟨cj,c1⟩,x,b4,hx⟩:=F2 hd hr;obtain⟨q0,b6,b2⟩:=o 0 rfl;obtain⟨q1,b5,a5⟩:=o 1 rfl;obtain⟨q7,a8,a4⟩:=o 7 rfl;obtain⟨c9,p,z⟩:=o 11 rfl;obtain⟨c7,U,c4⟩:=o 49 rfl;refine kD Try.func10 Hl OM aaj (by show 2<=359;omega) ?_;intro a k;have hQ:=jD (P:=Try.prog) (fn:=Try.f10) (R:=JV w S ow b n (K-12040) (N+430));have u:=h.wf;refine wp_seq (rg aB hQ SH ?_);intro w1 e1;refine rW (us:=dv) k (by decide) rfl (by decide) rfl rfl (fun h=>absurd rfl h) fun a k=>?_;refine ay ?_;have L:=u.O e1;have a3:bD LG aB w S ow w1 S ow:=bD.O e1 LG aB S ow;obtain⟨H,J⟩:=bD.alloc L (.cells dv.toArray 51);have I:=fF.new L 51 dv;have V:=a3.Z u L H nE;have X:kv (w1.alloc (.cells dv.toArray 51)) S ow b g:=by obtain⟨R',c3,h1,h2⟩:=h.O e1;exact⟨R',c3.J H J,h1,h2⟩
 have C:=(b4.J (bD.O e1 aB aB S ow)).J H;generalize c2:w1.heap.size=b3 at k I;generalize w1.alloc _=w2 at X I V J C⊢;have k:=k.sb (l:=[(3,aI b3),(0,aI b)]);have h2:DS w2 S ow b b3 dv n K N g:=⟨X,hn,I,f,h5,by omega⟩;clear H a3 L e1 c2;refine wp_seq (jy (n0:=7) aB mix (by exact hQ) SF (fun _=>by kernel_rfl) ?_);intro w3 e3;have h3:=h2.O e3;have T:=C.J (bD.O e3 aB aB S ow);obtain⟨R,G,b8,d0⟩:=h3.yE;have a2:=V.Y u J e3;have s0:=SX.refl aB w3;obtain⟨Al,c6,b0⟩:=G.arr.slice;have a9:(R.la.map aI).length=n:=by rw[ao,b8,G.rn];exact f.n1
 repeat refine sm k fun a k=>?_
 refine ld k (h3.lx.cell id b5) fun a k=>?_
 repeat refine sm k fun a k=>?_
 refine ld k (G.cell id (j:=2) rfl) fun a k=>?_;rw[b0,a9]at k;refine Hi k (by assumption) rfl (by decide) rfl (by kernel_rfl) fun a k=>?_;refine gV (vs:=[.int i64 q1,.int i64 (n:Int)]) k (by decide) rfl (by decide) c8.enter rfl (kX G.wf a5 (jt (by omega) (by omega)) (by omega)) ?_;rintro e w4 ⟨rfl,rH,KI⟩;have s4:=rH.vi aB;refine⟨_,rfl,fun _=>s4,fun a k=>?_⟩
 repeat refine sm k fun a k=>?_
 refine ay ?_;obtain⟨p0,p1⟩:=se (b:=(n:Int)) a5 (by omega);generalize hi:(ib q1 (n:Int)).toNat=i;have b9:ib q1 (n:Int)=(i:Int):=by omega
 have E:i<n:=by omega
 rw[b9]at k;have h4:=h3.KM rH KI;have O:=T.J rH;have Z:=a2.Z u h3.wf rH nE;have k:=k.sb (l:=[(4,.int i64 (i:Int)),(3,aI b3),(0,aI b)]);clear rH s4 s0 a2 G e3 X I V J h2 h3 C T b0 a9 hi;refine wp_seq (rg aB hQ SE ?_);intro w5 e5;have F:=h4.O e5;have M:=O.J (bD.O e5 aB aB S ow);have a1:=Z.Y u h4.wf e5;have s0:=SX.refl aB w5
 repeat (first|refine sm k fun a k=>?_|refine ld k (F.lx.cell id b6) fun a k=>?_)
 refine gV (vs:=[.int i64 q0,.int i64 12]) k (by decide) rfl (by decide) c8.enter rfl (kX F.wf b2 (by decide) (by decide)) ?_;rintro e w6 ⟨rfl,yT,KH⟩;refine⟨_,rfl,fun h=>absurd rfl h,fun a k=>?_⟩;refine ay ?_;have h6:=F.KM yT KH;have a7:=M.J yT;have b1:=a1.Z u F.wf yT nE;have k:=k.sb (l:=km (ib q0 12) (i:Int) b3 b);clear yT s0 a1 e5 h4 Z O F M
 have t:∀{m:Tab} (a:Act) (W:Tam) (S':bE) (bT:Ow) (q:GS) (K':Nat) (N':Int),Kn 359 a m->bD LG aB w S ow W S' bT->kv W S' bT b q->GI n K' N' q->K-12040<=K'->N'<=N+430->bodyPost Try.prog Try.f10 (JV w S ow b n (K-12040) (N+430)) .normal a W:=by intro m a W S' bT q K' N' k r y f hK hN;exact(mb Su k ⟨S',bT,q,rfl,r,y,f.le hK hN⟩).2
 have s:QP (Exit.inBlock 0 (bodyPost Try.prog Try.f10 (JV w S ow b n (K-12040) (N+430)))):=by intro c a d v w h;exact hQ c a d v w h
 have Y:K=(K-28)+28:=by omega
 refine wp_block (agi (A5:=.region 5 JQ true) (A7:=Aa) (A14:=An) (A27:=yZ) (A35:=As) (A43:=Am) (A49:=AL) (A53:=AF) s k ?_);intro A hA a w7 e7 k;have B:=h6.O e7;have a6:=a7.J (bD.O e7 aB aB S ow);have a0:=b1.Y u h6.wf e7;have k:=k.sb (l:=[(4,.int i64 (i:Int)),(3,aI b3),(0,aI b)]);have go:∀{W:Tam} {S':bE} {bT:Ow},bD LG aB w7 S ow W S' bT->bD LG aB w S ow W S' bT:=fun r=>kM u B.wf a0 r nE;rcases hA with⟨_,rfl⟩|⟨_,rfl⟩|⟨_,rfl⟩|⟨_,rfl⟩|⟨_,rfl⟩|⟨_,rfl⟩|⟨_,rfl⟩|⟨_,rfl⟩|rfl
 .rw[Y]at B;exact aaM s B E p z k fun a W S' bT q k r y f=>t a W S' bT q _ _ k (go r) y f (by omega) (by omega)
 .exact K1 s B (by omega) E p z k (by omega) fun a W S' bT q k r y f=>t a W S' bT q _ _ k (go r) y f (by omega) (by omega)
 .exact Ln s B (by omega) (by omega) p a8 a4 c1 k fun a W S' bT q k r y f=>t a W S' bT q _ _ k (go r) y f (by omega) (by omega)
 .exact Wp s B hK (by omega) (k.sb) fun a W S' bT q k r y f=>t a W S' bT q _ _ k (go r) y f (by omega) (by omega)
 .exact LB s B p z k fun a W S' bT q k r y f=>t a W S' bT q _ _ k (go r) y f (by omega) (by omega)
 .rw[Y]at B;exact Lk s B E c0 p z U (b7 _ U) hx a6 k fun a W S' bT q k r y f=>t a W S' bT q _ _ k (go r) y f (by omega) (by omega)
 .rw[Y]at B;exact L5 s B E a8 a4 p k fun a W S' bT q k r y f=>t a W S' bT q _ _ k (go r) y f (by omega) (by omega)
 .exact LW s B E k fun a W S' bT q k r y f=>t a W S' bT q _ _ k (go r) y f (by omega) (by omega)
 exact wp_skip (t a w7 S ow g _ _ k a0 B.yE B.gi (by omega) (by omega))
end
end Go.Proofs.Ytjhmkaninmgilaa
namespace Go.Proofs.Ytjhmkaninmgilaa
open Go Go.RowKit Go.dF Go.Proofs
noncomputable def VU:Tad:=kN 0 (fS Try.f5)
noncomputable def VT:Tad:=kN 1 (fS Try.f5)
noncomputable def VS:Tad:=kN 2 (fS Try.f5)
noncomputable def VR:Tad:=kN 3 (fS Try.f5)
noncomputable def VQ:Tad:=kN 5 (fS Try.f5)
noncomputable def VP:Tad:=kN 6 (fS Try.f5)
noncomputable def VO:Tad:=kN 7 (fS Try.f5)
noncomputable def aai:Tad:=kN 8 (fS Try.f5)
noncomputable def Qi:Tad:=kN 4 (fS Try.f5)
noncomputable def VN:Tad:=kN 9 (fS Try.f5)
def afk:bJ VU=[(some 2,.assign (.const (.bool false)),none)]:=by kernel_rfl
def afj:bJ VT=[oC 5 9 #[(.const (.int i64 4)),(.const (.int i64 3))] #[3,3],
 oA 3 5]:=by kernel_rfl
def afi:bJ VS=[(some 4,.assign (.const (.int i64 0)),none)]:=by kernel_rfl
def afh:bJ VR=[oM 6 4,
 oM 7 0,
 oE 8 7 22,
 oB 9 .lss 3 6 8]:=by kernel_rfl
def aff:bJ VQ=[oM 12 0,
 oM 13 4,
 oI 14 22 12 13,
 oF 15 51 14 4,
 oF 16 44 15 0,
 oL 17 3 16,
 (some 18,.binOp .eql 3 (.tmp 17) (.const (.int i64 2)) 3,none)]:=by kernel_rfl
def afe:bJ VP=[oM 19 3,
 oM 20 0,
 oM 21 4,
 oI 22 22 20 21,
 oL 23 51 22,
 oC 24 10 #[(.tmp 19),(.tmp 23)] #[24,51]]:=by kernel_rfl
def afd:bJ VO=[oM 25 3,
 oN 26 25,
 oF 27 59 26 1,
 oL 28 54 27,
 (some 29,.indexAddr 54 (.tmp 28) (.const (.int i64 3)),none),
 oL 30 52 29,
 oC 31 12 #[(.tmp 30)] #[52],
 (some 32,.field 67 (.tmp 31) 0,none),
 (some 33,.binOp .neq 3 (.tmp 32) (.const (.int i64 0)) 3,none),
 oM 34 33,
 oM 35 3 (some (9,false)),
 oN 36 35 (some (9,false)),
 oF 37 59 36 9 (some (9,false)),
 oL 38 4 37 (some (9,false)),
 (some 39,.pick (.tmp 34) (.const (.bool true)) (.tmp 38),none)]:=by kernel_rfl
def afg:bJ Qi=[oM 10 4,
 (some 11,.binOp .add 3 (.tmp 10) (.const (.int i64 1)) 3,none),
 oA 4 11]:=by kernel_rfl
def afc:bJ VN=[oC 40 13 #[] #[],
 oA 2 40]:=by kernel_rfl
def NS:fS Try.f5=(.seq (.region 0 VU false) (.seq (.region 1 VT false) (.seq (.seq (.region 2 VS false) (.block 0 (.loop (.seq (.seq (.region 3 VR false) (.cond (.tmp 9) .skip (.exit 0))) (.seq (.block 1 (.seq (.seq (.region 5 VQ false) (.cond (.tmp 18) (.exit 1) .skip)) (.seq (.region 6 VP false) (.seq (.region 7 VO false) (.cond (.tmp 39) (.seq (.region 8 aai false) .ret) .skip))))) (.region 4 Qi false)))))) (.seq (.region 9 VN false) .ret)))):=by kernel_rfl
def Sm:Try.f5.body=some (fS Try.f5):=by kernel_rfl
def nt5:Try.f5.ntmps=41:=by kernel_rfl
def aeZ:Try.f5.results=#[.tmp 2]:=by kernel_rfl
def XM(a:Tbd Tan)(w:Tam):(callFunc 5 a).run Try.prog w=.ok (.enter 5 a) w:=by
 unfold callFunc
 have b:Try.f5.name≠ "runtime.NumGoroutine" :=by decide+kernel
 simp[Try.func5,Sm,b]
end Go.Proofs.Ytjhmkaninmgilaa
