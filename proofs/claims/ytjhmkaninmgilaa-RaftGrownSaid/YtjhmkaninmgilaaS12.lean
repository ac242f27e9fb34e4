/- Part 12 of the proof of RaftGrown; no condition. -/
import Derived.Test.YtjhmkaninmgilaaS11
set_option linter.defProp false
set_option linter.unusedVariables false
set_option linter.unusedSimpArgs false
set_option maxHeartbeats 4000000
namespace Go.Proofs.Ytjhmkaninmgilaa
open Go Go.RowKit Go.dG Go.Proofs
attribute [local irreducible] TL AT
section
variable{w w0 w':Tan}{S S0 S':bG}{ow kJ cE:Ow}{b i s K L:Nat}{g:GS}{vl:Tao}{Q:O3}{a:Act}
def PI(hQ:QP Q)(h:iA w S ow b g)(k:Kn 227 a ((5,.int .i64 (-1))::nM b vl))(O:∀a W S' At,Kn 227 a ((5,.int .i64 (-1))::(6,.slice At oq.length oq.length)::nM b vl)->bB LG ax w S ow W S' ow->iA W S' ow b g->bV W S' (.slice At oq.length oq.length) (.list oq)->Dr W ow At->Q .normal a W):(Code.region 8 Qv false).wp Try.prog Q a w:=by
 have u:=h.wf;unfold nM at k;refine fV (n0:=0) ax mix (by exact hQ) agc (by decide) ?_;intro z e1;have h1:=h.W e1;have a5:bB LG ax w S ow z S ow:=bB.W e1 LG ax S ow;have s1:=SX.refl ax z;obtain⟨S2,V,h2,n⟩:=nO h1 [1,2,3] (by decide);have s2:SX ax z (z.alloc (.cells (iV [1,2,3]).toArray 3)):=s1.trans (SX.alloc _ _ _);refine oG (T:=3) (kk:=1) (ps:=[(0,.int .i64 1),(1,.int .i64 2),(2,.int .i64 3)]) (cells:=iV [1,2,3]) k (by decide) rfl (by decide) rfl (by kernel_rfl) (by decide) (by decide) (by decide) (by intro f;rw[show Array.range (3*1)=#[0,1,2] from rfl];simp[Instr.fill,Value.cells,iV]) (fun _=>s2) fun a k=>?_;generalize c7:z.heap.size=I at k n;have a3:=a5.eC u h1.wf V nE;generalize b9:z.alloc _=w2 at V h2 n s2 a3⊢;obtain⟨S3,J,h3,p⟩:=nO h2 [4] (by decide);have s3:SX ax z (w2.alloc (.cells (iV [4]).toArray 3)):=s2.trans (SX.alloc _ _ _);refine oG (T:=3) (kk:=1) (ps:=[(0,.int .i64 4)]) (cells:=iV [4]) k (by decide) rfl (by decide) rfl (by kernel_rfl) (by decide) (by decide) (by decide) (by intro f;rw[show Array.range (1*1)=#[0] from rfl];simp[Instr.fill,Value.cells,iV]) (fun _=>s3) fun a k=>?_;generalize c5:w2.heap.size=H at k p;have a2:=a3.eC u h2.wf J nE;have n:=n.O J;generalize b1:w2.alloc _=w3 at J h3 p s3 a2 n⊢;refine gU (ps:=[(0,.slice (some ⟨I,0,none⟩) 3 3),(1,.slice (some ⟨H,0,none⟩) 1 1)]) (vs:=[.slice (some ⟨I,0,none⟩) 3 3,.slice (some ⟨H,0,none⟩) 1 1]) k (by assumption) rfl (by decide) rfl (by kernel_rfl) fun a k=>?_;obtain⟨S4,B,h4,q⟩:=nO h3 [1,2,3,4] (by decide);have s4:SX ax z (w3.alloc (.cells (iV [1,2,3,4]).toArray 3)):=s3.trans (SX.alloc _ _ _);refine oG (T:=3) (kk:=1) (ps:=[(0,.int .i64 1),(1,.int .i64 2),(2,.int .i64 3),(3,.int .i64 4)]) (cells:=iV [1,2,3,4]) k (by decide) rfl (by decide) rfl (by kernel_rfl) (by decide) (by decide) (by decide) (by intro f;rw[show Array.range (4*1)=#[0,1,2,3] from rfl];simp[Instr.fill,Value.cells,iV]) (fun _=>s4) fun a k=>?_;generalize c4:w3.heap.size=G at k q;have a1:=a2.eC u h3.wf B nE;have n:=n.O B;have p:=p.O B;generalize b0:w3.alloc _=w4 at B h4 q s4 a1 n p⊢;refine gU (ps:=[(0,.slice (some ⟨G,0,none⟩) 4 4)]) (vs:=[.slice (some ⟨G,0,none⟩) 4 4,eM]) k (by assumption) rfl (by decide) rfl (by kernel_rfl) fun a k=>?_;obtain⟨S5,A,h5,r⟩:=nO h4 [1,2,3,4] (by decide);have s5:SX ax z (w4.alloc (.cells (iV [1,2,3,4]).toArray 3)):=s4.trans (SX.alloc _ _ _);refine oG (T:=3) (kk:=1) (ps:=[(0,.int .i64 1),(1,.int .i64 2),(2,.int .i64 3),(3,.int .i64 4)]) (cells:=iV [1,2,3,4]) k (by decide) rfl (by decide) rfl (by kernel_rfl) (by decide) (by decide) (by decide) (by intro f;rw[show Array.range (4*1)=#[0,1,2,3] from rfl];simp[Instr.fill,Value.cells,iV]) (fun _=>s5) fun a k=>?_;generalize c3:w4.heap.size=F at k r;have a0:=a1.eC u h4.wf A nE;have n:=n.O A;have p:=p.O A;have q:=q.O A;generalize a9:w4.alloc _=w5 at A h5 r s5 a0 n p q⊢;obtain⟨S6,x,h6,y⟩:=nO h5 [5] (by decide);have s6:SX ax z (w5.alloc (.cells (iV [5]).toArray 3)):=s5.trans (SX.alloc _ _ _);refine oG (T:=3) (kk:=1) (ps:=[(0,.int .i64 5)]) (cells:=iV [5]) k (by decide) rfl (by decide) rfl (by kernel_rfl) (by decide) (by decide) (by decide) (by intro f;rw[show Array.range (1*1)=#[0] from rfl];simp[Instr.fill,Value.cells,iV]) (fun _=>s6) fun a k=>?_;generalize c2:w5.heap.size=E at k y;have Z:=a0.eC u h5.wf x nE;have n:=n.O x;have p:=p.O x;have q:=q.O x;have r:=r.O x;generalize a8:w5.alloc _=w6 at x h6 y s6 Z n p q r⊢;refine gU (ps:=[(0,.slice (some ⟨F,0,none⟩) 4 4),(1,.slice (some ⟨E,0,none⟩) 1 1)]) (vs:=[.slice (some ⟨F,0,none⟩) 4 4,.slice (some ⟨E,0,none⟩) 1 1]) k (by assumption) rfl (by decide) rfl (by kernel_rfl) fun a k=>?_;obtain⟨S7,t,h7,N⟩:=nO h6 [1,2,3,4,5] (by decide);have s7:SX ax z (w6.alloc (.cells (iV [1,2,3,4,5]).toArray 3)):=s6.trans (SX.alloc _ _ _);refine oG (T:=3) (kk:=1) (ps:=[(0,.int .i64 1),(1,.int .i64 2),(2,.int .i64 3),(3,.int .i64 4),(4,.int .i64 5)]) (cells:=iV [1,2,3,4,5]) k (by decide) rfl (by decide) rfl (by kernel_rfl) (by decide) (by decide) (by decide) (by intro f;rw[show Array.range (5*1)=#[0,1,2,3,4] from rfl];simp[Instr.fill,Value.cells,iV]) (fun _=>s7) fun a k=>?_;generalize c1:w6.heap.size=C at k N;have Y:=Z.eC u h6.wf t nE;have n:=n.O t;have p:=p.O t;have q:=q.O t;have r:=r.O t;have y:=y.O t;generalize a7:w6.alloc _=R at t h7 N s7 Y n p q r y⊢;refine gU (ps:=[(0,.slice (some ⟨C,0,none⟩) 5 5)]) (vs:=[.slice (some ⟨C,0,none⟩) 5 5,eM]) k (by assumption) rfl (by decide) rfl (by kernel_rfl) fun a k=>?_;have a4:SX ax z (R.alloc (.cells ([.slice (some ⟨I,0,none⟩) 3 3,.slice (some ⟨H,0,none⟩) 1 1,.slice (some ⟨G,0,none⟩) 4 4,eM,.slice (some ⟨F,0,none⟩) 4 4,.slice (some ⟨E,0,none⟩) 1 1,.slice (some ⟨C,0,none⟩) 5 5,eM]:Tad).toArray 31)):=s7.trans (SX.alloc _ _ _)
 obtain⟨S8,U,h8,M⟩:=K6 (T:=31) h7 [.slice (some ⟨I,0,none⟩) 3 3,.slice (some ⟨H,0,none⟩) 1 1,.slice (some ⟨G,0,none⟩) 4 4,eM,.slice (some ⟨F,0,none⟩) 4 4,.slice (some ⟨E,0,none⟩) 1 1,.slice (some ⟨C,0,none⟩) 5 5,eM] oq (by decide) rfl (fun d l=>by
  simp only[oq,aH,dv,or_false]at l;rcases l with rfl|rfl|rfl|rfl<;>rfl) (fun i d j v c l m o=>by
  match i,j,l,m,o with
  |0,0,l,m,o=>injection l with l;subst l;injection m with m;injection o with o;subst m o;exact n
  |0,1,l,m,o=>injection l with l;subst l;injection m with m;injection o with o;subst m o;exact p
  |1,0,l,m,o=>injection l with l;subst l;injection m with m;injection o with o;subst m o;exact q
  |1,1,l,m,o=>injection l with l;subst l;injection m with m;injection o with o;subst m o;exact .nil _ _
  |2,0,l,m,o=>injection l with l;subst l;injection m with m;injection o with o;subst m o;exact r
  |2,1,l,m,o=>injection l with l;subst l;injection m with m;injection o with o;subst m o;exact y
  |3,0,l,m,o=>injection l with l;subst l;injection m with m;injection o with o;subst m o;exact N
  |3,1,l,m,o=>injection l with l;subst l;injection m with m;injection o with o;subst m o;exact .nil _ _
  |i+4,_,l,_,_=>simp[oq]at l
  |0,j+2,l,m,_=>injection l with l;subst l;simp[nZ,cf,D.cells]at m
  |1,j+2,l,m,_=>injection l with l;subst l;simp[nZ,cf,D.cells]at m
  |2,j+2,l,m,_=>injection l with l;subst l;simp[nZ,cf,D.cells]at m
  |3,j+2,l,m,_=>injection l with l;subst l;simp[nZ,cf,D.cells]at m)
 refine oG (T:=31) (kk:=2) (ps:=[(0,.agg [.slice (some ⟨I,0,none⟩) 3 3,.slice (some ⟨H,0,none⟩) 1 1].toArray),(1,.agg [.slice (some ⟨G,0,none⟩) 4 4,eM].toArray),(2,.agg [.slice (some ⟨F,0,none⟩) 4 4,.slice (some ⟨E,0,none⟩) 1 1].toArray),(3,.agg [.slice (some ⟨C,0,none⟩) 5 5,eM].toArray)]) (cells:=[.slice (some ⟨I,0,none⟩) 3 3,.slice (some ⟨H,0,none⟩) 1 1,.slice (some ⟨G,0,none⟩) 4 4,eM,.slice (some ⟨F,0,none⟩) 4 4,.slice (some ⟨E,0,none⟩) 1 1,.slice (some ⟨C,0,none⟩) 5 5,eM]) k (by decide) rfl (by decide) rfl (by kernel_rfl) (by decide) (by decide) (by decide) (by intro f;rw[show Array.range (4*2)=#[0,1,2,3,4,5,6,7] from rfl];simp[Instr.fill,Value.cells]) (fun _=>a4) fun a k=>?_
 have P:Dr (R.alloc (.cells ([.slice (some ⟨I,0,none⟩) 3 3,.slice (some ⟨H,0,none⟩) 1 1,.slice (some ⟨G,0,none⟩) 4 4,eM,.slice (some ⟨F,0,none⟩) 4 4,.slice (some ⟨E,0,none⟩) 1 1,.slice (some ⟨C,0,none⟩) 5 5,eM]:Tad).toArray 31)) ow (some ⟨R.heap.size,0,none⟩):=by intro ad e;injection e with e;subst e;have lo:=fU.new h7.wf 31 [.slice (some ⟨I,0,none⟩) 3 3,.slice (some ⟨H,0,none⟩) 1 1,.slice (some ⟨G,0,none⟩) 4 4,eM,.slice (some ⟨F,0,none⟩) 4 4,.slice (some ⟨E,0,none⟩) 1 1,.slice (some ⟨C,0,none⟩) 5 5,eM];exact⟨lo.lt,lo.ow⟩
 have X:=Y.eC u h7.wf U nE;generalize c0:R.heap.size=b8 at k M P;generalize a6:R.alloc _=w8 at U h8 M X P a4⊢
 repeat refine sm k fun a k=>?_
 exact av (O _ _ S8 (some ⟨b8,0,none⟩) (k.sb) X h8 M P)
end
end Go.Proofs.Ytjhmkaninmgilaa
namespace Go.Proofs.Ytjhmkaninmgilaa
open Go Go.RowKit Go.dG Go.Proofs
attribute [local irreducible] TL AT
def uC(w0:Tan):O3:=bodyPost Try.prog Try.f6 (fun e b=>e=.returned (.bool true)/\Kp w0 b)
noncomputable def N4:Code:=.seq (.region 45 Tj false) .ret
noncomputable def HW:Code:=.seq (.region 10 NC false) (.block 2 (.loop (.seq (.seq (.region 11 NB false) (.cond (.tmp 63) .skip (.exit 2))) (.seq (.block 3 Hp) (.region 12 Js false)))))
section
variable{w:Tan}{S:bG}{ls:Tah}{A:Tap Addr}{cap:Nat}{a:Act}
def RA{w5:Tan}{C:bG}{EY:Ow}{b:Nat}{n:Tap Addr}(E:Wf w S (fun _=>none))(u:bB LG ax w S (fun _=>none) w5 C EY)(z:iA w5 C EY b Qm)(hr:bV w S (.slice A ls.length cap) (.list ls))(U:ls≠[]->Dr w (fun _=>none) A)(hh:∀d∈ls,Has rA d)(i:bV w5 C (.slice n oq.length oq.length) (.list oq))(j:Dr w5 EY n)(k:Kn 227 a ((7,.int .i64 0)::(5,.int .i64 (-1))::(6,.slice n oq.length oq.length)::nM b (.slice A ls.length cap))):(Code.seq HW N4).wp Try.prog (uC w) a w5:=by
 have N:QP (uC w):=jw;have F:mF EY:=(show mF (fun _=>none) from fun _ _ h=>by cases h).O u (fun _ h=>h);unfold HW;unfold nM at k;refine wp_seq (wp_seq (rg ax N ab2 ?_));intro w6 X;have I:=z.W X;have g:bB LG ax w5 C EY w6 C EY:=bB.W X LG ax C EY;have D:=u.eN E z.wf X;have Q:=SX.refl ax w6
 repeat refine sm k fun a k=>?_
 refine av ?_
 refine wp_block (wp_loop_ghost (fun mm a W=>∃(r q:Nat) (B:Int) (m:bG) (iT:Ow) (g1:GS),mm=200-r/\HI (min ls.length 100) r q B g1/\Kn 227 a (uM (r:Int) (q:Int) B (.slice n oq.length oq.length) (.slice A ls.length cap) b)/\bB LG ax w S (fun _=>none) W m iT/\iA W m iT b g1/\mF iT/\GI 5 (36400*(200-r)) (1300*(r:Int)) g1/\bV W m (.slice n oq.length oq.length) (.list oq)/\Dr W iT n) (200-0)
  ⟨0,0,-1,C,EY,Qm,rfl,.inl ⟨by omega,RH.symm,rfl,rfl⟩,k.sb,D,I,F,O8 (by omega),i.O g,j.O g⟩ ?_)
 clear k Q F I D z u g i j;rintro mm a W ⟨r,q,B,m,iT,g1,rfl,hHI,k,GX,Zb,Qj,E7,i,j⟩;have a1:=hHI.le;unfold uM at k;refine wp_seq (wp_seq (fV (n0:=0) ax mix (by exact N) ab1 (by decide) ?_));intro w7 V;have y:=Zb.W V;have f:bB LG ax W m iT w7 m iT:=bB.W V LG ax m iT;have o:=GX.eN E Zb.wf V;have Q:=SX.refl ax w7
 repeat refine sm k fun a k=>?_
 refine cm (c:=true) k rfl rfl (congrArg some (decide_eq_true (by omega))) fun a k=>?_
 repeat refine sm k fun a k=>?_
 refine DB k (by assumption) rfl (by decide) rfl (by kernel_rfl) fun a k=>?_;refine cm (c:=true) k rfl rfl (congrArg some (decide_eq_true (by show(q:Int)<=((oq.length:Nat):Int);have:oq.length=4:=rfl;omega))) fun a k=>?_;refine pk (c:=true) (v:=.bool true) k rfl rfl fun a k=>?_;refine av (bw k rfl (wp_skip ?_));have k:=k.sb (l:=uM (r:Int) (q:Int) B (.slice n oq.length oq.length) (.slice A ls.length cap) b);have H:GI 5 (36400*(199-r)+36400) (1300*(r:Int)) g1:=E7.le (by omega) (aJ _);refine wp_seq (wp_block (PK (L:=36400*(199-r)) (by exact N) y Qj H (by omega) hHI (i.O f) (j.O f) (hr.O o) (fun e=>(U e).O o) hh rfl k ?_ ?_))
 .intro a W1 W2 S' a0 k st kp;have t:=jl E y.wf o st nE;exact(rQ (P:=Try.prog) (R:=fun e w'=>e=.returned (.bool true)/\Kp w w') afY k rfl ⟨rfl,(Kp.of t).trans kp⟩).1
 intro a W2 O Ce g2 q2 Y k x J T G K;have t:=jl E y.wf o x nE
 have M:(Code.region 12 Js false).wp Try.prog (Exit.then (fun a W=>∃n',n'<200-r/\∃(r q:Nat) (B:Int) (m:bG) (iT:Ow) (g1:GS),n'=200-r/\HI (min ls.length 100) r q B g1/\Kn 227 a (uM (r:Int) (q:Int) B (.slice n oq.length oq.length) (.slice A ls.length cap) b)/\bB LG ax w S (fun _=>none) W m iT/\iA W m iT b g1/\mF iT/\GI 5 (36400*(200-r)) (1300*(r:Int)) g1/\bV W m (.slice n oq.length oq.length) (.list oq)/\Dr W iT n) (Exit.inBlock 2 (Exit.then (fun a W=>N4.wp Try.prog (uC w) a W) (uC w)))) a W2:=by
  unfold uM at k;refine fV (n0:=0) ax mix (by exact N) ab0 (by decide) ?_;intro Z e9;have Q:=SX.refl ax Z;have p:bB LG ax W2 O Ce Z O Ce:=bB.W e9 LG ax O Ce
  repeat refine sm k fun a k=>?_
  refine iK (s:=((r+1:Nat):Int)) k (by assumption) rfl (by decide) rfl rfl (wrap64 (by omega) (by omega)) fun a k=>?_
  repeat refine sm k fun a k=>?_
  refine av ⟨200-(r+1),by omega,r+1,q2,Y,O,Ce,g2,rfl,K,k.sb,t.eN E J.wf e9,J.W e9,T,G.le (by omega) (by omega),((i.O f).O x).O p,((j.O f).O x).O p⟩
 exact⟨M,M⟩
def RD(c:Wf w S (fun _=>none))(U:bV w S (.slice A ls.length cap) (.list ls))(hh:Has (.list rA) (.list ls))(k:Kn 227 a [(0,.slice A ls.length cap)]):(cA Try.f6).wp Try.prog (uC w) a w:=by
 have i:QP (uC w):=jw;have g:∀d∈ls,Has rA d:=mQ hh
 have M:ls≠[]->Dr w (fun _=>none) A:=by intro J ad e;have W:0<ls.length:=eX.2 J;have v:rA.cells.length=76:=rfl;obtain⟨bm,a1,a0,us,hv,V,-,-,-⟩:=U.Fs (j:=0) (aR W) (g _ (aF W)) (by rw[v];omega);injection hv with hA _ _;rw[hA]at e;injection e with e;subst e;rw[v]at V;exact⟨c.s _ _ V,rfl⟩
 rw[Oc];show(Code.seq (.region 0 We false) (.seq (.region 1 Wd false) (.seq (.region 2 Qx false) (.seq HP (.seq (.region 7 V9 false) (.seq (.region 8 Qv false) (.seq (.region 9 V8 false) (.seq HW N4)))))))).wp Try.prog (uC w) a w;refine wp_seq (fV (n0:=0) ax mix (by exact i) agl (by decide) ?_);intro R Z;have p:=c.W Z;have H:bB LG ax w S (fun _=>none) R S (fun _=>none):=bB.W Z LG ax S _;have m:=SX.refl ax R
 repeat refine sm k fun a k=>?_
 refine av ?_;have k:=k.sb (l:=[(2,.bool false),(0,.slice A ls.length cap)]);clear m;refine wp_seq (fV (n0:=0) ax mix (by exact i) agk (by decide) ?_);intro Q Y;have o:=p.W Y;have G:=H.eN c p Y;have m:=SX.refl ax Q;refine iB (vs:=[.int .i64 ((3+2:Nat):Int),.int .i64 (3:Nat)]) k (by decide) rfl (by decide) OX rfl (yF (n:=3) (l:=2) o (by decide) (by decide)) ?_;rintro e w5 ⟨b,S5,EY,rfl,uV,Ql⟩;have T:SX ax Q w5:=⟨uV.size,fun bb hb hx=>uV.free bb hb rfl (fun h=>h)⟩;refine⟨_,rfl,fun _=>T,fun a k=>?_⟩
 repeat refine sm k fun a k=>?_
 refine av ?_;have C:=jl c o G uV nE;have k:=k.sb (l:=nM b (.slice A ls.length cap));clear m T uV;refine wp_seq (PL (by exact i) Ql k ?_);intro a w6 S6 k F u;have B:=jl c Ql.wf C F nE;refine wp_seq (Ya (by exact i) u k ?_);intro a w7 S7 ow7 k E t;have rb:=jl c u.wf B E nE;unfold nM at k;refine wp_seq (fV (n0:=0) ax mix (by exact i) agd (by decide) ?_);intro w8 X;have r:=t.W X;have z:=rb.eN c t.wf X;have m:=SX.refl ax w8
 repeat refine sm k fun a k=>?_
 refine av ?_;clear m;have k5:Kn 227 a ((5,.int .i64 (-1))::nM b (.slice A ls.length cap)):=k.sb;refine wp_seq (PI (by exact i) r k5 ?_);intro a w9 O At k D q I L;have y:=jl c r.wf z D nE;unfold nM at k;refine wp_seq (fV (n0:=0) ax mix (by exact i) agb (by decide) ?_);intro P N;have K:=q.W N;have f:bB LG ax w9 O ow7 P O ow7:=bB.W N LG ax O ow7;have x:=y.eN c q.wf N;have m:=SX.refl ax P
 repeat refine sm k fun a k=>?_
 refine av ?_;exact RA c x K U M g (I.O f) (L.O f) (k.sb)
end
def wm:dI:=⟨[.list rA],[(false,[(.bool,none)])],none⟩
def c6:bn Try.prog 6 wm (fun _=>True) (fun _=>.bool true) where
 enter:=Yh
 calls _ w S vs ds Du hlen Kt Vj _:=by
  obtain⟨r,m,rfl,l,q⟩:=aA.1 Vj;have g:m=[]:=q;subst g
  obtain⟨f,rfl⟩:∃f,vs=[f]:=by
   have p:vs.length=1:=hlen
   match vs,p with
   | [f],_=>exact⟨f,rfl⟩
  have c:=Kt 0 _ _ rfl rfl;obtain⟨ls,rfl,_,_⟩:=bO.1 l;obtain⟨A,cap,rfl⟩:=c.pQ;have n:Wf w S (fun _=>none):=⟨Du,fun _ _ h=>(by cases h),fun _ _ _ _ h=>(by cases h)⟩;refine(lh (R:=fun e i=>e=.returned (.bool true)/\Kp w i) (vs:=[.slice A ls.length cap]) Try.func6 SQ Oc nt6 (by show 1<=227;omega) ?_).mono ?_
  .intro a k;have:=RD n c l (k.sb);rw[Oc]at this;exact this
  rintro e i ⟨rfl,kp⟩;refine⟨.bool true,S,fun _=>.nilIface,rfl,{size:=kp.size,os:=kp.os,tape:=kp.tape,output:=kp.output,block:=kp.Qe},fun _ _ h=>h,fun b o h=>ar (Du b o h) kp.size,fun _ _ h=>.inl h,.inl ⟨_,rfl,?_⟩,fun j b d=>by simp[wm,cJ]at d,fun j k b d=>by simp[wm,cJ]at d,fun j d=>by simp[wm,cJ]at d⟩;unfold fY;simp only[ai,if_false];exact⟨_,rfl,.bool true,dg.2 ⟨true,rfl⟩⟩
 Ad ob h:=by cases h
 Hq ob h:=by cases h
end Go.Proofs.Ytjhmkaninmgilaa
