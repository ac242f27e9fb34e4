/- Part 11 of the proof of RaftOne; no condition. -/
import Derived.Test.YtjhmkaninmgilaaS10
import Derived.Test.YtjhmkaninmgilaaS08
import Derived.Test.YtjhmkaninmgilaaS04
set_option linter.unusedVariables false
set_option linter.unusedSimpArgs false
set_option maxHeartbeats 4000000
open Go.IntKind (i64)
namespace Go.Proofs.Ytjhmkaninmgilaa
open Go Go.RowKit Go.dV Go.Proofs
attribute [local irreducible] TL
section
variable{w w0:World}{S S0:bU}{ow og:Ow}{b i j:Nat}{g g':GS}{R:GR}{Q:Exit→Act→World→Prop}{a:Act}
theorem nw.bu{w1:World}(h:nw w S ow b g)(e:Cn w w1):nw w1 S ow b g:=by obtain⟨R',Fc,h1,h2⟩:=h;exact⟨R',Fc.bu e,h1,h2⟩
theorem nw.wf(h:nw w S ow b g):Wf w S ow:=by obtain⟨_,Fc,_⟩:=h;exact Fc.wf
theorem Lh{dv:List Value}(h:nw w S ow b g)(hn:yj ow)(fY:1≤g.iC.length∧g.iC.length≤5)(h0:dv[0]? =some (.int .i64 6))(h1:dv[1]? =some (.int .i64 0))(cI:AY g.kI {g with kI:=[]}=true):
  Calls Try.prog 10 [bp b,.agg dv.toArray].toArray w (pZ w S ow b (Yv g)):=by
 refine lU Try.func10 Mp VQ akU (by show 2≤359;omega) ?_
 intro a k
 have hQ:=kj (P:=Try.prog) (fn:=Try.f10) (R:=pZ w S ow b (Yv g))
 have iB:=h.wf
 refine wp_seq (rg ax hQ aaO ?_)
 intro w1 e1
 refine uP (us:=dv) k (by decide) rfl (by decide) rfl rfl (fun h=>absurd rfl h) fun a k=> ?_
 refine aJ ?_
 have lY:=iB.bu e1
 have j8:br LG ax w S ow w1 S ow:=br.bu e1 LG ax S ow
 obtain⟨gI,jn⟩:=br.alloc lY (.cells dv.toArray 51)
 have tE:=iH.new lY 51 dv
 have BF:=j8.ba iB lY gI (fun _ h=>h.elim)
 have AV:nw (w1.alloc (.cells dv.toArray 51)) S ow b g:=by obtain⟨R',Fc,h1,h2⟩:=h.bu e1;exact⟨R',Fc.bw gI jn,h1,h2⟩
 generalize hb3:w1.heap.size=b3 at k tE
 generalize w1.alloc _=w2 at AV tE BF jn⊢
 have k:=k.sub (l:=[(3,.pointer (some ⟨b3,0,none⟩)),(0,bp b)]) ⟨rfl,rfl,trivial⟩
 clear gI j8 lY e1
 refine wp_seq (lR (n0:=7) ax mix (fun c a d v w h=>hQ c a d v w h) aaN (fun _=>by kernel_rfl) ?_)
 intro w3 e3
 have tD:=tE.bu e3
 obtain⟨R,iV,j6,me⟩:=AV.bu e3
 have iQ:=BF.ba iB jn (br.bu e3 ax ax S ow) (fun _ h=>h.elim)
 have s0:=SX.refl ax w3
 obtain⟨Al,Yz,E5⟩:=iV.arr.slice
 have FZ:(R.la.map bp).length=g.iC.length:=by rw[aw,j6];exact iV.vI
 repeat refine sm k fun a k=> ?_
 refine ld k (tD.cell (fun h=>h) h1) fun a k=> ?_
 repeat refine sm k fun a k=> ?_
 refine ld k (iV.cell (fun h=>h) (j:=2) rfl) fun a k=> ?_
 rw[E5,FZ]at k
 refine Ml k (by assumption) rfl (by decide) rfl (by kernel_rfl) fun a k=> ?_
 refine j3 (vs:=[.int .i64 0,.int .i64 (g.iC.length:Int)]) k (by decide) rfl (by decide) c8.enter rfl (wx iV.wf (by decide) ⟨by have:i64.min= -9223372036854775808:=rfl;omega,by have:i64.max=9223372036854775807:=rfl;omega⟩ (by omega)) ?_
 rintro e w4 ⟨rfl,jX,tU⟩
 have s4:=jX.I8 ax
 refine⟨_,rfl,fun _=>s4,fun a k=> ?_⟩
 repeat refine sm k fun a k=> ?_
 refine aJ ?_
 have zU:=tD.bw jX (fun h=>h)
 have LJ:nw w4 S ow b g:=⟨R,iV.bw jX tU,j6,me⟩
 have EX:=iQ.ba iB iV.wf jX (fun _ h=>h.elim)
 have k:=k.sub (l:=[(3,.pointer (some ⟨b3,0,none⟩)),(0,bp b)]) ⟨rfl,rfl,trivial⟩
 clear jX s4 s0 iQ iV e3 AV tD tE BF jn
 refine wp_seq (rg ax hQ aaM ?_)
 intro w5 e5
 have FQ:=zU.bu e5
 have Js:=LJ.bu e5
 have mw:=EX.ba iB tU (br.bu e5 ax ax S ow) (fun _ h=>h.elim)
 have s0:=SX.refl ax w5
 repeat (first|refine sm k fun a k=> ?_|refine ld k (FQ.cell (fun h=>h) h0) fun a k=> ?_)
 refine j3 (vs:=[.int .i64 6,.int .i64 12]) k (by decide) rfl (by decide) c8.enter rfl (wx Js.wf (by decide) (by decide) (by decide)) ?_
 rintro e w6 ⟨rfl,mL,zM⟩
 refine⟨_,rfl,fun h=>absurd rfl h,fun a k=> ?_⟩
 refine aJ ?_
 have hg6:nw w6 S ow b g:=by obtain⟨R',Fc,h1,h2⟩:=Js;exact⟨R',Fc.bw mL zM,h1,h2⟩
 have G6:=mw.ba iB Js.wf mL (fun _ h=>h.elim)
 rw[show yD 6 12=6 from by decide]at k
 have k:=k.sub (l:=[(32,.int .i64 6),(0,bp b)]) ⟨rfl,rfl,trivial⟩
 clear mL s0 mw Js FQ e5 LJ zU EX tU
 refine wp_block (wp_seq (wp_seq (rg ax hQ aaL ?_)))
 intro w7 e7
 have XO:=hg6.bu e7
 have pR:=G6.ba iB zM (br.bu e7 ax ax S ow) (fun _ h=>h.elim)
 have s0:=SX.refl ax w7
 refine cm (c:=false) k rfl rfl rfl fun a k=> ?_
 refine sm k fun a k=> ?_
 refine aJ (bz k rfl ?_)
 have k:=k.sub (l:=[(32,.int .i64 6),(0,bp b)]) ⟨rfl,rfl,trivial⟩
 refine rg ax hQ aaK ?_
 intro w8 e8
 have hg8:=XO.bu e8
 have uh:=pR.ba iB XO.wf (br.bu e8 ax ax S ow) (fun _ h=>h.elim)
 have s0:=SX.refl ax w8
 refine cm (c:=false) k rfl rfl rfl fun a k=> ?_
 refine sm k fun a k=> ?_
 refine aJ (bz k rfl ?_)
 have k:=k.sub (l:=[(32,.int .i64 6),(0,bp b)]) ⟨rfl,rfl,trivial⟩
 refine wp_seq (rg ax hQ aaJ ?_)
 intro w9 e9
 have hg9:=hg8.bu e9
 have Lw:=uh.ba iB hg8.wf (br.bu e9 ax ax S ow) (fun _ h=>h.elim)
 have s0:=SX.refl ax w9
 refine cm (c:=false) k rfl rfl rfl fun a k=> ?_
 refine sm k fun a k=> ?_
 refine aJ (bz k rfl ?_)
 have k:=k.sub (l:=[(32,.int .i64 6),(0,bp b)]) ⟨rfl,rfl,trivial⟩
 refine wp_seq (wp_seq (rg ax hQ Ve ?_))
 intro wa ea
 have hga:=hg9.bu ea
 have FO:=Lw.ba iB hg9.wf (br.bu ea ax ax S ow) (fun _ h=>h.elim)
 have s0:=SX.refl ax wa
 refine cm (c:=false) k rfl rfl rfl fun a k=> ?_
 refine sm k fun a k=> ?_
 refine aJ (bz k rfl ?_)
 have k:=k.sub (l:=[(32,.int .i64 6),(0,bp b)]) ⟨rfl,rfl,trivial⟩
 refine wp_seq (rg ax hQ Vd ?_)
 intro wb eb
 have jq:=hga.bu eb
 have Lv:=FO.ba iB hga.wf (br.bu eb ax ax S ow) (fun _ h=>h.elim)
 have s0:=SX.refl ax wb
 refine cm (c:=false) k rfl rfl rfl fun a k=> ?_
 refine sm k fun a k=> ?_
 refine aJ (bz k rfl ?_)
 have k:=k.sub (l:=[(32,.int .i64 6),(0,bp b)]) ⟨rfl,rfl,trivial⟩
 refine rg ax hQ Vc ?_
 intro wc ec
 have PQ:=jq.bu ec
 have RC:=Lv.ba iB jq.wf (br.bu ec ax ax S ow) (fun _ h=>h.elim)
 have s0:=SX.refl ax wc
 refine cm (c:=false) k rfl rfl rfl fun a k=> ?_
 refine sm k fun a k=> ?_
 refine aJ (bz k rfl ?_)
 have k:=k.sub (l:=[(32,.int .i64 6),(0,bp b)]) ⟨rfl,rfl,trivial⟩
 refine wp_seq (rg ax hQ Vb ?_)
 intro wd ed
 have E3:=PQ.bu ed
 have Xs:=RC.ba iB PQ.wf (br.bu ed ax ax S ow) (fun _ h=>h.elim)
 have s0:=SX.refl ax wd
 refine cm (c:=true) k rfl rfl rfl fun a k=> ?_
 refine sm k fun a k=> ?_
 refine aJ (bz k rfl ?_)
 refine VZ (fun c a d v w h=>hQ c a d v w h) E3 hn cI (k.sub ⟨rfl,trivial⟩) ?_
 intro a we Se owe k WY ou
 exact(nU aaG k ⟨Se,owe,rfl,o5 iB E3.wf Xs WY (fun _ h=>h.elim),ou⟩).2
end
def gT:Nat→GS
 |0=>gB 3 3
 |n+1=>qH 0 0 (gT n)
def gD:Nat→GS
 |0=>gT 10
 |n+1=>Yv (gD n)
theorem aoL:((List.range 10).all fun n=>Ao 0 0 (gT n))=true:=by decide+kernel
theorem aoN:((List.range 4).all fun n=>AY (gD n).kI {gD n with kI:=[]}&&decide (1≤(gD n).iC.length)&&decide ((gD n).iC.length≤5))=true:=by decide+kernel
theorem ag9:(0<(gD 4).iC.length∧okS (ka (gD 4) 0) 0=true)∧(ka (gD 4) 0).role=2∧(ka (gD 4) 0).aZ=1∧(ka (gD 4) 0).term=1∧(gD 4).bad=false:=by decide+kernel
noncomputable def abQ:List Value:=((Try.prog.built 51 [(0,.int .i64 6)]).getD #[]).toList
section
variable{w w0:World}{S S0:bU}{ow og:Ow}{b i j:Nat}{g g':GS}{R:GR}{Q:Exit→Act→World→Prop}{a:Act}
def pM(w:World)(S:bU):Exit→Act→World→Prop:=bodyPost Try.prog Try.f13 (fun e w'=> ∃S' bX,e= .returned (.bool true)∧br LG ax w S (fun _=>none) w' S' bX)
noncomputable def aeJ:Code:=.seq (.region 10 MG false) (.seq (.region 11 MF false) .ret)
theorem Q2(gO:Wf w0 S0 (fun _=>none))(st:br LG ax w0 S0 (fun _=>none) w S ow)(h:nw w S ow b (gD 4))(k:Kn 54 a [(1,bp b)]):aeJ.wp Try.prog (pM w0 S0) a w:=by
 have hQ:QP (pM w0 S0):=kj
 obtain⟨⟨hi,cI⟩,yI,afr,Ul,C5⟩:=ag9
 have hx:=y9 hi
 generalize gD 4=g at h hi cI yI afr Ul C5 hx
 generalize ka g 0=x at cI yI afr Ul hx
 obtain⟨R,gm,j6,me⟩:=h
 rw[C5]at gm
 unfold aeJ
 refine wp_seq (rg ax hQ af5 ?_)
 intro w1 e1
 have eZ:=gm.bu e1
 have s0:=SX.refl ax w1
 repeat (first|refine sm k fun a k=> ?_|refine ld k (eZ.cell (fun h=>h) rfl) fun a k=> ?_)
 obtain⟨bs,Cj,fX,jA⟩:=eZ.iC 0 x hx
 obtain⟨bl,cap,E5,FX,mM,jY⟩:=eZ.arr.elem (i:=0) (u:=bp bs) (by rw[j6,ah,Cj];rfl)
 have FZ:(R.la.map bp).length=g.iC.length:=by rw[aw,j6];exact eZ.vI
 rw[E5]at k
 refine Mm (el:=52) (sz:=1) (s:=0) k (by assumption) rfl (by decide) rfl rfl (by kernel_rfl) (by kernel_rfl) (by rw[FZ];exact hi) fun a k=> ?_
 refine qD (v:=bp bs) k (by assumption) rfl (by decide) rfl (by kernel_rfl) (by kernel_rfl) (gf FX (fun h=>h) (by rw[cd];exact jY)) fun a k=> ?_
 refine j3 (vs:=[bp bs]) k (by decide) rfl (by decide) c12.enter rfl (vj fX eZ.wf (Ap cI)) ?_
 rintro e w2 ⟨A1,n1,c1,A2,n2,c2,rfl,-,gI,jn⟩
 refine⟨_,rfl,fun _=>gI.I8 _,fun a k=> ?_⟩
 have jB:=eZ.bw gI jn
 have s1:=gI.I8 ax
 refine oO (nn:=9) k (by decide) rfl (by decide) (by kernel_rfl) (fun zs _=>s1.trans (SX.alloc _ _ _)) fun zs yl a k=> ?_
 refine pX (vs:=RD x (.slice A1 n1 c1) (.slice A2 n2 c2)) k (by decide) rfl (by kernel_rfl) rfl rfl rfl (heap_alloc_new w2 _) (by show 0+9≤zs.toArray.size;rw[cS];omega) (by simp[RD,Value.oneCell']) (fun h=>absurd rfl h) fun a k=> ?_
 refine aJ ?_
 have zX:(RD x (.slice A1 n1 c1) (.slice A2 n2 c2)).length=9:=rfl
 rw[fill_eq yl zX]
 obtain⟨iQ,tG,EY⟩:=ql (T:=67) (zs:=zs) (us:=RD x (.slice A1 n1 c1) (.slice A2 n2 c2)) jn
 have iV:=jB.bw iQ tG
 have j8:=st.ba gO gm.wf (br.bu e1 ax ax S ow) (fun _ h=>h.elim)
 have BF:=j8.ba gO eZ.wf gI (fun _ h=>h.elim)
 have EX:=BF.ba gO jn iQ (fun bb hb=>by rw[show bb=_ from hb];exact BF.size)
 generalize hb4:w2.heap.size=b4 at k EY iV EX⊢
 generalize hW:(w2.alloc _).setRow b4 _=W at EY iV EX⊢
 have k:=k.sub (l:=[(4,.pointer (some ⟨b4,0,none⟩)),(1,bp b)]) ⟨rfl,rfl,trivial⟩
 clear iQ tG s0 s1
 refine wp_seq (rg ax hQ af4 ?_)
 intro w4 e4
 have mh:=iV.bu e4
 have ui:=EY.bu e4
 have jX:=EX.ba gO iV.wf (br.bu e4 ax ax S ow) (fun _ h=>h.elim)
 have s0:=SX.refl ax w4
 have l0:=ui.cell (X:=ax) (fun h=>h) (j:=0) (v:=.int .i64 x.role) rfl
 have l2:=ui.cell (X:=ax) (fun h=>h) (j:=2) (v:=.int .i64 x.term) rfl
 have l4:=ui.cell (X:=ax) (fun h=>h) (j:=4) (v:=.int .i64 x.aZ) rfl
 rw[yI]at l0
 rw[Ul]at l2
 rw[afr]at l4
 repeat (first|refine sm k fun a k=> ?_|refine ld k (l0) fun a k=> ?_)
 refine cm (c:=true) k rfl rfl rfl fun a k=> ?_
 repeat (first|refine sm k fun a k=> ?_|refine ld k (l4) fun a k=> ?_)
 refine cm (c:=true) k rfl rfl rfl fun a k=> ?_
 refine pk k rfl rfl fun a k=> ?_
 repeat (first|refine sm k fun a k=> ?_|refine ld k (l2) fun a k=> ?_)
 refine cm (c:=true) k rfl rfl rfl fun a k=> ?_
 refine pk k rfl rfl fun a k=> ?_
 repeat (first|refine sm k fun a k=> ?_|refine ld k (mh.cell (fun h=>h) rfl) fun a k=> ?_)
 refine uO k (by assumption) rfl (by decide) rfl fun a k=> ?_
 refine pk k rfl rfl fun a k=> ?_
 repeat refine sm k fun a k=> ?_
 exact aJ (wp_ret (uX amn k rfl ⟨S,ow,rfl,jX⟩).1)
noncomputable def akX:Code:=.seq (.seq (.region 6 Uh false) (.block 2 (.loop (.seq (.seq (.region 7 Ug false) (.cond (.tmp 20) .skip (.exit 2))) (.seq (.block 3 (.region 9 Ue false)) (.region 8 Uf false)))))) aeJ
theorem Q1(gO:Wf w0 S0 (fun _=>none))(st:br LG ax w0 S0 (fun _=>none) w S ow)(h:nw w S ow b (gT 10))(k:Kn 54 a [(1,bp b)]):akX.wp Try.prog (pM w0 S0) a w:=by
 have hQ:QP (pM w0 S0):=kj
 unfold akX
 refine wp_seq (wp_seq (rg ax hQ ank ?_))
 intro w1 e1
 have s0:=SX.refl ax w1
 repeat refine sm k fun a k=> ?_
 refine aJ ?_
 refine wp_block (wp_loop_ghost (fun mm a W=> ∃(j:Nat) (S1:bU) (fE:Ow),mm=4-j∧j≤4∧Kn 54 a [(3,.int .i64 (j:Int)),(1,bp b)] ∧br LG ax w0 S0 (fun _=>none) W S1 fE∧nw W S1 fE b (gD j)) (4-0)
  ⟨0,S,ow,rfl,by omega,k.sub ⟨rfl,rfl,trivial⟩,st.ba gO h.wf (br.bu e1 ax ax S ow) (fun _ h=>h.elim),h.bu e1⟩ ?_)
 clear k s0 e1 w1 h st
 rintro mm a W ⟨j,S1,fE,rfl,hj,k,st,h⟩
 refine wp_seq (wp_seq (rg ax hQ anj ?_))
 intro w2 e2
 have h2:=h.bu e2
 have gI:=st.ba gO h.wf (br.bu e2 ax ax S1 fE) (fun _ h=>h.elim)
 have s0:=SX.refl ax w2
 repeat refine sm k fun a k=> ?_
 refine cm (c:=decide ((j:Int)<4)) k rfl rfl rfl fun a k=> ?_
 refine aJ (bz k rfl ?_)
 have k:=k.sub (l:=[(3,.int .i64 (j:Int)),(1,bp b)]) ⟨rfl,rfl,trivial⟩
 by_cases bP:(j:Int)<4
 ·rw[if_pos (by simpa using bP)]
  refine wp_skip ?_
  have hd:=cn.1 aoN j (cW.2 (by omega))
  simp only[bc,bQ]at hd
  obtain⟨⟨hd1,hd2⟩,hd3⟩:=hd
  refine wp_seq (wp_block (rg ax hQ anh ?_))
  intro w3 e3
  have h3:=h2.bu e3
  have iQ:=gI.ba gO h2.wf (br.bu e3 ax ax S1 fE) (fun _ h=>h.elim)
  have s0:=SX.refl ax w3
  repeat refine sm k fun a k=> ?_
  refine p9 (ps:=[(0,.int .i64 6)]) (vs:=abQ) k (by assumption) rfl (by decide) rfl (by kernel_rfl) fun a k=> ?_
  refine j3 (vs:=[bp b,.agg abQ.toArray]) k (by decide) rfl (by decide) Pn rfl (Lh h3 (fun bb l hl=>(iQ.jD bb l hl).elim (fun e=>by cases e) id) ⟨hd2,hd3⟩ (by kernel_rfl) (by kernel_rfl) hd1) ?_
  rintro e w4 ⟨S4,Jj,rfl,jX,h4⟩
  refine⟨_,rfl,fun h=>absurd rfl h,fun a k=> ?_⟩
  refine aJ ?_
  have mw:=o5 gO h3.wf iQ jX (fun _ h=>h.elim)
  have k:=k.sub (l:=[(3,.int .i64 (j:Int)),(1,bp b)]) ⟨rfl,rfl,trivial⟩
  refine rg ax hQ ani ?_
  intro w6 e6
  have s0:=SX.refl ax w6
  repeat refine sm k fun a k=> ?_
  refine lI (s:=((j+1:Nat):Int)) k (by assumption) rfl (by decide) rfl rfl (wrap64 (by omega) (by omega)) fun a k=> ?_
  repeat refine sm k fun a k=> ?_
  exact aJ ⟨4-(j+1),by omega,j+1,S4,Jj,rfl,by omega,k.sub ⟨rfl,rfl,trivial⟩,mw.ba gO h4.wf (br.bu e6 ax ax S4 Jj) (fun _ h=>h.elim),h4.bu e6⟩
 ·rw[if_neg (by simpa using bP)]
  refine wp_exit ?_
  have Jr:j=4:=by omega
  subst Jr
  exact Q2 gO gI h2 (k.sub ⟨rfl,trivial⟩)
theorem K7(gO:Wf w0 S0 (fun _=>none)):Calls Try.prog 13 #[] w0 (fun e w'=> ∃S' bX,e= .returned (.bool true)∧br LG ax w0 S0 (fun _=>none) w' S' bX):=by
 refine lU (vs:=[]) Try.func13 U4 ahm auX (by show 0≤54;omega) ?_
 intro a k
 have hQ:QP (pM w0 S0):=kj
 show Code.wp Try.prog _ (pM w0 S0) a w0
 refine wp_seq (rg ax hQ anr ?_)
 intro w1 e1
 have s0:=SX.refl ax w1
 repeat refine sm k fun a k=> ?_
 refine aJ ?_
 have lY:=gO.bu e1
 have j8:br LG ax w0 S0 (fun _=>none) w1 S0 (fun _=>none):=br.bu e1 LG ax S0 _
 refine wp_seq (rg (fun _=>True) hQ anq ?_)
 intro w2 e2
 have jn:=lY.bu e2
 have gI:=j8.ba gO lY (br.bu e2 ax ax S0 _) (fun _ h=>h.elim)
 refine j3 (vs:=[.int .i64 ((3:Nat):Int),.int .i64 ((3:Nat):Int)]) k (by decide) rfl (by decide) VK rfl (By (n:=3) jn (by omega) (by omega)) ?_
 rintro e w3 ⟨b,S3,qo,rfl,iQ,h3⟩
 have s3:SX (fun _=>True) w2 w3:=⟨iQ.size,fun _ _ h=>absurd trivial h⟩
 refine⟨_,rfl,fun _=>s3,fun a k=> ?_⟩
 repeat refine sm k fun a k=> ?_
 refine aJ ?_
 have jX:=o5 gO jn gI iQ (fun _ h=>h.elim)
 have k:=k.sub (l:=[(1,bp b)]) ⟨rfl,trivial⟩
 refine wp_seq (wp_seq (rg ax hQ anp ?_))
 intro w5 e5
 have s0:=SX.refl ax w5
 repeat refine sm k fun a k=> ?_
 refine aJ ?_
 refine wp_block (wp_loop_ghost (fun mm a W=> ∃(j:Nat) (S1:bU) (fE:Ow),mm=10-j∧j≤10∧Kn 54 a [(2,.int .i64 (j:Int)),(1,bp b)] ∧br LG ax w0 S0 (fun _=>none) W S1 fE∧nw W S1 fE b (gT j)) (10-0)
  ⟨0,S3,qo,rfl,by omega,k.sub ⟨rfl,rfl,trivial⟩,jX.ba gO h3.wf (br.bu e5 ax ax S3 qo) (fun _ h=>h.elim),h3.bu e5⟩ ?_)
 clear k s0 e5 w5 jX s3 h3 iQ gI jn e2 j8 lY e1
 rintro mm a W ⟨j,S1,fE,rfl,hj,k,st,h⟩
 refine wp_seq (wp_seq (rg ax hQ ano ?_))
 intro w6 e6
 have h6:=h.bu e6
 have mL:=st.ba gO h.wf (br.bu e6 ax ax S1 fE) (fun _ h=>h.elim)
 have s0:=SX.refl ax w6
 repeat refine sm k fun a k=> ?_
 refine cm (c:=decide ((j:Int)<10)) k rfl rfl rfl fun a k=> ?_
 refine aJ (bz k rfl ?_)
 have k:=k.sub (l:=[(2,.int .i64 (j:Int)),(1,bp b)]) ⟨rfl,rfl,trivial⟩
 by_cases bP:(j:Int)<10
 ·rw[if_pos (by simpa using bP)]
  refine wp_skip ?_
  have hd:=cn.1 aoL j (cW.2 (by omega))
  refine wp_seq (wp_block (NB (fun c a d v w h=>hQ c a d v w h) h6 (fun bb l hl=>(mL.jD bb l hl).elim (fun e=>by cases e) id) hd k ?_))
  intro a w7 S7 Ly k pR h7
  have uh:=o5 gO h6.wf mL pR (fun _ h=>h.elim)
  refine rg ax hQ anm ?_
  intro w8 e8
  have s0:=SX.refl ax w8
  repeat refine sm k fun a k=> ?_
  refine lI (s:=((j+1:Nat):Int)) k (by assumption) rfl (by decide) rfl rfl (wrap64 (by omega) (by omega)) fun a k=> ?_
  repeat refine sm k fun a k=> ?_
  exact aJ ⟨10-(j+1),by omega,j+1,S7,Ly,rfl,by omega,k.sub ⟨rfl,rfl,trivial⟩,uh.ba gO h7.wf (br.bu e8 ax ax S7 Ly) (fun _ h=>h.elim),h7.bu e8⟩
 ·rw[if_neg (by simpa using bP)]
  refine wp_exit ?_
  have Jr:j=10:=by omega
  subst Jr
  exact Q1 gO mL h6 (k.sub ⟨rfl,trivial⟩)
end
theorem GG: ∀{a b:List Ty} {n:Nat} {x:List D},a.length=n→dK (.dJ (a++b)) x→dK (.dJ a) (x.take n)
 | [],b,n,x,hn,h=>by subst hn;exact dr.2 (by simp)
 |t::a,b,n,x,hn,h=>by
  obtain⟨d,r,rfl,h1,h2⟩:=aj.1 h
  subst hn
  rw[bM,gv]
  exact aj.2 ⟨d,_,rfl,h1,GG (b:=b) rfl h2⟩
def abS:List Ty:=[I6,I6,.list (.int .u8)] ++SI++HA
def yL:Ty:=.agg (.dJ abS)
def akW(d:D):D:=.agg ((d.aV.drop 3).take 46)
theorem GO:yL.cells.length=76:=rfl
section
variable{w w0:World}{S S0:bU}{ow og:Ow}{b i j:Nat}{s:RS}{Q:Exit→Act→World→Prop}{a:Act}
theorem EB{d:D}(h:Has yL d):(∃l,d= .agg l∧l.length=76)∧cD 0 d= .int .i64 (cD 0 d).aq∧cD 1 d= .int .i64 (cD 1 d).aq∧oY .i64 (cD 0 d).aq∧oY .i64 (cD 1 d).aq∧Has mj (akW d):=by
 obtain⟨l,rfl,hl⟩:=eN.1 h
 have qY:l.length=76:=by rw[il hl,Ty.fa];rfl
 have lD:dK (.dJ abS) l:=hl
 obtain⟨x0,r0,rfl,⟨n0,rfl,k0⟩,h1⟩:=aj.1 lD
 obtain⟨x1,r1,rfl,⟨n1,rfl,k1⟩,h2⟩:=aj.1 h1
 obtain⟨x2,r2,rfl,_,h3⟩:=aj.1 h2
 refine⟨⟨_,rfl,qY⟩,rfl,rfl,k0,k1,eN.2 ⟨_,rfl,?_⟩⟩
 show dK (.dJ SI) (r2.take 46)
 exact GG (a:=SI) (b:=HA) rfl h3
end
end Go.Proofs.Ytjhmkaninmgilaa
namespace Go.Proofs.Ytjhmkaninmgilaa
open Go Go.RowKit Go.dV Go.Proofs
theorem Ks{C:Nat}{s:RS}{K k:Nat}(h:fy C s K)(hi:Idle s)(hk:k≤K)(h6:k≤65536):Ok s k:=by
 have h1:=h.BR;have h2:=h.nm;have h3:=h.ne;have h4:=h.nv
 refine⟨h.may,h.G9,h.G8,by omega,by omega,by omega,?_,by omega,h.cf,h.cs,h.cl,h.tm,h.tx,h.rd⟩
 rw[hi.com]
 have:=amd h6
 have e:G 65536=274877906944:=by unfold G;rfl
 simp only[gq]
 omega
structure Lone(s:RS)(es:List D):Prop where
 one:One s es
 ncf:yu es
 row:xc es
 last:fA 0 es=1
 term:s.term=1
 vote:s.vote=1
 aZ:s.aZ=es.length
 role:s.role=2
 idle:Idle s
 iZ:s.iZ=[]
theorem Q0{s:RS}{es:List D}{x:D}(h:Lone s es)(hlen:es.length<4194304)(wW:(cD 0 x).aq≠1)(r7:(cD 0 x).aq≠2):
  Lone (cG x s).2 (es++[nE es 1 (aN 27 x [])])∧(cG x s).1.1=nE es 1 (aN 27 x [])∧(cG x s).1.2.1=0∧
   (cG x s).1.2.2= .agg [.bool true,.int .i64 1,.int .i64 1,.list [nE es 1 (aN 27 x [])],.gW,.list [],.list [nE es 1 (aN 27 x [])],.list []] ∧
   uJ 0 (cG x s).1.2.2 false (o6 0 (cG x s).2 (ib s es))=ib (cG x s).2 (es++[nE es 1 (aN 27 x [])]):=by
 refine⟨?_,?_,?_,?_,Rc h.one h.ncf h.row hlen h.term h.vote h.last h.aZ h.role h.idle wW r7⟩
 all_goals rw[vp h.one h.ncf hlen h.term (by decide) (by decide) h.last h.aZ h.role wW r7]
 ·refine⟨⟨h.one.id,h.one.fv,h.one.fl,rfl,rfl,rfl⟩,zk h.ncf r7,GB h.row,wD,h.term,h.vote,?_,h.role,⟨rfl,rfl,rfl,rfl,rfl⟩,rfl⟩
  show(es.length:Int)+1=_
  simp
 ·unfold fj
  dsimp only
  rw[h.term,h.vote,h.idle.Yw,h.idle.snap,h.idle.msgs,h.idle.com,h.iZ]
  rfl
theorem Wj{C:Nat}{s:RS}{es:List D}{x:D}{k:Nat}(h:Lone s es)(cI:fy C s (k+2))(hlen:es.length<4194304)(wW:(cD 0 x).aq≠1)(r7:(cD 0 x).aq≠2):fy C (cG x s).2 k:=by
 have c0:(cD 0 (aN 27 x [])).aq=(cD 0 x).aq:=rfl
 have h1:fy C (wS (aN 27 x []) s).2 (k+1):=fy.put (k:=k+1) cI (fun hq=>absurd (c0.symm.trans hq) r7)
 have h2:fy C (fj (ji (wS (aN 27 x []) s).2)).2 k:=(fy.agree h1).done
 have He:MX=1099511627776:=rfl
 have he:(cG x s).2=(fj (ji (wS (aN 27 x []) s).2)).2:=by
  rw[vp h.one h.ncf hlen h.term (by decide) (by decide) h.last h.aZ h.role wW r7,Ij h.one h.term (by decide) (by decide) (by rw[h.last];decide) (by omega)]
  have ho:One ({s with save:=true,li:=0,lt:=0,le:=es++[nE es 1 (aN 27 x [])],dS:=s.dS++[nE es 1 (aN 27 x [])]}:RS) (es++[nE es 1 (aN 27 x [])]):=⟨h.one.id,h.one.fv,h.one.fl,rfl,rfl,rfl⟩
  have lD:(es++[nE es 1 (aN 27 x [])]).length=es.length+1:=by simp
  rw[AP ho (zk h.ncf (by rw[c0];exact r7)) (by omega) (by show 0≤s.aZ;rw[h.aZ];omega) (by show s.aZ<_;rw[lD,h.aZ];omega) (by rw[wD];exact h.term.symm)]
  have hd:(es++[nE es 1 (aN 27 x [])]).drop s.aZ.toNat=[nE es 1 (aN 27 x [])] :=by
   rw[h.aZ,cE,List.drop_append_of_le_length (bn _),List.drop_length];rfl
  dsimp only
  rw[hd,lD]
  rfl
 rw[he];exact h2
structure HC(s:RS)(es:List D)(j:Int):Prop where
 one:One s es
 term:s.term=1
 vote:s.vote=1
 role:s.role=0
 aZ:s.aZ=0
 wait:s.wait=j
 end_ : s.end_ = if j = 0 then 0 else 10
 idle:Idle s
 iZ:s.iZ=[]
theorem WC(es:List D):HC (sq 1 [.int .i64 1] [] 1 1 es) es 0:=⟨⟨rfl,rfl,rfl,rfl,rfl,rfl⟩,rfl,rfl,rfl,rfl,rfl,rfl,⟨rfl,rfl,rfl,rfl,rfl⟩,rfl⟩
theorem Rg{s:RS}{es:List D}{j:Int}(h:HC s es j)(h0:0≤j)(h9:j<9):
  HC (fW 0 s).2 es (j+1)∧(fW 0 s).1= .agg [.bool false,.int .i64 1,.int .i64 1,.list [],.gW,.list [],.list [],.list []] ∧qH 0 0 (ib s es)=ib (fW 0 s).2 es:=by
 have ht:fW 0 s=fj {s with wait:=j+1,end_:=10}:=Gi h.role h.wait h0 h9 h.end_
 have ho:(fW 0 s).1= .agg [.bool false,.int .i64 1,.int .i64 1,.list [],.gW,.list [],.list [],.list []] :=by
  rw[ht]
  unfold fj
  dsimp only
  rw[h.idle.save,h.term,h.vote,h.idle.Yw,h.idle.snap,h.idle.msgs,h.idle.com,h.iZ]
 have hf:HC (fW 0 s).2 es (j+1):=by
  rw[ht]
  exact⟨⟨h.one.id,h.one.fv,h.one.fl,h.one.li,h.one.lt,h.one.le⟩,h.term,h.vote,h.role,h.aZ,rfl,by rw[if_neg (by omega)];rfl,⟨rfl,rfl,rfl,rfl,rfl⟩,rfl⟩
 refine⟨hf,ho,?_⟩
 unfold qH
 rw[show ka (ib s es) 0=s from rfl,ho]
 exact D1 hf.term hf.vote
theorem Rh{s:RS}{es:List D}(h:HC s es 9)(hn:yu es)(Af:xc es)(hlen:es.length<4194304)(hl:fA 0 es=1):
  ∃e,(fW 0 s).2.role=2∧(fW 0 s).1= .agg [.bool true,.int .i64 2,.int .i64 1,.list [e],.gW,.list [],.list (es++[e]),.list []] ∧(qH 0 0 (ib s es)).bad=false∧(qH 0 0 (ib s es)).iC=[(fW 0 s).2] ∧xc (es++[e]):=by
 have He:MX=1099511627776:=rfl
 have ht:=Qt (T:=1) h.one hn (by omega) h.role h.wait h.end_ h.term (by decide) (by decide)
 have Xe:One ({s with wait:=0,end_:=0,save:=true,term:=1+1,vote:=1,role:=1,bR:=0,bJ:=[.int .i64 1]}:RS) es:=⟨h.one.id,h.one.fv,h.one.fl,h.one.li,h.one.lt,h.one.le⟩
 obtain⟨hL,hE⟩:=Wn (T:=2) Xe hn hlen rfl (by decide) (by decide) (by omega) (by show 0≤s.aZ;rw[h.aZ];decide) (by show s.aZ≤_;rw[h.aZ];omega)
 generalize he:nE es 2 (aN 27 JQ [(0,D.int .i64 1)])=e at hL hE
 have abr:xc (es++[e]):=by rw[←he];exact GB Af
 generalize tL _=L at ht hL hE
 have ye:(fW 0 s).2=(fj L).2:=by rw[ht]
 have ho:(fW 0 s).1= .agg [.bool true,.int .i64 2,.int .i64 1,.list [e],.gW,.list [],.list (es++[e]),.list []] :=by
  rw[ht]
  unfold fj
  dsimp only
  rw[hL.save,hL.term,hL.vote,hE,hL.jG,hL.msgs,hL.cb,hL.iZ]
  dsimp only
  rw[h.idle.Yw,h.idle.snap,h.idle.msgs,h.idle.com,h.iZ,h.aZ]
  rfl
 have Hf:(cD 0 e).aq=(es.length:Int)+1:=abr es.length e (by rw[aF (bn _),Nat.sub_self];rfl)
 have E0:(fW 0 s).2.role=2:=by rw[ye];exact hL.role
 have hT':(fW 0 s).2.term=2:=by rw[ye];exact hL.term
 have pn:(fW 0 s).2.vote=1:=by rw[ye];exact hL.vote
 have hg: ∃sv,qH 0 0 (ib s es)=ph 0 {ib (fW 0 s).2 es with saved:=sv,told:=kS::(es++[e])}:=by
  unfold qH
  rw[show ka (ib s es) 0=s from rfl,ho]
  generalize (fW 0 s).2=s'
  generalize XH:D.agg [.bool true,.int .i64 2,.int .i64 1,.list [e],.gW,.list [],.list (es++[e]),.list []] =o
  refine⟨(p6 0 o (o6 0 s' (ib s es))).saved,?_⟩
  unfold uJ
  rw[show(cD 0 o).gV=true by subst XH;rfl,if_pos rfl,show(cD 6 o).aV=es++[e] by subst XH;rfl]
  have h1:p6 0 o (o6 0 s' (ib s es))={ib s' es with saved:=(p6 0 o (o6 0 s' (ib s es))).saved}:=rfl
  generalize (p6 0 o (o6 0 s' (ib s es))).saved=sv at h1⊢
  rw[h1]
  have h2: ∀g:GS,g.kI=[] →C6 o false g=g:=by
   intro g hg
   unfold C6
   rw[if_pos ⟨by rw[hg];decide,rfl⟩,show(cD 5 o).aV=[] by subst XH;rfl,cQ]
  rw[h2 _ rfl]
  have h3:lJ (es++[e]) ({ib s' es with saved:=sv}:GS)=p5 e (lJ es ({ib s' es with saved:=sv}:GS)):=by
   unfold lJ
   rw[List.foldl_append]
   rfl
  rw[h3,El es 1 _ (fun i x hx=>⟨by show(kS::es)[1+i]? =some x;rw[Nat.add_comm];exact hx,by rw[Af i x hx];omega⟩),Kh (es:=es) Hf rfl]
 obtain⟨sv,hg⟩:=hg
 refine⟨e,E0,ho,?_,?_,abr⟩
 all_goals
  rw[hg]
  generalize (fW 0 s).2=s' at E0 hT' pn⊢
  unfold ph
  dsimp only
  rw[show ka ({ib s' es with saved:=sv,told:=kS::(es++[e])}:GS) 0=s' from rfl,if_neg (by rw[hT'];exact(by decide: ¬((2:Int)<sr [.int .i64 1] 0∨(5000:Int)<2))),if_pos E0]
  unfold Dp rq
  dsimp only
  first|rfl|(rw[hT',pn];rfl)
attribute [local irreducible] TL
section
variable{w w':World}{S S':bU}{ow bX:Ow}{b i:Nat}{g:GS}{R:GR}{vs:List Value}{X:Nat→Prop}{Q:Exit→Act→World→Prop}{a:Act}
theorem GM.agX{bs:Nat}{s':RS}(h:GM w S ow b vs R g)(st:br (kG (1000+i)) X w S ow w' S' bX)(hw:Wf w' S' bX)(hi:i<g.iC.length)(ho:mP w' S' bX (1000+i) (ew 0) bs [cR s',cL s'])(jA:dK (.dJ fq) (encS s'))(hv:g.bJ.length≤5):
  GM w' S' bX b vs {R with lb:=R.lb.set i bs} {g with iC:=g.iC.set i s'} where
 wf:=hw
 obj:=h.obj.bw st cB
 fv:=h.fv.bw st
 fl:=h.fl.bw st
 arr:=h.arr.bw h.wf st cB
 vI:=by rw[bE,bE];exact h.vI
 iC:=fun j s hj=>by
  have hlb:i<R.lb.length:=by rw[h.vI];exact hi
  rw[cT]at hj
  by_cases yp:i=j
  ·subst yp
   rw[if_pos rfl,if_pos hi]at hj
   injection hj with hj
   subst hj
   exact⟨bs,by rw[cT,if_pos rfl,if_pos hlb],ho,jA⟩
  ·rw[if_neg yp]at hj
   obtain⟨b2,h1,h2,h3⟩:=h.iC j s hj
   exact⟨b2,by rw[cT,if_neg yp];exact h1,h2.bw h.wf hw st cB rfl,h3⟩
 saved:=h.saved.bw h.wf st cB
 kI:=h.kI.bw h.wf st cB
 told:=h.told.bw h.wf st cB
 bR:=h.bR.bw h.wf st cB
 dL:=h.dL.bw h.wf st cB
 read:=h.read.bw h.wf st cB
 EW:=h.EW.bw h.wf st cB
 AQ:=h.AQ
 q8:=fun j l hj=>let ⟨v,h1,h2⟩:=h.q8 j l hj;⟨v,h1,h2.bw h.wf st (by have h9:j<g.bJ.length:=(aH.1 hj).1;simp only[kG];omega)⟩
theorem pd{id d1 d2:Nat}{c n:Int}{r:Bool}{ops:Array Oper}{m:List (Nat×Value)}{Q':Exit→Act→World→Prop}(hQ:QP Q)(hl:b8 ops=[(some d1,.binOp .eql 3 (.tmp 32) (.const (.int .i64 c)) 3,none),(some d2,.assign (.tmp d1),none)])(k:Kn 359 a m)(hm:lk m 32=some (.int .i64 n))(hr:(n==c)=r)(hd1:d1<359)(hd2:d2<359)
  (h: ∀a' w1,Cn w w1→Kn 359 a' ((d2,.bool r)::(d1,.bool r)::m)→Q' .normal a' w1) (hR: ∀c a w,Q' (.panic c) a w=Q (.panic c) a w:=by intro _ _ _;rfl):(Code.region id ops false).wp Try.prog Q' a w:=by
 refine rg ax hQ hl ?_ (fun h=>by cases h) hR
 intro w1 e1
 have s0:=SX.refl ax w1
 refine cm (c:=r) k hm rfl (by show some (n==c)=_;rw[hr]) (fun a k=> ?_) s0 rfl hd1
 refine sm k (v:=.bool r) (fun a k=> ?_) s0 rfl hd2 (by show lk ((d1,Value.bool r)::m) d1=_;simp[lk])
 exact aJ (h _ _ e1 k)
def UD(i:Nat)(s:RS)(g:GS):GS:=ph i (o6 i s g)
theorem I1{dv:List Value}{T V:Int}{es:List D}(h:nw w S ow b g)(hl:Fy g)(h1:0<g.iC.length)(h0:dv[0]? =some (.int .i64 11))(N4:dv[1]? =some (.int .i64 0))
  (E8:g.saved[0]? =some (.agg [.int .i64 T,.int .i64 V,.int .i64 0,.int .i64 0,.list [],.list [],.list [],.list es])) (hm:gC (.agg [.list g.fv,.list g.fl])=true) (htc:Has pj (.agg [.list g.fv,.list g.fl]))
  (ht:ue T 0 MX=true) (hv:ue V 0 MX=true) (Hx:nI 0 0 [] 0 0 es=true) (JK:fm es=true) (hae:(lH 0 0 [] 0 0 es).2=es) (bP:fA 0 es≤T) (rI:es.length<4294967296) (Yn:fN 0 0 es=true) (cI:Ok (sq 1 g.fv g.fl T V es) 0):
  Calls Try.prog 10 [bp b,.agg dv.toArray].toArray w (pZ w S ow b (UD 0 (sq 1 g.fv g.fl T V es) g)):=by
 refine lU Try.func10 Mp VQ akU (by show 2≤359;omega) ?_
 intro a k
 have hQ:=kj (P:=Try.prog) (fn:=Try.f10) (R:=pZ w S ow b (UD 0 (sq 1 g.fv g.fl T V es) g))
 have iB:=h.wf
 refine wp_seq (rg ax hQ aaO ?_)
 intro w1 e1
 refine uP (us:=dv) k (by decide) rfl (by decide) rfl rfl (fun h=>absurd rfl h) fun a k=> ?_
 refine aJ ?_
 have lY:=iB.bu e1
 have j8:br LG ax w S ow w1 S ow:=br.bu e1 LG ax S ow
 obtain⟨gI,jn⟩:=br.alloc lY (.cells dv.toArray 51)
 have tE:=iH.new lY 51 dv
 have BF:=j8.ba iB lY gI (fun _ h=>h.elim)
 have AV:nw (w1.alloc (.cells dv.toArray 51)) S ow b g:=by obtain⟨R',Fc,h1,h2⟩:=h.bu e1;exact⟨R',Fc.bw gI jn,h1,h2⟩
 generalize hb3:w1.heap.size=b3 at k tE
 generalize w1.alloc _=w2 at AV tE BF jn⊢
 have k:=k.sub (l:=[(3,.pointer (some ⟨b3,0,none⟩)),(0,bp b)]) ⟨rfl,rfl,trivial⟩
 clear gI j8 lY e1
 refine wp_seq (lR (n0:=7) ax mix (fun c a d v w h=>hQ c a d v w h) aaN (fun _=>by kernel_rfl) ?_)
 intro w3 e3
 have tD:=tE.bu e3
 obtain⟨R,iV,j6,me⟩:=AV.bu e3
 have iQ:=BF.ba iB jn (br.bu e3 ax ax S ow) (fun _ h=>h.elim)
 have s0:=SX.refl ax w3
 obtain⟨Al,Yz,E5⟩:=iV.arr.slice
 have FZ:(R.la.map bp).length=g.iC.length:=by rw[aw,j6];exact iV.vI
 have hn5:=hl.n5
 repeat refine sm k fun a k=> ?_
 refine ld k (tD.cell (fun h=>h) N4) fun a k=> ?_
 repeat refine sm k fun a k=> ?_
 refine ld k (iV.cell (fun h=>h) (j:=2) rfl) fun a k=> ?_
 rw[E5,FZ]at k
 refine Ml k (by assumption) rfl (by decide) rfl (by kernel_rfl) fun a k=> ?_
 refine j3 (vs:=[.int .i64 0,.int .i64 (g.iC.length:Int)]) k (by decide) rfl (by decide) c8.enter rfl (wx iV.wf (by decide) ⟨by have:i64.min= -9223372036854775808:=rfl;omega,by have:i64.max=9223372036854775807:=rfl;omega⟩ (by omega)) ?_
 rintro e w4 ⟨rfl,jX,tU⟩
 have s4:=jX.I8 ax
 refine⟨_,rfl,fun _=>s4,fun a k=> ?_⟩
 repeat refine sm k fun a k=> ?_
 refine aJ ?_
 rw[show yD 0 (g.iC.length:Int)=0 by unfold yD;rw[if_neg (by omega),Int.zero_tmod]]at k
 have zU:=tD.bw jX (fun h=>h)
 have LJ:nw w4 S ow b g:=⟨R,iV.bw jX tU,j6,me⟩
 have EX:=iQ.ba iB iV.wf jX (fun _ h=>h.elim)
 have k:=k.sub (l:=[(4,.int .i64 0),(3,.pointer (some ⟨b3,0,none⟩)),(0,bp b)]) ⟨rfl,rfl,rfl,trivial⟩
 clear jX s4 s0 iQ iV e3 AV tD tE BF jn
 refine wp_seq (rg ax hQ aaM ?_)
 intro w5 e5
 have FQ:=zU.bu e5
 have Js:=LJ.bu e5
 have mw:=EX.ba iB tU (br.bu e5 ax ax S ow) (fun _ h=>h.elim)
 have s0:=SX.refl ax w5
 repeat (first|refine sm k fun a k=> ?_|refine ld k (FQ.cell (fun h=>h) h0) fun a k=> ?_)
 refine j3 (vs:=[.int .i64 11,.int .i64 12]) k (by decide) rfl (by decide) c8.enter rfl (wx Js.wf (by decide) (by decide) (by decide)) ?_
 rintro e w6 ⟨rfl,mL,zM⟩
 refine⟨_,rfl,fun h=>absurd rfl h,fun a k=> ?_⟩
 refine aJ ?_
 have hg6:nw w6 S ow b g:=by obtain⟨R',Fc,h1,h2⟩:=Js;exact⟨R',Fc.bw mL zM,h1,h2⟩
 have G6:=mw.ba iB Js.wf mL (fun _ h=>h.elim)
 rw[show yD 11 12=11 from by decide]at k
 have k:=k.sub (l:=[(32,.int .i64 11),(4,.int .i64 0),(0,bp b)]) ⟨rfl,rfl,rfl,trivial⟩
 clear mL s0 mw Js FQ e5 LJ zU EX tU
 refine wp_block (wp_seq (wp_seq (pd (r:=false) hQ aaL k rfl rfl (by decide) (by decide) fun a w7 e7 k=> ?_)))
 have XO:=hg6.bu e7
 have pR:=G6.ba iB zM (br.bu e7 ax ax S ow) (fun _ h=>h.elim)
 refine bz k rfl ?_
 have k:=k.sub (l:=[(32,.int .i64 11),(4,.int .i64 0),(0,bp b)]) ⟨rfl,rfl,rfl,trivial⟩
 refine pd (r:=false) hQ aaK k rfl rfl (by decide) (by decide) fun a w e k=> ?_
 have jL:=XO.bu e
 have sx0:=pR.ba iB XO.wf (br.bu e ax ax S ow) (fun _ h=>h.elim)
 refine bz k rfl ?_
 have k:=k.sub (l:=[(32,.int .i64 11),(4,.int .i64 0),(0,bp b)]) ⟨rfl,rfl,rfl,trivial⟩
 refine wp_seq (pd (r:=false) hQ aaJ k rfl rfl (by decide) (by decide) fun a w e k=> ?_)
 have wW:=jL.bu e
 have sx1:=sx0.ba iB jL.wf (br.bu e ax ax S ow) (fun _ h=>h.elim)
 refine bz k rfl ?_
 have k:=k.sub (l:=[(32,.int .i64 11),(4,.int .i64 0),(0,bp b)]) ⟨rfl,rfl,rfl,trivial⟩
 refine wp_seq (wp_seq (pd (r:=false) hQ Ve k rfl rfl (by decide) (by decide) fun a w e k=> ?_))
 have r7:=wW.bu e
 have sx2:=sx1.ba iB wW.wf (br.bu e ax ax S ow) (fun _ h=>h.elim)
 refine bz k rfl ?_
 have k:=k.sub (l:=[(32,.int .i64 11),(4,.int .i64 0),(0,bp b)]) ⟨rfl,rfl,rfl,trivial⟩
 refine wp_seq (pd (r:=false) hQ Vd k rfl rfl (by decide) (by decide) fun a w e k=> ?_)
 have Z7:=r7.bu e
 have sx3:=sx2.ba iB r7.wf (br.bu e ax ax S ow) (fun _ h=>h.elim)
 refine bz k rfl ?_
 have k:=k.sub (l:=[(32,.int .i64 11),(4,.int .i64 0),(0,bp b)]) ⟨rfl,rfl,rfl,trivial⟩
 refine pd (r:=false) hQ Vc k rfl rfl (by decide) (by decide) fun a w e k=> ?_
 have Xz:=Z7.bu e
 have sx4:=sx3.ba iB Z7.wf (br.bu e ax ax S ow) (fun _ h=>h.elim)
 refine bz k rfl ?_
 have k:=k.sub (l:=[(32,.int .i64 11),(4,.int .i64 0),(0,bp b)]) ⟨rfl,rfl,rfl,trivial⟩
 refine wp_seq (pd (r:=false) hQ Vb k rfl rfl (by decide) (by decide) fun a w e k=> ?_)
 have PE:=Xz.bu e
 have sx5:=sx4.ba iB Xz.wf (br.bu e ax ax S ow) (fun _ h=>h.elim)
 refine bz k rfl ?_
 have k:=k.sub (l:=[(32,.int .i64 11),(4,.int .i64 0),(0,bp b)]) ⟨rfl,rfl,rfl,trivial⟩
 refine wp_seq (pd (r:=false) hQ age k rfl rfl (by decide) (by decide) fun a w e k=> ?_)
 have PD:=PE.bu e
 have sx6:=sx5.ba iB PE.wf (br.bu e ax ax S ow) (fun _ h=>h.elim)
 refine bz k rfl ?_
 have k:=k.sub (l:=[(32,.int .i64 11),(4,.int .i64 0),(0,bp b)]) ⟨rfl,rfl,rfl,trivial⟩
 refine wp_seq (wp_seq (pd (r:=false) hQ agd k rfl rfl (by decide) (by decide) fun a w e k=> ?_))
 have Z6:=PD.bu e
 have sx7:=sx6.ba iB PD.wf (br.bu e ax ax S ow) (fun _ h=>h.elim)
 refine bz k rfl ?_
 have k:=k.sub (l:=[(32,.int .i64 11),(4,.int .i64 0),(0,bp b)]) ⟨rfl,rfl,rfl,trivial⟩
 refine pd (r:=false) hQ agc k rfl rfl (by decide) (by decide) fun a w e k=> ?_
 have hx8:=Z6.bu e
 have sx8:=sx7.ba iB Z6.wf (br.bu e ax ax S ow) (fun _ h=>h.elim)
 refine bz k rfl ?_
 have k:=k.sub (l:=[(32,.int .i64 11),(4,.int .i64 0),(0,bp b)]) ⟨rfl,rfl,rfl,trivial⟩
 refine wp_seq (pd (r:=false) hQ agb k rfl rfl (by decide) (by decide) fun a w e k=> ?_)
 have hx9:=hx8.bu e
 have sx9:=sx8.ba iB hx8.wf (br.bu e ax ax S ow) (fun _ h=>h.elim)
 refine bz k rfl ?_
 have k:=k.sub (l:=[(32,.int .i64 11),(4,.int .i64 0),(0,bp b)]) ⟨rfl,rfl,rfl,trivial⟩
 refine wp_seq (pd (r:=true) hQ aga k rfl rfl (by decide) (by decide) fun a w e k=> ?_)
 have ava:=hx9.bu e
 have atI:=sx9.ba iB hx9.wf (br.bu e ax ax S ow) (fun _ h=>h.elim)
 refine bz k rfl ?_
 have k:=k.sub (l:=[(32,.int .i64 11),(4,.int .i64 0),(0,bp b)]) ⟨rfl,rfl,rfl,trivial⟩
 obtain⟨R,gm,j6,me⟩:=ava
 have yk:=atI
 refine wp_seq (lR (n0:=13) (fun bb=>ow bb=some 1000) mix (fun c a d v w h=>hQ c a d v w h) af9 (fun _=>by kernel_rfl) ?_)
 intro w8 e8
 have r8:=gm.bu e8
 have uh:=yk.ba iB gm.wf (br.bu e8 ax ax S ow) (fun _ h=>h.elim)
 have s0:=SX.refl (fun bb=>ow bb=some 1000) w8
 have vJ: ¬ow b=some 1000:=by rw[r8.obj.ow];decide
 obtain⟨bt,Da,us,yg,Aa,Jq,SM,zQ,Hb⟩:=r8.saved.elem E8
 have Dg:us.length=8:=SM
 have ht8:ml.cells.length=8:=rfl
 rw[ht8]at zQ
 have hxt: ¬ow bt=some 1000:=by rw[Jq];decide
 have Hc:0<g.saved.length:=(aH.1 E8).1
 repeat refine sm k fun a k=> ?_
 refine lI (s:=1) k (by assumption) rfl (by decide) rfl rfl rfl fun a k=> ?_
 repeat refine sm k fun a k=> ?_
 refine lN (vs:=[R.fv,R.fl]) k rfl rfl (fun w' lu j v hv=>by
  match j,hv with
  |0,hv=>exact r8.cell vJ (j:=0) hv w' lu
  |1,hv=>exact r8.cell vJ (j:=1) hv w' lu) fun a k=> ?_
 repeat (first|refine sm k fun a k=> ?_|refine ld k (r8.cell vJ (j:=3) rfl) fun a k=> ?_)
 rw[yg]at k
 refine CH (el:=65) (sz:=8) (s:=0) k rfl rfl Hc fun a k=> ?_
 refine lN (vs:=us) k rfl Dg (fun w' lu j v hv=>gf Aa hxt (zQ j v hv) w' lu) fun a k=> ?_
 obtain⟨u0,u1,u2,u3,u4,u5,u6,u7,rfl⟩: ∃u0 u1 u2 u3 u4 u5 u6 u7,us=[u0,u1,u2,u3,u4,u5,u6,u7] :=by
  match us,Dg with
  | [u0,u1,u2,u3,u4,u5,u6,u7],_=>exact⟨u0,u1,u2,u3,u4,u5,u6,u7,rfl⟩
 have v0:u0= .int .i64 T:=(Hb 0 _ _ rfl rfl).cX
 have v1:u1= .int .i64 V:=(Hb 1 _ _ rfl rfl).cX
 have v2:u2= .int .i64 0:=(Hb 2 _ _ rfl rfl).cX
 have v3:u3= .int .i64 0:=(Hb 3 _ _ rfl rfl).cX
 subst v0 v1 v2 v3
 have jN:=Gw (l:=1000) (id:=1) (term:=T) (vote:=V) (fv:=g.fv) (fl:=g.fl) (es:=es) (c0:=R.fv) (c1:=R.fl) (s4:=u4) (s5:=u5) (s6:=u6) (s7:=u7) r8.wf (by omega) (by decide) (by decide)
  (.agg [R.fv,R.fl] _ rfl (fun q u y hu hy=>by
   match q,hu,hy with
   |0,hu,hy=>injection hu with hu;injection hy with hy;subst hu hy;exact r8.fv
   |1,hu,hy=>injection hu with hu;injection hy with hy;subst hu hy;exact r8.fl)) htc hm
  (.agg _ _ rfl (fun q u y hu hy=>Hb q u y hu hy)) (r8.saved.all _ (ca E8)) ht hv Hx JK (by rw[hae];exact bP) rI (by rw[hae];exact Yn)
 rw[hae]at jN
 refine j3 (vs:=[.int .i64 1,.agg [R.fv,R.fl].toArray,.agg [Value.int .i64 T,.int .i64 V,.int .i64 0,.int .i64 0,u4,u5,u6,u7].toArray]) k (by decide) rfl (by decide) Pm rfl jN ?_
 rintro e w9 ⟨bs,S9,ow9,rfl,Lw,Xa,aln,Cj⟩
 refine⟨_,rfl,fun _=>SX.jD (fun _ h=>h) Lw,fun a k=> ?_⟩
 have s9:SX (fun bb=>ow bb=some 1000) w8 w9:=SX.jD (fun _ h=>h) Lw
 refine sm k fun a k=> ?_
 refine aJ ?_
 have Jy:=r8.agX (i:=0) Lw Xa h1 aln (iz aln) (by rw[hl.bJ];exact hl.n5)
 have ZY:=uh.gX iB r8.wf Lw (.inr (by omega))
 have k:=k.sub (l:=[(21,bp bs),(4,.int .i64 0),(0,bp b)]) ⟨rfl,rfl,rfl,trivial⟩
 clear jN s9 s0 uh
 refine wp_seq (wp_seq (rg ax hQ af8 ?_))
 intro wa ea
 have Jw:=Jy.bu ea
 have FO:=ZY.ba iB Xa (br.bu ea ax ax S9 ow9) (fun _ h=>h.elim)
 have s0:=SX.refl ax wa
 repeat refine sm k fun a k=> ?_
 refine UT (p:=some ⟨bs,0,none⟩) k (by assumption) rfl (by decide) rfl rfl (by kernel_rfl) fun a k=> ?_
 refine aJ (bz k rfl (wp_skip ?_))
 have k:=k.sub (l:=[(21,bp bs),(4,.int .i64 0),(0,bp b)]) ⟨rfl,rfl,rfl,trivial⟩
 refine wp_seq (rg ax hQ af7 ?_)
 intro wb eb
 have Xl:=Jw.bu eb
 have Lv:=FO.ba iB Jw.wf (br.bu eb ax ax S9 ow9) (fun _ h=>h.elim)
 have s0:=SX.refl ax wb
 have FV:0<(R.la.map bp).length:=by rw[aw,j6,gm.vI];exact h1
 obtain⟨bl,cap,cur,E5,kR,kP,FX,mM,mw,Jl,ho5⟩:=Xl.arr.set (i:=0) (u:=bp bs) Xl.wf FV
 repeat (first|refine sm k fun a k=> ?_|refine ld k (Xl.cell (fun h=>h) (j:=2) rfl) fun a k=> ?_)
 rw[show({R with lb:=R.lb.set 0 bs}:GR).l=R.l from rfl]at E5
 rw[show R.l=_ from E5]at k
 refine CH (el:=52) (sz:=1) (s:=0) k rfl rfl FV fun a k=> ?_
 refine pX (vs:=[bp bs]) (off:=0) (cur:=cur) k (by decide) rfl (by kernel_rfl) rfl rfl rfl kR (by simpa using kP) (by simp[bp,Value.oneCell']) (fun h=>absurd rfl h) fun a k=> ?_
 refine aJ ?_
 have gmc:=Xl.U8 (la:=R.la.set 0 bs) mw Jl (by rw[List.map_set];exact ho5)
 have RC:=Lv.gX iB Xl.wf mw (.inl (by decide))
 have PQ:nw _ S9 ow9 b (o6 0 (sq 1 g.fv g.fl T V es) g):=⟨{R with lb:=R.lb.set 0 bs,la:=R.la.set 0 bs},gmc,by show R.la.set 0 bs=R.lb.set 0 bs;rw[j6],me⟩
 generalize wb.setRow bl _=wc at PQ RC Jl⊢
 have k:=k.sub (l:=[(4,.int .i64 0),(0,bp b)]) ⟨rfl,rfl,trivial⟩
 refine rg ax hQ af6 ?_
 intro wd ed
 have E3:=PQ.bu ed
 have Xs:=RC.ba iB PQ.wf (br.bu ed ax ax S9 ow9) (fun _ h=>h.elim)
 have s0:=SX.refl ax wd
 have lD:Fy (o6 0 (sq 1 g.fv g.fl T V es) g):=⟨by show(g.iC.set 0 _).length≤5;rw[bE];exact hl.n5,by show g.dL.length=(g.iC.set 0 _).length;rw[bE];exact hl.dL,by show g.bJ.length=(g.iC.set 0 _).length;rw[bE];exact hl.bJ,by show g.saved.length=(g.iC.set 0 _).length;rw[bE];exact hl.saved,hl.lead,hl.vl⟩
 have vK:ka (o6 0 (sq 1 g.fv g.fl T V es) g) 0=sq 1 g.fv g.fl T V es:=by
  show(g.iC.set 0 _).getD 0 dR=_
  rw[av,cT,if_pos rfl,if_pos h1];rfl
 repeat refine sm k fun a k=> ?_
 refine j3 (vs:=[bp b,.int .i64 ((0:Nat):Int)]) k (by decide) rfl (by decide) Pk rfl (Ev E3 lD (by show 0<(g.iC.set 0 _).length;rw[bE];exact h1) (by rw[vK];exact cI)) ?_
 rintro e we ⟨Se,owe,rfl,WY,ou⟩
 refine⟨_,rfl,fun h=>absurd rfl h,fun a k=> ?_⟩
 refine aJ ?_
 exact(nU aaG k ⟨Se,owe,rfl,o5 iB E3.wf Xs WY (fun _ h=>h.elim),ou⟩).2
end
section
variable{L X:Nat→Prop}{w w':World}{S S':bU}{ow bX:Ow}{T:TypeId}{t:Ty}{v:Value}{xs:List D}
structure lL(w:World)(S:bU)(ow:Ow)(T:TypeId)(t:Ty)(v:Value)(xs:List D):Prop where
 has:Has (.list t) (.list xs)
 sz:0<t.cells.length
 own: ∃vs,w.ownsRow 0 T t.cells.length v xs.length vs∧ ∀(i:Nat) d (j:Nat) u c,xs[i]? =some d→d.cells[j]? =some c→vs[i*t.cells.length+j]? =some u→cH w S u c
 fr: ∀b,v.ownBlock=some b→b<w.heap.size∧ow b=none∧ ∀o,¬S b o
theorem lL.bw(h:lL w S ow T t v xs)(st:br L X w S ow w' S' bX)(hX: ∀b,v.ownBlock=some b→ ¬X b):lL w' S' bX T t v xs:=by
 obtain⟨vs,h1,h2⟩:=h.own
 refine⟨h.has,h.sz,⟨vs,pD h1 (fun b hb=>st.free b (h.fr b hb).1 (h.fr b hb).2.1 (hX b hb)),fun i d j u c a1 a2 a3=>(h2 i d j u c a1 a2 a3).bw st⟩,fun b hb=> ?_⟩
 obtain⟨f1,f2,f3⟩:=h.fr b hb
 refine⟨ar f1 st.size,st.rQ b f1 f2,fun o hs=> ?_⟩
 rcases st.new b o hs with h4|h4|⟨l,h4,_⟩
 ·exact f3 o h4
 ·omega
 ·rw[f2]at h4;cases h4
theorem lL.nil(hs:0<t.cells.length):lL w S ow T t (.slice none 0 0) [] :=
 ⟨⟨[],rfl,ft t,fun _ h=>(by cases h)⟩,hs,⟨[],eR _ _ _ _,fun i d j u c h=>(by simp at h)⟩,fun b hb=>(by cases hb)⟩
theorem lL.slice(h:lL w S ow T t v xs): ∃A cap,v= .slice A xs.length cap:=by
 obtain⟨vs,h1,_⟩:=h.own
 rcases h1.2 with⟨rfl,hn⟩|⟨g,cap,cur,rfl,_⟩
 ·exact⟨none,0,by rw[hn]⟩
 ·exact⟨_,cap,rfl⟩
theorem lL.pv{P:Program}{tt:TypeId}{ys:List D}(h:lL w S ow T t v xs)(cI:OT P tt T t=true)(mf:t.cells.all Ty.scalar=true)(hw:Wf w S ow)(ty:TypeId)(A:Option Addr)(c:Nat)(news:List Value)
  (hA:A=none→ys.length=0) (yo:news.length=ys.length*t.cells.length) (rL: ∀ad,A=some ad→ ∀(j:Nat) u,news[j]? =some u→w.cell? (ad.add j)=some u) (PC: ∀y∈ys,Has t y)
  (BS: ∀(i:Nat) d (j:Nat) u c,ys[i]? =some d→d.cells[j]? =some c→news[i*t.cells.length+j]? =some u→cH w S u c) (hlen:oG t (xs.length+ys.length)):
  ∃v' w',(Builtin.append_ #[tt,tt] ty #[v,.slice A ys.length c]).run P w= .ok v' w'∧br ax (fun b=>v.ownBlock=some b) w S ow w' S ow∧Wf w' S ow∧lL w' S ow T t v' (xs++ys)∧ ∀b,v'.ownBlock=some b→v.ownBlock=some b∨w.heap.size≤b:=by
 classical
 have alS: ∀b l,(if v.ownBlock=some b then some 60 else none:Option Nat)=some l→v.ownBlock=some b:=by
  intro b l hl
  split at hl
  ·assumption
  ·cases hl
 have hwT:Wf w S (fun b=>if v.ownBlock=some b then some 60 else none):=⟨hw.s,fun b l hl=>(h.fr b (alS b l hl)).1,fun b o l hs hl=>absurd hs ((h.fr b (alS b l hl)).2.2 o)⟩
 have hoT:dW w S (fun b=>if v.ownBlock=some b then some 60 else none) 60 T t v xs:=⟨h.has,h.sz,fun b hb=>if_pos hb,by omega,h.own⟩
 obtain⟨v',w',fh,bX,st,lu,zY⟩:=hoT.pv cI mf hwT ty A c news hA yo rL PC BS hlen
 have fY: ∀b,¬v.ownBlock=some b→(fun b=>if v.ownBlock=some b then some 60 else none:Ow) b=none:=fun b hb=>if_neg hb
 refine⟨v',w',fh,⟨st.size,st.os,st.tape,st.output,fun b l hb hl _=>st.free b hb (fY b fun hv=>by rw[(h.fr b hv).2.1]at hl;cases hl) (fun h=>h),fun b hb _ hX=>st.free b hb (fY b hX) (fun h=>h),fun _ _ h=>h,st.cell,fun _ _ h _=>h,fun _ _ h=>.inl h,fun _ _ h=>h,fun _ _ h=>.inl h⟩,
  ⟨fun b o hs=>ar (hw.s b o hs) st.size,fun b l hl=>ar (hw.o b l hl) st.size,hw.d⟩,⟨zY.has,zY.sz,zY.own,fun b hb=> ?_⟩,fun b hb=> ?_⟩
 rotate_left
 ·have lD:=zY.jD b hb
  by_cases bP:b<w.heap.size
  ·by_cases hv:v.ownBlock=some b
   ·exact .inl hv
   ·have:=st.rQ b bP (fY b hv)
    rw[this]at lD;cases lD
  ·exact .inr (by omega)
 have lD:=zY.jD b hb
 by_cases bP:b<w.heap.size
 ·by_cases hv:v.ownBlock=some b
  ·obtain⟨f1,f2,f3⟩:=h.fr b hv
   exact⟨ar f1 st.size,f2,f3⟩
  ·have:=st.rQ b bP (fY b hv)
   rw[this]at lD;cases lD
 ·refine⟨lu.o b 60 lD,?_,fun o hs=>bP (hw.s b o hs)⟩
  cases ho:ow b with
  |none=>rfl
  |some l=>exact absurd (hw.o b l ho) bP
end
def gQ:Nat→GS
 |0=>gB 1 1
 |n+1=>qH 0 0 (gQ n)
theorem aoM:((List.range 10).all fun n=>Ao 0 0 (gQ n))=true:=by decide+kernel
def sQ:RS:=ka (gQ 10) 0
theorem ag8:gQ 10=ib sQ sQ.le:=by kernel_rfl
theorem HI:sQ.le.length=1:=by decide+kernel
theorem Zp:Lone sQ sQ.le:=by
 refine⟨⟨by kernel_rfl,by kernel_rfl,by kernel_rfl,by kernel_rfl,by kernel_rfl,rfl⟩,?_,?_,by kernel_rfl,by kernel_rfl,by kernel_rfl,by kernel_rfl,by kernel_rfl,⟨by kernel_rfl,by kernel_rfl,by kernel_rfl,by kernel_rfl,by kernel_rfl⟩,by kernel_rfl⟩
 ·have h:(sQ.le.all fun e=>decide ((cD 2 e).aq≠2))=true:=by decide+kernel
  intro e he
  exact of_decide_eq_true (cn.1 h e he)
 ·intro i e he
  have h1:=(aH.1 he).1
  rw[HI]at h1
  have hi:i=0:=by omega
  subst hi
  have h2:(cD 0 (sQ.le.getD 0 .top)).aq=1:=by kernel_rfl
  rw[av,he]at h2
  exact h2
theorem agp:fy (G 4194303) sQ 4194303:=by
 have h:okS sQ 20=true:=by decide+kernel
 have hk:=Ap h
 refine⟨hk.may,hk.G9,hk.G8,?_,?_,?_,?_,?_,hk.cf,hk.cs,hk.cl,hk.tm,hk.tx,hk.rd⟩
 ·rw[HI];omega
 ·have:sQ.msgs.length=0:=by decide+kernel
  rw[this];omega
 ·have:sQ.dS.length=0:=by decide+kernel
  rw[this];omega
 ·have:sQ.cb=[] :=by kernel_rfl
  rw[this,gq,ay]
  exact bn _
 ·have:sQ.bJ.length≤5:=by decide+kernel
  exact aR (Nat.add_le_add_right this _) (by decide)
structure Kp(w w':World):Prop where
 size:w.heap.size≤w'.heap.size
 os:w'.os=w.os
 tape:w'.tape=w.tape
 output:w'.output=w.output
 BQ: ∀b,b<w.heap.size→w'.heap[b]? =w.heap[b]?
theorem Kp.trans{w w' BE:World}(h:Kp w w')(k:Kp w' BE):Kp w BE:=
 ⟨aR h.size k.size,k.os.trans h.os,k.tape.trans h.tape,k.output.trans h.output,fun b hb=>(k.BQ b (ar hb h.size)).trans (h.BQ b hb)⟩
theorem Kp.of{L:Nat→Prop}{w w':World}{S S':bU}{bX:Ow}(h:br L ax w S (fun _=>none) w' S' bX):Kp w w':=⟨h.size,h.os,h.tape,h.output,fun b hb=>h.free b hb rfl (fun h=>h)⟩
theorem _root_.Go.dV.Wf.bare{w:World}{S:bU}{ow:Ow}(h:Wf w S ow):Wf w S (fun _=>none):=⟨h.s,fun _ _ h=>(by cases h),fun _ _ _ _ h=>(by cases h)⟩
noncomputable def AN(K:Code):Code:=.seq (.region 0 aeD false) (.seq (.region 1 aeC false) (.seq (.seq (.region 2 aeB false) (.block 0 (.loop (.seq (.seq (.region 3 aeA false) (.cond (.tmp 15) .skip (.exit 0))) (.seq (.block 1 (.region 5 Ya false)) (.region 4 aez false)))))) (.seq (.region 6 aey false) K)))
section
variable{w:World}{S:bU}{ow:Ow}{b i:Nat}{g:GS}{Q:Exit→Act→World→Prop}{a:Act}{vl:Value}
theorem NK{j:Int}(hQ:QP Q)(h:nw w S ow b g)(hn:yj ow)(cI:Ao 0 0 g=true)(k:Kn 151 a [(4,.int .i64 j),(3,bp b),(0,vl)])
  (jt: ∀a W S' bX,Kn 151 a [(4,.int .i64 j),(3,bp b),(0,vl)] →br LG ax w S ow W S' bX→nw W S' bX b (qH 0 0 g)→Q .normal a W):(Code.region 5 Ya false).wp Try.prog Q a w:=by
 obtain⟨R,gm,j6,me⟩:=h
 simp only[Ao,bc,bQ]at cI
 obtain⟨⟨⟨hi,N2⟩,BX⟩,wU⟩:=cI
 refine rg (fun bb=>ow bb=some 1000) hQ aui ?_
 intro w1 e1
 have eZ:=gm.bu e1
 have j8:=(br.refl LG ax w S ow).ba gm.wf gm.wf (br.bu e1 ax ax S ow) (fun _ h=>h.elim)
 have s0:=SX.refl (fun bb=>ow bb=some 1000) w1
 have vJ: ¬ow b=some 1000:=by rw[eZ.obj.ow];decide
 obtain⟨bs,Cj,fX,jA⟩:=eZ.iC 0 _ (y9 hi)
 obtain⟨bl,cap,E5,FX,mM,jY⟩:=eZ.arr.elem (i:=0) (u:=bp bs) (by rw[j6,ah,Cj];rfl)
 have FZ:(R.la.map bp).length=g.iC.length:=by rw[aw,j6];exact eZ.vI
 have nq: ¬ow bl=some 1000:=by rw[mM];decide
 repeat (first|refine sm k fun a k=> ?_|refine ld k (eZ.cell vJ rfl) fun a k=> ?_)
 rw[E5]at k
 refine CH (el:=52) (sz:=1) (s:=0) k rfl rfl (by rw[FZ];exact hi) fun a k=> ?_
 refine qD (v:=bp bs) k (by assumption) rfl (by decide) rfl (by kernel_rfl) (by kernel_rfl) (gf FX nq (by rw[cd];exact jY)) fun a k=> ?_
 refine j3 (vs:=[bp bs,.int .i64 0]) k (by decide) rfl (by decide) c15.enter rfl (Az fX eZ.wf (by omega) (by decide) (Ap BX)) ?_
 rintro e w2 ⟨v,S2,tC,rfl,gI,jn,BY,nK,N3⟩
 refine⟨_,rfl,fun _=>SX.jD (fun _ h=>h) gI,fun a k=> ?_⟩
 have jB:=eZ.Dr (i:=0) gI jn hi Cj BY (iz BY) N2
 have iQ:=j8.gX gm.wf eZ.wf gI (.inr (by omega))
 have hn2:yj tC:=hn.bw gI (fun l hl=>by simp only[kG]at hl;subst hl;exact .inr (by omega))
 refine j3 (vs:=[bp b,.int .i64 ((0:Nat):Int),v,.bool false]) k (by decide) rfl (by decide) yT rfl (Ie (g:=o6 0 (fW 0 (ka g 0)).2 g) ⟨_,jB,j6,me⟩ hn2 nK N3 wU) ?_
 rintro e w4 ⟨S4,Jj,rfl,jX,LJ⟩
 refine⟨_,rfl,fun h=>absurd rfl h,fun a k=> ?_⟩
 exact aJ (jt _ _ S4 Jj (k.sub ⟨rfl,rfl,rfl,trivial⟩) (o5 gm.wf jn iQ jX (fun _ h=>h.elim)) LJ)
theorem QS{K:Code}(hQ:QP Q)(gO:Wf w S (fun _=>none))(k:Kn 151 a [(0,vl)])
  (hK: ∀a W S' bX b,Kn 151 a [(5,.int .i64 1),(3,bp b),(0,vl)] →br LG ax w S (fun _=>none) W S' bX→nw W S' bX b (ib sQ sQ.le)→K.wp Try.prog Q a W):(AN K).wp Try.prog Q a w:=by
 unfold AN
 refine wp_seq (rg ax hQ aun ?_)
 intro w1 e1
 have s0:=SX.refl ax w1
 repeat refine sm k fun a k=> ?_
 refine aJ ?_
 have lY:=gO.bu e1
 have j8:br LG ax w S (fun _=>none) w1 S (fun _=>none):=br.bu e1 LG ax S _
 refine wp_seq (rg (fun _=>True) hQ aum ?_)
 intro w2 e2
 have jn:=lY.bu e2
 have gI:=j8.ba gO lY (br.bu e2 ax ax S _) (fun _ h=>h.elim)
 refine j3 (vs:=[.int .i64 ((1:Nat):Int),.int .i64 ((1:Nat):Int)]) k (by decide) rfl (by decide) VK rfl (By (n:=1) jn (by omega) (by omega)) ?_
 rintro e w3 ⟨b,S3,qo,rfl,iQ,h3⟩
 have s3:SX (fun _=>True) w2 w3:=⟨iQ.size,fun _ _ h=>absurd trivial h⟩
 refine⟨_,rfl,fun _=>s3,fun a k=> ?_⟩
 repeat refine sm k fun a k=> ?_
 refine aJ ?_
 have jX:=o5 gO jn gI iQ (fun _ h=>h.elim)
 have k:=k.sub (l:=[(3,bp b),(0,vl)]) ⟨rfl,rfl,trivial⟩
 refine wp_seq (wp_seq (rg ax hQ aul ?_))
 intro w5 e5
 have s0:=SX.refl ax w5
 repeat refine sm k fun a k=> ?_
 refine aJ ?_
 refine wp_block (wp_loop_ghost (fun mm a W=> ∃(j:Nat) (S1:bU) (fE:Ow),mm=10-j∧j≤10∧Kn 151 a [(4,.int .i64 (j:Int)),(3,bp b),(0,vl)] ∧br LG ax w S (fun _=>none) W S1 fE∧nw W S1 fE b (gQ j)) (10-0)
  ⟨0,S3,qo,rfl,by omega,k.sub ⟨rfl,rfl,rfl,trivial⟩,jX.ba gO h3.wf (br.bu e5 ax ax S3 qo) (fun _ h=>h.elim),h3.bu e5⟩ ?_)
 clear k s0 e5 w5 jX s3 h3 iQ gI jn e2 j8 lY e1
 rintro mm a W ⟨j,S1,fE,rfl,hj,k,st,h⟩
 refine wp_seq (wp_seq (rg ax hQ auk ?_))
 intro w6 e6
 have h6:=h.bu e6
 have mL:=st.ba gO h.wf (br.bu e6 ax ax S1 fE) (fun _ h=>h.elim)
 have s0:=SX.refl ax w6
 repeat refine sm k fun a k=> ?_
 refine cm (c:=decide ((j:Int)<10)) k rfl rfl rfl fun a k=> ?_
 refine aJ (bz k rfl ?_)
 have k:=k.sub (l:=[(4,.int .i64 (j:Int)),(3,bp b),(0,vl)]) ⟨rfl,rfl,rfl,trivial⟩
 by_cases bP:(j:Int)<10
 ·rw[if_pos (by simpa using bP)]
  refine wp_skip ?_
  have hd:=cn.1 aoM j (cW.2 (by omega))
  refine wp_seq (wp_block (NK (fun c a d v w h=>hQ c a d v w h) h6 (fun bb l hl=>(mL.jD bb l hl).elim (fun e=>by cases e) id) hd k ?_))
  intro a w7 S7 Ly k pR h7
  have uh:=o5 gO h6.wf mL pR (fun _ h=>h.elim)
  refine rg ax hQ auj ?_
  intro w8 e8
  have s0:=SX.refl ax w8
  repeat refine sm k fun a k=> ?_
  refine lI (s:=((j+1:Nat):Int)) k (by assumption) rfl (by decide) rfl rfl (wrap64 (by omega) (by omega)) fun a k=> ?_
  repeat refine sm k fun a k=> ?_
  exact aJ ⟨10-(j+1),by omega,j+1,S7,Ly,rfl,by omega,k.sub ⟨rfl,rfl,rfl,trivial⟩,uh.ba gO h7.wf (br.bu e8 ax ax S7 Ly) (fun _ h=>h.elim),h7.bu e8⟩
 ·rw[if_neg (by simpa using bP)]
  refine wp_exit ?_
  have avQ:j=10:=by omega
  subst avQ
  rw[ag8]at h6
  refine wp_seq (rg ax hQ auh ?_)
  intro w9 e9
  have s0:=SX.refl ax w9
  repeat refine sm k fun a k=> ?_
  exact aJ (hK _ _ S1 fE b (k.sub ⟨rfl,rfl,rfl,trivial⟩) (mL.ba gO h6.wf (br.bu e9 ax ax S1 fE) (fun _ h=>h.elim)) (h6.bu e9))
end
end Go.Proofs.Ytjhmkaninmgilaa
namespace Go.dV
open Go Go.RowKit
def kg(n:Nat)(p:List Nat):Array Bool:=((List.range n).map fun j=>decide (j∈p)).toArray
theorem xX{n i:Nat}{p:List Nat}:(kg n p).setIfInBounds i true=kg n (p++[i]):=by
 apply Array.ext
 ·simp[kg]
 ·intro j h1 h2
  simp only[kg,Array.size_setIfInBounds,cS,aw,gh]at h1
  rw[Array.getElem_setIfInBounds (by simpa [kg]using h1)]
  by_cases yp:i=j
  ·subst yp;simp[kg]
  ·rw[if_neg yp]
   simp only[kg,List.getElem_toArray,List.getElem_map,List.getElem_range,aS,aA]
   congr 1
   exact propext ⟨fun h=>.inl h,fun h=>h.resolve_right (Ne.symm yp)⟩
theorem NL(n:Nat):Array.replicate n false=kg n [] :=by
 apply Array.ext
 ·simp[kg]
 ·intro j h1 h2;simp[kg]
def NQ(N:Act→World→Prop)(Q:Exit→Act→World→Prop):Exit→Act→World→Prop
 |.normal=>N
 |.exit i=>Q (.exit i)
 |.goto i=>Q (.goto i)
 |.ret=>Q .ret
 |.panic c=>Q (.panic c)
 |.outgrown=>Q .outgrown
section
variable{P:Program}{ops ops':Array Oper}{Q Q':Exit→Act→World→Prop}{S:World→Prop}{N:Act→World→Prop}
theorem Gf{i:Nat}{K:Act→World→Prop}{a:Act}{w:World}(h:wpOp P ops (NQ N Q) i K a w):wpOp P ops Q i K a w:=by
 have hl:LetsOut (NQ N Q)→LetsOut Q:=fun⟨a,w,h⟩=>⟨a,w,h⟩
 unfold wpOp at h⊢
 cases ho:ops[i]? with
 |none=>rw[ho]at h;exact h
 |some o=>
  rw[ho]at h
  simp only at h⊢
  split at h
  ·rename_i hw
   rw[if_pos hw]
   rcases h with h|⟨h1,h2⟩
   ·refine .inl ?_
    unfold Oper.wp at h⊢
    generalize (execOp a.eval o).run P w=r at h⊢
    unfold Oper.upon at h⊢
    split<;>simp only at h⊢
    all_goals first
     |exact h
     |(refine h.mono fun e w' he=> ?_
       cases e<;>simp only at he⊢ <;>first|exact he|exact hl he)
   ·exact .inr ⟨h1,hl h2⟩
  ·rename_i hw
   rw[if_neg hw]
   exact h
def AT(P:Program)(ops:Array Oper)(Q:Exit→Act→World→Prop)(S:World→Prop)(p:List Nat)(a:Act)(w:World):Prop:=
 rf P ops Q S ops.size (ops.size-p.length) (kg ops.size p) a w
def Db(ops:Array Oper)(p0 p:List Nat)(n0:Nat):Bool:=
 Region.noSelect ops&&decide (p0.length+p.length≤ops.size)&&p.all (fun i=>match ops[i]? with|some o=>o.guard.isNone|none=>false)&&(List.range p.length).all fun k=>
  match p[k]? with
  |none=>false
  |some i=>if k<n0 then Region.free .any ops (kg ops.size (p0++p.take k)) i&&(Region.ready .any ops (kg ops.size (p0++p.take k))).contains i
   else Region.ready .any ops (kg ops.size (p0++p.take k))==[i]
theorem Gn{p0 p:List Nat}{n0:Nat}(cI:Db ops p0 p n0=true)(k:Nat){i:Nat}(hk:p[k]? =some i): ∃o,ops[i]? =some o∧o.guard=none∧(jh ops p)[k]? =some o:=by
 unfold Db at cI
 simp only[bc,bQ,cn]at cI
 obtain⟨⟨⟨E1,hlen⟩,hp⟩,iG⟩:=cI
 have h1:=hp i (ca hk)
 cases ho:ops[i]? with
 |none=>rw[ho]at h1;cases h1
 |some o=>
  rw[ho]at h1
  refine⟨o,rfl,by simpa using h1,?_⟩
  unfold jh
  rw[dq,rB (fun j hj=> ?_) k,hk]
  ·exact ho
  ·have h2:=hp j hj
   cases xx:ops[j]? with
   |none=>rw[xx]at h2;cases h2
   |some oj=>exact(aK.1 xx).1
theorem YJ{p0 p:List Nat}{n0:Nat}(cI:Db ops p0 p n0=true)(hQ:QP Q):
  ∀(f k:Nat) (a:Act) (w:World),k+f=p.length→oD P (jh ops p) (NQ (fun a w=>S w∧AT P ops Q S (p0++p) a w) Q) S n0 f k a w→(f=0→S w)∧AT P ops Q S (p0++p.take k) a w:=by
 intro f
 induction f with
 |zero=>
  intro k a w hk h
  rw[eM (by omega)]
  exact⟨fun _=>h.1,h.2⟩
 |succ f ih=>
  intro k a w hk h
  refine⟨fun e=>(by cases e),?_⟩
  have RK:p[k]? =some (p[k]'(by omega)):=aW _
  generalize p[k]'(by omega)=i at RK
  obtain⟨o,ho,hg,hpo⟩:=Gn cI k RK
  have yv:=cI
  unfold Db at cI
  simp only[bc,bQ,cn,cW]at cI
  obtain⟨⟨⟨E1,hlen⟩,hp⟩,iG⟩:=cI
  have hc:=iG k (by omega)
  rw[RK]at hc
  simp only at hc
  have ht:p0++p.take (k+1)=p0++p.take k++[i] :=by rw[dj,RK,ez];rfl
  have hfu:ops.size-(p0++p.take k).length=(ops.size-(p0++p.take (k+1)).length)+1:=by
   simp only[an,bj];omega
  unfold oD at h
  rw[hpo]at h
  simp only at h
  unfold AT
  rw[hfu]
  by_cases bP:k<n0
  ·rw[if_pos bP]at h hc
   obtain⟨hS,v,hy,hr⟩:=h
   simp only[bc]at hc
   obtain⟨rM,rn⟩:=hc
   refine tl ho (fun e=> ?_) (fun oL R9=> ?_) (Region.noSelect_spec E1) (fun c a w=>hQ c a _ _ w) _ _ a w (Region.free_spec ho rM) (by simpa using rn) (YieldsIf.plain (ops':=jh ops p) hg hy) hS ?_
   ·rw[e]at ho;simp at ho
   ·simp at R9
   ·rw[xX,←ht]
    exact(ih (k+1) _ w (by omega) hr).2
  ·rw[if_neg bP]at h hc
   have hr:Region.ready .any ops (kg ops.size (p0++p.take k))=[i] :=by simpa using hc
   refine⟨fun h0=>(by rw[hr]at h0;cases h0),fun j hj=> ?_⟩
   rw[hr,aA]at hj
   subst hj
   refine wpOp_mono (fun a' w' h'=> ?_) (Gf (xP hg hpo ho h))
   have h2:=ih (k+1) a' w' (by omega) h'.2
   refine⟨fun _=> ?_,?_⟩
   ·by_cases hf:f=0
    ·exact h2.1 hf
    ·exact h'.1 hf
   ·rw[xX,←ht]
    exact h2.2
theorem QC{p0 p:List Nat}{n0:Nat}(cI:Db ops p0 p n0=true):(b8 (jh ops p)).length=p.length:=by
 unfold b8 jh
 rw[aw]
 have: ∀(q:List Nat),(∀i∈q,i<ops.size)→(q.filterMap (ops[·]?)).length=q.length:=by
  intro q
  induction q with
  |nil=>intro _;rfl
  |cons i q ih=>
   intro hq
   have hi:ops[i]? =some (ops[i]'(hq i bI)):=dC _
   rw[List.filterMap_cons,hi]
   simp only[bM]
   rw[ih (fun j hj=>hq j (aI _ hj))]
 refine this p fun j hj=> ?_
 obtain⟨k,hk⟩:=aE hj
 obtain⟨o,ho,_⟩:=Gn cI k hk
 exact(aK.1 ho).1
theorem seg{p0 p p2:List Nat}{n0:Nat}{L:List OK}{a:Act}{w:World}(cI:Db ops p0 p n0=true)(hQ:QP Q)(hl:b8 (jh ops p)=L)(hp:p0++p=p2)
  (h:TL P (jh ops p) (NQ (fun a w=>S w∧AT P ops Q S p2 a w) Q) S n0 L L 0 a w):AT P ops Q S p0 a w:=by
 subst hp
 have hlen:L.length=p.length:=by rw[←hl];exact QC cI
 have:=(YJ (P:=P) (S:=S) cI hQ p.length 0 a w (by omega) (hlen▸h hl rfl)).2
 rw[List.take_zero,cQ]at this
 exact this
theorem HG{p0 R:List Nat}{a:Act}{w:World}(bP:p0.length<ops.size)(hr:Region.ready .any ops (kg ops.size p0)=R)(hn:R≠ [])(h: ∀i∈R,wpOp P ops Q i (fun a' w'=>S w'∧AT P ops Q S (p0++[i]) a' w') a w):AT P ops Q S p0 a w:=by
 unfold AT
 rw[show ops.size-p0.length=(ops.size-p0.length-1)+1 by omega]
 refine⟨fun h0=>absurd (hr▸h0) hn,fun i hi=> ?_⟩
 rw[hr]at hi
 refine wpOp_mono (fun a' w' h'=>⟨fun _=>h'.1,?_⟩) (h i hi)
 rw[xX]
 have h2:=h'.2
 unfold AT at h2
 rw[show ops.size-p0.length-1=ops.size-(p0++[i]).length by rw[an];simp;omega]
 exact h2
theorem pr{i:Nat}{L:List OK}{a:Act}{w:World}(hg:(match ops[i]? with|some o=>o.guard.isNone|none=>false)=true)(hl:b8 (jh ops [i])=L)
  (h:TL P (jh ops [i]) (NQ N Q) S 0 L L 0 a w):wpOp P ops Q i N a w:=by
 cases ho:ops[i]? with
 |none=>rw[ho]at hg;cases hg
 |some o=>
  rw[ho]at hg
  have hg:o.guard=none:=by simpa using hg
  have hpo:jh ops [i] = #[o] :=by simp[jh,ho]
  have hL:L.length=1:=by rw[←hl,hpo];rfl
  have h:=h hl rfl
  rw[hL]at h
  unfold oD at h
  have h0:(jh ops [i])[0]? =some o:=by rw[hpo];rfl
  rw[h0]at h
  simp only at h
  rw[if_neg (by omega)]at h
  exact wpOp_mono (fun a' w' h'=>h'.2) (Gf (xP hg h0 ho h))
theorem YK{p:List Nat}{a:Act}{w:World}(hp:ops.size≤p.length)(hr:Region.ready .any ops (kg ops.size p)=[])(h:Q .normal a w):AT P ops Q S p a w:=by
 unfold AT
 rw[show ops.size-p.length=0 by omega]
 exact⟨hr,h⟩
theorem amr{id:Nat}(X:Nat→Prop)(hm:P.follows .mixedOrders=true){w:World}{a:Act}(h: ∀w1,Cn w w1→AT P ops Q (SX X w1) [] a w1):(Code.region id ops true).wp P Q a w:=by
 refine wp_region_any hm ?_
 have h1:=h _ (Cn.drew w)
 unfold AT at h1
 rw[←NL,gq,Nat.sub_zero]at h1
 exact qg _ _ _ _ h1
end
end Go.dV
namespace Go.Proofs.Ytjhmkaninmgilaa
open Go Go.RowKit Go.dV Go.Proofs
attribute [local irreducible] TL AT
theorem Kn.swap{n:Nat}{a:Act}{p q:Nat×Value}{m:List (Nat×Value)}(h:Kn n a (p::q::m))(fY:p.1≠q.1):Kn n a (q::p::m):=by
 refine⟨h.1,h.2.1,fun t v ht=>h.2.2 t v ?_⟩
 rw[←ht]
 simp only[lk]
 by_cases h1:t=p.1
 ·subst h1;simp[fY]
 ·simp[h1]
theorem yX{P:Program}{ops:Array Oper}{Q:Exit→Act→World→Prop}{SS:World→Prop}{p q:List Nat}{a:Act}{w:World}(h:AT P ops Q SS p a w)(hl:p.length=q.length)(hm:kg ops.size p=kg ops.size q):AT P ops Q SS q a w:=by
 unfold AT at h⊢
 rw[←hl,←hm];exact h
def L7:Option Nat→List (Nat×Value)
 |none=> []
 |some B=> [(7,bp B)]
def L9:Option Nat→List (Nat×Value)
 |none=> []
 |some B=> [(9,bp B)]
structure JS(w0:World)(S0:bU)(o0:Ow)(X:Nat→Prop)(w2:World)(F:World→bU→Ow→Prop)(m:List (Nat×Value))(b7 b9:Option Nat)(a:Act)(w:World)(S:bU)(ow:Ow):Prop where
 kn:Kn 151 a (L7 b7++(L9 b9++m))
 wf:Wf w S ow
 st:br LG ax w0 S0 o0 w S ow
 sx:SX X w2 w
 f:F w S ow
 n:yj ow
 c7: ∀B,b7=some B→ ∃zs,zs.length=29∧iH w S ow B 78 zs
 c9: ∀B,b9=some B→ ∃zs,zs.length=8∧iH w S ow B 75 zs
 g7: ∀B,b7=some B→w2.heap.size≤B
 g9: ∀B,b9=some B→w2.heap.size≤B
 ne: ∀B,b7=some B→b9≠some B
def JJ(w0:World)(S0:bU)(o0:Ow)(X:Nat→Prop)(w2:World)(F:World→bU→Ow→Prop)(m:List (Nat×Value))(b7 b9:Option Nat)(a:Act)(w:World):Prop:= ∃S ow,JS w0 S0 o0 X w2 F m b7 b9 a w S ow
section
variable{w0 w2:World}{S0:bU}{o0:Ow}{X:Nat→Prop}{F:World→bU→Ow→Prop}{m:List (Nat×Value)}{b7 b9:Option Nat}{a a':Act}{w:World}{S:bU}{ow:Ow}{N:Act→World→Prop}{Q:Exit→Act→World→Prop}
theorem AX(h:SX X w2 w)(o:Obj):SX X w2 (w.alloc o):=
 ⟨aR h.1 (by simp),fun b hb hx=>(Below.heap_alloc w o b (ar hb h.1)).trans (h.2 b hb hx)⟩
theorem Mo(h:SX X w2 w){b:Nat}(hb:w2.heap.size≤b)(r:Array Value):SX X w2 (w.setRow b r):=
 ⟨aR h.1 (by simp),fun k hk hx=>(setRow_other w b k r (fun e=>by omega)).trans (h.2 k hk hx)⟩
theorem JS.al7(h:JS w0 S0 o0 X w2 F m none b9 a w S ow)(hF: ∀w S ow o,Wf w S ow→F w S ow→F (w.alloc o) S ow)(gO:Wf w0 S0 o0){zs:List Value}(hz:zs.length=29)(k:Kn 151 a' ((7,bp w.heap.size)::(L9 b9++m))):JS w0 S0 o0 X w2 F m (some w.heap.size) b9 a' (w.alloc (.cells zs.toArray 78)) S ow:=by
 have oZ:=br.alloc h.wf (.cells zs.toArray 78)
 refine⟨k,oZ.2,h.st.ba gO h.wf oZ.1 (fun _ h=>h.elim),AX h.sx _,hF _ _ _ _ h.wf h.f,h.n,?_,fun B hB=> ?_,?_,h.g9,?_⟩
 ·rintro B hB;injection hB with hB;subst hB;exact⟨zs,hz,iH.new h.wf 78 zs⟩
 ·obtain⟨us,h1,h2⟩:=h.c9 B hB;exact⟨us,h1,h2.bw oZ.1 (fun h=>h)⟩
 ·rintro B hB;injection hB with hB;subst hB;exact h.sx.1
 ·rintro B hB e;injection hB with hB;subst hB
  obtain⟨us,h1,h2⟩:=h.c9 _ e
  exact Nat.lt_irrefl _ h2.lt
theorem JS.al9(h:JS w0 S0 o0 X w2 F m b7 none a w S ow)(hF: ∀w S ow o,Wf w S ow→F w S ow→F (w.alloc o) S ow)(gO:Wf w0 S0 o0){zs:List Value}(hz:zs.length=8)(k:Kn 151 a' ((9,bp w.heap.size)::(L7 b7++m))):JS w0 S0 o0 X w2 F m b7 (some w.heap.size) a' (w.alloc (.cells zs.toArray 75)) S ow:=by
 have oZ:=br.alloc h.wf (.cells zs.toArray 75)
 refine⟨?_,oZ.2,h.st.ba gO h.wf oZ.1 (fun _ h=>h.elim),AX h.sx _,hF _ _ _ _ h.wf h.f,h.n,fun B hB=> ?_,?_,h.g7,?_,?_⟩
 ·cases b7 with
  |none=>exact k
  |some B=>exact Kn.swap k (fun e=>by cases e)
 ·obtain⟨us,h1,h2⟩:=h.c7 B hB;exact⟨us,h1,h2.bw oZ.1 (fun h=>h)⟩
 ·rintro B hB;injection hB with hB;subst hB;exact⟨zs,hz,iH.new h.wf 75 zs⟩
 ·rintro B hB;injection hB with hB;subst hB;exact h.sx.1
 ·rintro B hB e;injection e with e;subst e
  obtain⟨us,h1,h2⟩:=h.c7 _ hB
  exact Nat.lt_irrefl _ h2.lt
theorem OB(hF: ∀w S ow o,Wf w S ow→F w S ow→F (w.alloc o) S ow)(gO:Wf w0 S0 o0)(h:JJ w0 S0 o0 X w2 F m none b9 a w)(hN: ∀B a' w',JJ w0 S0 o0 X w2 F m (some B) b9 a' w'→N a' w'):TL Try.prog (jh pY [16]) (NQ (fun a w=>SX X w2 w∧N a w) Q) (SX X w2) 0 [(some 7,.alloc 78,none)] [(some 7,.alloc 78,none)] 0 a w:=by
 obtain⟨S,ow,h⟩:=h
 refine oO (nn:=29) h.kn (by decide) rfl (by decide) (by kernel_rfl) (fun zs _=>AX h.sx _) fun zs hz a k=>aJ ?_
 exact⟨AX h.sx _,hN _ _ _ ⟨S,ow,h.al7 hF gO hz k⟩⟩
theorem OA(hF: ∀w S ow o,Wf w S ow→F w S ow→F (w.alloc o) S ow)(gO:Wf w0 S0 o0)(h:JJ w0 S0 o0 X w2 F m b7 none a w)(hN: ∀B a' w',JJ w0 S0 o0 X w2 F m b7 (some B) a' w'→N a' w'):TL Try.prog (jh pY [17]) (NQ (fun a w=>SX X w2 w∧N a w) Q) (SX X w2) 0 [(some 9,.alloc 75,none)] [(some 9,.alloc 75,none)] 0 a w:=by
 obtain⟨S,ow,h⟩:=h
 refine oO (nn:=8) h.kn (by decide) rfl (by decide) (by kernel_rfl) (fun zs _=>AX h.sx _) fun zs hz a k=>aJ ?_
 exact⟨AX h.sx _,hN _ _ _ ⟨S,ow,h.al9 hF gO hz k⟩⟩
theorem Om:b8 (jh pY [16])=[(some 7,.alloc 78,none)] :=by kernel_rfl
theorem Ol:b8 (jh pY [17])=[(some 9,.alloc 75,none)] :=by kernel_rfl
theorem Oj:b8 (jh pY [11])=[oC 61 16 #[(.tmp 55),(.tmp 60)] #[52,44]] :=by kernel_rfl
theorem anC:b8 (jh pY [12,13,14,15])=[oM 49 61,(some 62,.extract (.tmp 49) 0,none),(some 63,.extract (.tmp 49) 1,none),(some 64,.extract (.tmp 49) 2,none)] :=by kernel_rfl
theorem anD:b8 (jh pY [18,19,20])=[oS 78 7 62,oA 8 63,oS 75 9 64] :=by kernel_rfl
theorem anE:b8 (jh pY [0,1,2,3,4,5,6,7,8,9,10])=[oM 50 3,oN 51 50,oF 52 59 51 1,oL 53 54 52,(some 54,.indexAddr 54 (.tmp 53) (.const (.int .i64 0)),none),oL 55 52 54,oM 56 0,oM 57 6,oI 58 22 56 57,oF 59 51 58 4,oL 60 44 59] :=by kernel_rfl
theorem Mk{b:Nat}{ops:Array Oper}{SS:World→Prop}{n i:Nat}{mm:List (Nat×Value)}{r L:List OK}{x y:Operand}{t T:TypeId}{cur vs:List Value}(k:Kn n a mm)(hs:jF Try.prog t=some vs.length)(hx:oh mm x=some (bp b))(hy:oh mm y=some (.agg vs.toArray))(kR:iH w S ow b T cur)(hl:cur.length=vs.length)(kv: ∀v∈vs,v.oneCell'=true)(hS:SS (w.setRow b vs.toArray))
  (h: ∀a',Kn n a' mm→TL Try.prog ops Q SS 0 L r (i+1) a' (w.setRow b vs.toArray)):TL Try.prog ops Q SS 0 L ((none,.store t x y,none)::r) i a w:=by
 have e:(cur.toArray.toList.take 0++vs++cur.toArray.toList.drop (0+vs.length))=vs:=by simp[←hl]
 refine pX (vs:=vs) (cur:=cur.toArray) (off:=0) k (bf _) rfl hs hx hy rfl kR.heap (by simp[hl]) kv ?_ ?_
 ·rw[e];exact fun _=>hS
 ·rw[e];exact h
end
section
variable{w:World}{S:bU}{ow:Ow}{b bs bm off nn cap j:Nat}{vs us:List Value}{R:GR}{g:GS}{s:RS}{x:D}{v5:Value}{Q:Exit→Act→World→Prop}{a:Act}
theorem ahf(hQ:QP Q)(hn:yj ow)(gm:GM w S ow b (R.cells g.bad) R g)(j6:R.la=R.lb)(me:R.va=R.vv)(hs:g.iC[0]? =some s)(N2:g.bJ.length≤5)(hx:Has C8 x)(cI:Ok s 20)
  (hbm:bm<w.heap.size) (SW:ow bm=none) (hj:j<nn) (zP:us.length=76) (zQ: ∀(q:Nat) v,us[q]? =some v→w.cell? ⟨bm,off+j*76+q,none⟩=some v) (R6:cH w S (.agg (us.drop 49).toArray) x)
  (k:Kn 151 a [(6,.int .i64 (j:Int)),(5,v5),(3,bp b),(0,.slice (some ⟨bm,off,none⟩) nn cap)])
  (jt: ∀a W S' bX B7 B9 ce co,Kn 151 a [(9,bp B9),(8,.int .i64 (cG x s).1.2.1),(7,bp B7),(6,.int .i64 (j:Int)),(5,v5),(3,bp b),(0,.slice (some ⟨bm,off,none⟩) nn cap)] →br LG ax w S ow W S' bX→nw W S' bX b (o6 0 (cG x s).2 g)→yj bX→
   iH W S' bX B7 78 ce→ce.length=29→cH W S' (.agg ce.toArray) (cG x s).1.1→Has eP (cG x s).1.1→iH W S' bX B9 75 co→co.length=8→cH W S' (.agg co.toArray) (cG x s).1.2.2→Has JD (cG x s).1.2.2→Q .normal a W):(Code.region 11 pY true).wp Try.prog Q a w:=by
 have iB:=gm.wf
 have iY:pY.size=21:=by kernel_rfl
 refine amr (fun bb=>ow bb=some 1000) mix fun w2 e2=> ?_
 have jB:=gm.bu e2
 have gI:br LG ax w S ow w2 S ow:=br.bu e2 LG ax S ow
 have s0:=SX.refl (fun bb=>ow bb=some 1000) w2
 have vJ: ¬ow b=some 1000:=by rw[jB.obj.ow];decide
 have Jd: ¬ow bm=some 1000:=by rw[SW];intro e;cases e
 have Sh:0<g.iC.length:=(aH.1 hs).1
 obtain⟨bs,Cj,fX,jA⟩:=jB.iC 0 s hs
 obtain⟨bl,Yz,E5,FX,mM,afs⟩:=jB.arr.elem (i:=0) (u:=bp bs) (by rw[j6,ah,Cj];rfl)
 have FZ:0<(R.la.map bp).length:=by rw[aw,j6,jB.vI];exact Sh
 have nq: ¬ow bl=some 1000:=by rw[mM];decide
 have awd:bm<w2.heap.size:=by rw[e2.heap];exact hbm
 refine seg (p:=[0,1,2,3,4,5,6,7,8,9,10]) (p2:=[0,1,2,3,4,5,6,7,8,9,10]) (n0:=11) (by kernel_rfl) hQ anE rfl ?_
 repeat (first|refine sm k fun a k=> ?_|refine ld k (jB.cell vJ rfl) fun a k=> ?_)
 rw[E5]at k
 refine CH (el:=52) (sz:=1) (s:=0) k rfl rfl FZ fun a k=> ?_
 refine qD (v:=bp bs) k (by assumption) rfl (by decide) rfl (by kernel_rfl) (by kernel_rfl) (gf FX nq (by rw[cd];exact afs)) fun a k=> ?_
 repeat refine sm k fun a k=> ?_
 refine qE (el:=51) (sz:=76) k (by assumption) rfl (by decide) rfl rfl (by kernel_rfl) (by kernel_rfl) (by omega) (by omega) fun a k=> ?_
 rw[cE]at k
 repeat refine sm k fun a k=> ?_
 refine lN (vs:=us.drop 49) k rfl (by rw[bF,zP]) (fun w' lu q v hv=>by
  rw[aO]at hv
  rw[fo]
  exact gf awd Jd ((bg (by rw[e2.heap])).trans (zQ (49+q) v hv)) w' lu) fun a k=> ?_
 refine aJ ⟨s0,?_⟩
 have P6:cH w2 S (.agg (us.drop 49).toArray) x:=R6.keep (S':=S) (w':=w2) (fun _ _ h=>h) (fun b o _=>e2.cell _)
 let F0:World→bU→Ow→Prop:=fun w S bX=>bX=ow∧GM w S bX b (R.cells g.bad) R g∧cH w S (.agg (us.drop 49).toArray) x
 let F1:List Value→List Value→World→bU→Ow→Prop:=fun ce co w S ow=>GM w S ow b (R.cells g.bad) R (o6 0 (cG x s).2 g)∧cH w S (.agg ce.toArray) (cG x s).1.1∧cH w S (.agg co.toArray) (cG x s).1.2.2
 have hF0: ∀w S ow o,Wf w S ow→F0 w S ow→F0 (w.alloc o) S ow:=fun w S ow o hw h=>⟨h.1,h.2.1.bw (br.alloc hw o).1 (br.alloc hw o).2,h.2.2.bw (br.alloc hw o).1⟩
 have hF1: ∀ce co w S ow o,Wf w S ow→F1 ce co w S ow→F1 ce co (w.alloc o) S ow:=fun ce co w S ow o hw h=>⟨h.1.bw (br.alloc hw o).1 (br.alloc hw o).2,h.2.1.bw (br.alloc hw o).1,h.2.2.bw (br.alloc hw o).1⟩
 let m0:List (Nat×Value):=[(55,bp bs),(60,.agg (us.drop 49).toArray),(6,.int .i64 (j:Int)),(5,v5),(3,bp b),(0,.slice (some ⟨bm,off,none⟩) nn cap)]
 let m1:List Value→List Value→List (Nat×Value):=fun ce co=> [(62,.agg ce.toArray),(63,.int .i64 (cG x s).1.2.1),(64,.agg co.toArray),(6,.int .i64 (j:Int)),(5,v5),(3,bp b),(0,.slice (some ⟨bm,off,none⟩) nn cap)]
 let J0:=JJ w S ow (fun bb=>ow bb=some 1000) w2 F0 m0
 let J1:=fun ce co=>JJ w S ow (fun bb=>ow bb=some 1000) w2 (F1 ce co) (m1 ce co)
 let A:=AT Try.prog pY Q (SX (fun bb=>ow bb=some 1000) w2)
 have XL:J0 none none a w2:=⟨S,ow,k.sub ⟨rfl,rfl,rfl,rfl,rfl,rfl,trivial⟩,jB.wf,gI,s0,⟨rfl,jB,P6⟩,hn,(fun _ h=>by cases h),(fun _ h=>by cases h),(fun _ h=>by cases h),(fun _ h=>by cases h),(fun _ h=>by cases h)⟩
 let C9:List Value→List Value→Prop:=fun ce co=>ce.length=29∧co.length=8∧(∀u∈ce,u.oneCell'=true)∧(∀u∈co,u.oneCell'=true)∧Has eP (cG x s).1.1∧Has JD (cG x s).1.2.2
 have aeH: ∀ce co B7 B9 a w,C9 ce co→J1 ce co (some B7) (some B9) a w→A [0,1,2,3,4,5,6,7,8,9,10,11,12,13,14,15,16,17] a w:=by
  rintro ce co B7 B9 a w3 ⟨Qg,uE,Xe,zR,hte,FT⟩ ⟨S3,qo,h⟩
  refine seg (p:=[18,19,20]) (p2:=[0,1,2,3,4,5,6,7,8,9,10,11,12,13,14,15,16,17,18,19,20]) (n0:=0) (by kernel_rfl) hQ anD rfl ?_
  obtain⟨z7,hz7,l7⟩:=h.c7 B7 rfl
  obtain⟨z9,hz9,l9⟩:=h.c9 B9 rfl
  have fY:B7≠B9:=fun e=>h.ne B7 rfl (by rw[e])
  obtain⟨g1,r1,r2⟩:=h.f
  obtain⟨sa,wa,la⟩:=l7.set (us:=ce) h.wf
  have l9a:=l9.bw sa (fun e=>fY e.symm)
  obtain⟨sb,wb,lb⟩:=l9a.set (us:=co) wa
  have jD:=la.bw sb fY
  have x1:=Mo h.sx (h.g7 B7 rfl) ce.toArray
  have x2:=Mo x1 (h.g9 B9 rfl) co.toArray
  refine Mk (vs:=ce) h.kn (by rw[Qg];kernel_rfl) rfl rfl l7 (by rw[hz7,Qg]) Xe x1 fun a k=> ?_
  refine Gg k x1 rfl (by decide) rfl fun a k=> ?_
  refine Mk (vs:=co) k (by rw[uE];kernel_rfl) rfl rfl l9a (by rw[hz9,uE]) zR x2 fun a k=> ?_
  refine aJ ⟨x2,YK (by rw[iY];decide) (by kernel_rfl) ?_⟩
  have BF:=h.st.ba iB h.wf sa (fun bb e=>by rw[show bb=B7 from e];rw[←e2.heap];exact h.g7 B7 rfl)
  have EX:=BF.ba iB wa sb (fun bb e=>by rw[show bb=B9 from e];rw[←e2.heap];exact h.g9 B9 rfl)
  have g2:=(g1.bw sa wa).bw sb wb
  exact jt _ _ _ _ B7 B9 ce co (k.sub ⟨rfl,rfl,rfl,rfl,rfl,rfl,rfl,trivial⟩) EX ⟨R,g2,j6,me⟩ h.n jD Qg ((r1.bw sa).bw sb) hte lb uE ((r2.bw sa).bw sb) FT
 have nAC: ∀ce co B7 a w,C9 ce co→J1 ce co (some B7) none a w→A [0,1,2,3,4,5,6,7,8,9,10,11,12,13,14,15,16] a w:=fun ce co B7 a w hc h=>
  seg (p:=[17]) (n0:=0) (by kernel_rfl) hQ Ol rfl (OA (hF1 ce co) iB h fun B a w h=>aeH ce co B7 B a w hc h)
 have nBC: ∀ce co B9 a w,C9 ce co→J1 ce co none (some B9) a w→A [0,1,2,3,4,5,6,7,8,9,10,11,12,13,14,15,17] a w:=fun ce co B9 a w hc h=>
  seg (p:=[16]) (n0:=0) (by kernel_rfl) hQ Om rfl (OB (hF1 ce co) iB h fun B a w h=>yX (aeH ce co B B9 a w hc h) rfl (by kernel_rfl))
 have nC: ∀ce co a w,C9 ce co→J1 ce co none none a w→A [0,1,2,3,4,5,6,7,8,9,10,11,12,13,14,15] a w:=by
  intro ce co a w hc h
  refine HG (R:=[16,17]) (by rw[iY];decide) (by kernel_rfl) (by decide) fun i hi=> ?_
  simp only[aM,fc,or_false]at hi
  rcases hi with rfl|rfl
  ·exact pr (by kernel_rfl) Om (OB (hF1 ce co) iB h fun B a w h=>nAC ce co B a w hc h)
  ·exact pr (by kernel_rfl) Ol (OA (hF1 ce co) iB h fun B a w h=>nBC ce co B a w hc h)
 have call: ∀(p p2:List Nat) b7 b9 a w,Db pY p [12,13,14,15] 4=true→p++[12,13,14,15] =p2→J0 b7 b9 a w→(∀ce co a w,C9 ce co→J1 ce co b7 b9 a w→A p2 a w)→TL Try.prog (jh pY [11]) (NQ (fun a w=>SX (fun bb=>ow bb=some 1000) w2 w∧A p a w) Q) (SX (fun bb=>ow bb=some 1000) w2) 0 [oC 61 16 #[(.tmp 55),(.tmp 60)] #[52,44]] [oC 61 16 #[(.tmp 55),(.tmp 60)] #[52,44]] 0 a w:=by
  rintro p p2 b7 b9 a w3 hp PK ⟨S3,qo,h⟩ hN
  obtain⟨how,g1,r1⟩:=h.f
  obtain⟨bs',JM,qu,-⟩:=g1.iC 0 s hs
  rw[Cj]at JM
  injection JM with JM
  subst JM
  refine j3 (vs:=[bp bs,.agg (us.drop 49).toArray]) h.kn (by decide) rfl (by decide) c16.enter ?_ (QK qu h.wf (by omega) hx r1 cI) ?_
  ·cases b7<;>cases b9<;>rfl
  rintro e9 w4 ⟨ve,vo,S4,Jj,rfl,jX,tU,alr,⟨Xc,hte⟩,qB,FT⟩
  have s4:SX (fun bb=>ow bb=some 1000) w2 w4:=by
   refine⟨aR h.sx.1 jX.size,fun bb hb hx=> ?_⟩
   refine Eq.trans ?_ (h.sx.2 bb hb hx)
   have hbw:=ar hb h.sx.1
   have aBP:bb<w.heap.size:=by rw[←e2.heap];exact hb
   cases ho:qo bb with
   |none=>exact jX.free bb hbw ho (fun h=>h)
   |some l=>
    refine jX.CJ bb l hbw ho (fun hl=>hx ?_)
    have hl:l=1000:=hl
    subst hl
    rw[←how];exact ho
  refine⟨_,rfl,fun h=>absurd rfl h,fun a k=>aJ ⟨s4,?_⟩⟩
  obtain⟨ce,de,rfl,Jf,Qg,aBL,alQ,-,aok⟩:=Mg Xc hte rfl
  obtain⟨co,Xo,rfl,hdo,uE,Ys,Qe,-,Dj⟩:=Mg qB FT rfl
  refine seg hp hQ anC PK ?_
  refine sm k fun a k=> ?_
  refine xK (j:=0) k (by assumption) rfl (by decide) rfl rfl fun a k=> ?_
  refine xK (j:=1) k (by assumption) rfl (by decide) rfl rfl fun a k=> ?_
  refine xK (j:=2) k (by assumption) rfl (by decide) rfl rfl fun a k=> ?_
  refine aJ ⟨s4,hN ce co a w4 ⟨Qg,uE,aok,Dj,hte,FT⟩ ?_⟩
  have BF:=h.st.gX iB h.wf jX (.inr (by omega))
  have iV:=g1.Dr (i:=0) (s':=(cG x s).2) jX tU Sh Cj alr (iz alr) N2
  refine⟨S4,Jj,?_,tU,BF,s4,⟨iV,Xc,qB⟩,h.n.bw jX (fun l hl=>by simp only[kG]at hl;subst hl;exact .inr (by omega)),fun B hB=> ?_,fun B hB=> ?_,h.g7,h.g9,h.ne⟩
  ·cases b7<;>cases b9<;>exact k.sub ⟨rfl,rfl,rfl,rfl,rfl,rfl,rfl,by repeat constructor⟩
  ·obtain⟨z,h1,h2⟩:=h.c7 B hB;exact⟨z,h1,h2.bw jX (fun h=>h)⟩
  ·obtain⟨z,h1,h2⟩:=h.c9 B hB;exact⟨z,h1,h2.bw jX (fun h=>h)⟩
 have nAB: ∀B7 B9 a w,J0 (some B7) (some B9) a w→A [0,1,2,3,4,5,6,7,8,9,10,16,17] a w:=fun B7 B9 a w h=>
  seg (p:=[11]) (n0:=0) (by kernel_rfl) hQ Oj rfl (call _ _ _ _ _ _ (by kernel_rfl) rfl h fun ce co a w hc h=>yX (aeH ce co B7 B9 a w hc h) rfl (by kernel_rfl))
 have nA: ∀B7 a w,J0 (some B7) none a w→A [0,1,2,3,4,5,6,7,8,9,10,16] a w:=by
  intro B7 a w h
  refine HG (R:=[11,17]) (by rw[iY];decide) (by kernel_rfl) (by decide) fun i hi=> ?_
  simp only[aM,fc,or_false]at hi
  rcases hi with rfl|rfl
  ·exact pr (by kernel_rfl) Oj (call _ _ _ _ _ _ (by kernel_rfl) rfl h fun ce co a w hc h=>yX (nAC ce co B7 a w hc h) rfl (by kernel_rfl))
  ·exact pr (by kernel_rfl) Ol (OA hF0 iB h fun B a w h=>nAB B7 B a w h)
 have nB: ∀B9 a w,J0 none (some B9) a w→A [0,1,2,3,4,5,6,7,8,9,10,17] a w:=by
  intro B9 a w h
  refine HG (R:=[11,16]) (by rw[iY];decide) (by kernel_rfl) (by decide) fun i hi=> ?_
  simp only[aM,fc,or_false]at hi
  rcases hi with rfl|rfl
  ·exact pr (by kernel_rfl) Oj (call _ _ _ _ _ _ (by kernel_rfl) rfl h fun ce co a w hc h=>yX (nBC ce co B9 a w hc h) rfl (by kernel_rfl))
  ·exact pr (by kernel_rfl) Om (OB hF0 iB h fun B a w h=>yX (nAB B B9 a w h) rfl (by kernel_rfl))
 refine HG (R:=[11,16,17]) (by rw[iY];decide) (by kernel_rfl) (by decide) fun i hi=> ?_
 simp only[aM,fc,or_false]at hi
 rcases hi with rfl|rfl|rfl
 ·exact pr (by kernel_rfl) Oj (call _ _ _ _ _ _ (by kernel_rfl) rfl XL fun ce co a w hc h=>nC ce co a w hc h)
 ·exact pr (by kernel_rfl) Om (OB hF0 iB XL fun B a w h=>nA B a w h)
 ·exact pr (by kernel_rfl) Ol (OA hF0 iB XL fun B a w h=>nB B a w h)
end
theorem GI: ∀{a b:List Ty} {x:List D},dK (.dJ (a++b)) x→dK (.dJ b) (x.drop a.length)
 | [],b,x,h=>h
 |t::a,b,x,h=>by
  obtain⟨d,r,rfl,_,h2⟩:=aj.1 (show dK (.cons t (.dJ (a++b))) x from h)
  show dK (.dJ b) (r.drop a.length)
  exact GI (a:=a) h2
def JR(d:D):D:=.agg (d.aV.drop 49)
theorem WM{d:D}(h:Has yL d):Has C8 (JR d):=by
 obtain⟨l,rfl,hl⟩:=eN.1 h
 exact eN.2 ⟨_,rfl,GI (a:=[I6,I6,.list (.int .u8)] ++SI) (b:=HA) hl⟩
theorem DK{p q:Int}(h:p=q):Hz .neq p q=some false:=by subst h;simp[Hz]
noncomputable def It:Code:=.seq (.seq (.region 10 TY false) (.cond (.tmp 48) (.exit 3) .skip)) (.seq (.region 11 pY true) (.seq (.region 12 TX false) (.seq (.seq (.region 13 TW false) (.cond (.tmp 100) (.seq (.region 14 aaU false) .ret) .skip)) (.region 15 TV false))))
section
variable{w:World}{S S0:bU}{ow:Ow}{b:Nat}{s:RS}{es ls:List D}{d:D}{j kk cap:Nat}{A:Option Addr}{Q:Exit→Act→World→Prop}{a:Act}
theorem YQ(hQ:QP Q)(h:nw w S ow b (ib s es))(hn:yj ow)(hL:Lone s es)(hlen:es.length≤4000000)(cI:fy (G 4194303) s (kk+2))(aBI:20≤kk)(XQ: ∀bb o,S0 bb o→bb<w.heap.size∧ow bb=none∧S bb o)(hr:cH w S0 (.slice A ls.length cap) (.list ls))(hj:ls[j]? =some d)(hd:Has yL d)
  (k:Kn 151 a [(6,.int .i64 (j:Int)),(5,.int .i64 (es.length:Int)),(3,bp b),(0,.slice A ls.length cap)])
  (abp: ∀a W,Kn 151 a [(6,.int .i64 (j:Int)),(5,.int .i64 (es.length:Int)),(3,bp b),(0,.slice A ls.length cap)] →br LG ax w S ow W S ow→nw W S ow b (ib s es)→Q (.exit 3) a W)
  (jt: ∀a W S' bX s' e,Kn 151 a [(6,.int .i64 (j:Int)),(5,.int .i64 ((es.length+1:Nat):Int)),(3,bp b),(0,.slice A ls.length cap)] →br LG ax w S ow W S' bX→nw W S' bX b (ib s' (es++[e]))→Lone s' (es++[e])→fy (G 4194303) s' kk→Q .normal a W):It.wp Try.prog Q a w:=by
 have lZ:j<ls.length:=(aH.1 hj).1
 have hx:=WM hd
 obtain⟨⟨l,wN,avM⟩,_,_,_,_,_⟩:=EB hd
 obtain⟨cl,jY,hcL⟩:=eN.1 hx
 obtain⟨_,_,alP,⟨n,rfl,hnk⟩,_⟩:=aj.1 (show dK (.cons I6 (.dJ (HA.drop 1))) cl from hcL)
 have PT:(cD 0 (JR d)).aq=n:=by rw[jY,alP];rfl
 have iB:=h.wf
 unfold It
 refine wp_seq (wp_seq (rg ax hQ amR ?_))
 intro w1 e1
 have h1:=h.bu e1
 have EZ:=hr.keep (S':=S0) (w':=w1) (fun _ _ h=>h) (fun b o _=>e1.cell _)
 have j8:br LG ax w S ow w1 S ow:=br.bu e1 LG ax S ow
 have s0:=SX.refl ax w1
 obtain⟨bm,off,HB,us,hv,hS,zP,zQ,Hb⟩:=EZ.OR hj hd (by rw[GO];omega)
 rw[GO]at hS zP zQ
 injection hv with hA _ ke
 subst hA ke
 have hbm:bm<w1.heap.size:=by rw[e1.heap];exact(XQ _ _ hS).1
 have SW:ow bm=none:=(XQ _ _ hS).2.1
 have u49:us[49]? =some (.int .i64 n):=by
  obtain⟨u,hu⟩: ∃u,us[49]? =some u:=⟨_,aW (by omega)⟩
  have hc:d.cells[49]? =some (.int .i64 n):=by
   subst wN
   have h2:l.drop 49=cl:=by injection jY
   rw[alP]at h2
   show l[49]? =_
   have h3:=congrArg (fun z=>z[0]?) h2
   simpa using h3
  rw[hu,(Hb 49 u _ hu hc).cX]
 repeat refine sm k fun a k=> ?_
 refine qE (el:=51) (sz:=76) k (by assumption) rfl (by decide) rfl rfl (by kernel_rfl) (by kernel_rfl) (by omega) (by omega) fun a k=> ?_
 rw[cE]at k
 repeat (first|refine sm k fun a k=> ?_|refine ld k (gf hbm (fun h=>h) (zQ 49 _ u49)) fun a k=> ?_)
 refine cm (c:=(n==1)) k rfl rfl rfl fun a k=> ?_
 refine sm k fun a k=> ?_
 by_cases qZ:(n==1)=true
 ·rw[qZ]at k
  repeat refine sm k fun a k=> ?_
  refine pk (c:=true) (v:=.bool true) k rfl rfl fun a k=> ?_
  refine aJ (bz k rfl (wp_exit ?_))
  exact abp _ _ (k.sub ⟨rfl,rfl,rfl,rfl,trivial⟩) j8 h1
 rw[dF.2 qZ]at k
 repeat refine sm k fun a k=> ?_
 refine qE (el:=51) (sz:=76) k (by assumption) rfl (by decide) rfl rfl (by kernel_rfl) (by kernel_rfl) (by omega) (by omega) fun a k=> ?_
 rw[cE]at k
 repeat (first|refine sm k fun a k=> ?_|refine ld k (gf hbm (fun h=>h) (zQ 49 _ u49)) fun a k=> ?_)
 refine cm (c:=(n==2)) k rfl rfl rfl fun a k=> ?_
 refine pk (c:=false) (v:=.bool (n==2)) k rfl rfl fun a k=> ?_
 refine aJ (bz k rfl ?_)
 by_cases wP:(n==2)=true
 ·rw[if_pos wP]
  exact wp_exit (abp _ _ (k.sub ⟨rfl,rfl,rfl,rfl,trivial⟩) j8 h1)
 rw[if_neg wP]
 refine wp_skip ?_
 have wW:(cD 0 (JR d)).aq≠1:=by rw[PT];intro e;exact qZ (by rw[e];rfl)
 have r7:(cD 0 (JR d)).aq≠2:=by rw[PT];intro e;exact wP (by rw[e];rfl)
 have k:=k.sub (l:=[(6,.int .i64 (j:Int)),(5,.int .i64 (es.length:Int)),(3,bp b),(0,.slice (some ⟨bm,off,none⟩) ls.length cap)]) ⟨rfl,rfl,rfl,rfl,trivial⟩
 obtain⟨hL',Ci,Xk,heo,heg⟩:=Q0 hL (by omega) wW r7
 have ae4:=Wj hL cI (by omega) wW r7
 have aol:Ok s 20:=Ks cI hL.idle (by omega) (by omega)
 generalize wX:(cG (JR d) s).2=s' at hL' heg ae4
 generalize hE:nE es 1 (aN 27 (JR d) [])=e at hL' Ci heo heg
 have Hf:e.aV.getD 0 .top= .int .i64 ((es.length:Int)+1):=by
  rw[←hE]
  show D.int .i64 ((0:Int)+es.length+1)=_
  rw[Int.zero_add]
 clear s0
 have h1':=h1
 obtain⟨R,eZ,j6,me⟩:=h1
 have R6:cH w1 S (.agg (us.drop 49).toArray) (JR d):=by
  subst wN
  refine .agg _ _ (by show _=(l.drop 49).length;rw[bF,bF,zP,avM]) (fun q u y h3 h4=> ?_)
  have h4':(l.drop 49)[q]? =some y:=h4
  rw[aO]at h3 h4'
  exact(Hb (49+q) u y h3 h4').keep (fun bb o hh=>(XQ bb o hh).2.2) (fun bb o _=>rfl)
 refine wp_seq (ahf (x:=JR d) (fun c a d v w h=>hQ c a d v w h) hn eZ j6 me rfl (by show 1≤5;omega) hx aol hbm SW lZ zP zQ R6 k ?_)
 intro a w3 S3 qo B7 B9 ce co k iQ hg3 hn3 l7 Qg Xc hte l9 uE qB FT
 rw[wX]at hg3
 rw[Ci]at Xc hte
 rw[Xk]at k
 rw[heo]at qB FT heg
 have jX:=o5 iB h1'.wf j8 iQ (fun _ h=>h.elim)
 obtain⟨ce',de,Tk,Jf,-,-,alQ,-,-⟩:=Mg Xc hte rfl
 injection Tk with Tk
 have Tk:=List.toArray_inj Tk
 subst Tk
 obtain⟨u0,RI⟩: ∃u,ce[0]? =some u:=⟨_,aW (by omega)⟩
 have alN:de[0]? =some (.int .i64 ((es.length:Int)+1)):=by
  have h3:=Hf
  rw[Jf]at h3
  have h3:de.getD 0 .top= .int .i64 ((es.length:Int)+1):=h3
  rw[av]at h3
  cases h4:de[0]? with
  |none=>rw[h4]at h3;cases h3
  |some c=>rw[h4]at h3;exact congrArg some h3
 obtain rfl:=(alQ 0 _ _ RI alN).cX
 obtain⟨co',Xo,Tj,hdo,-,-,Qe,-,-⟩:=Mg qB FT rfl
 injection Tj with Tj
 have Tj:=List.toArray_inj Tj
 subst Tj
 injection hdo with hdo
 subst hdo
 obtain⟨v0,ym⟩: ∃u,co[0]? =some u:=⟨_,aW (by omega)⟩
 obtain rfl:=(Qe 0 _ _ ym rfl).iE
 obtain⟨v5,N2⟩: ∃u,co[5]? =some u:=⟨_,aW (by omega)⟩
 obtain⟨A5,n5,c5,rfl,hn5⟩:=(Qe 5 _ _ N2 rfl).qd
 obtain⟨v6,hv6⟩: ∃u,co[6]? =some u:=⟨_,aW (by omega)⟩
 have RJ:=Qe 6 _ _ hv6 rfl
 obtain⟨bq,oq,cq,uq,rfl,hSq,avg,avh,avf⟩:=RJ.OR (j:=0) rfl hte (by decide)
 obtain⟨y0,Z4⟩: ∃u,uq[0]? =some u:=⟨_,aW (by rw[avg];decide)⟩
 obtain rfl:=(avf 0 _ _ Z4 (by rw[Jf];exact alN)).cX
 have hbq:bq<w3.heap.size:=hg3.wf.s _ _ hSq
 have hcq:=avh 0 _ Z4
 refine wp_seq (rg ax hQ amQ ?_)
 intro w5 e5
 have s0:=SX.refl ax w5
 repeat refine sm k fun a k=> ?_
 refine lI (s:=((es.length+1:Nat):Int)) k (by assumption) rfl (by decide) rfl rfl (wrap64 (by omega) (by omega)) fun a k=> ?_
 repeat refine sm k fun a k=> ?_
 refine aJ ?_
 have k:=k.sub (l:=[(9,bp B9),(8,.int .i64 0),(7,bp B7),(6,.int .i64 (j:Int)),(5,.int .i64 ((es.length+1:Nat):Int)),(3,bp b),(0,.slice (some ⟨bm,off,none⟩) ls.length cap)]) ⟨rfl,rfl,rfl,rfl,rfl,rfl,rfl,trivial⟩
 have h5:=hg3.bu e5
 have l7a:=l7.bw (br.bu e5 ax ax S3 qo) (fun h=>h)
 have l9a:=l9.bw (br.bu e5 ax ax S3 qo) (fun h=>h)
 have mw:=jX.ba iB hg3.wf (br.bu e5 ax ax S3 qo) (fun _ h=>h.elim)
 rw[←e5.cell]at hcq
 have hbq:bq<w5.heap.size:=by rw[e5.heap];exact hbq
 clear s0
 refine wp_seq (wp_seq (rg ax hQ amP ?_))
 intro w6 e6
 have h6:=h5.bu e6
 have l7b:=l7a.bw (br.bu e6 ax ax S3 qo) (fun h=>h)
 have l9b:=l9a.bw (br.bu e6 ax ax S3 qo) (fun h=>h)
 have mL:=mw.ba iB h5.wf (br.bu e6 ax ax S3 qo) (fun _ h=>h.elim)
 rw[←e6.cell]at hcq
 have hbq:bq<w6.heap.size:=by rw[e6.heap];exact hbq
 have s0:=SX.refl ax w6
 repeat refine sm k fun a k=> ?_
 refine cm (c:=false) k rfl rfl (DK rfl) fun a k=> ?_
 repeat (first|refine sm k fun a k=> ?_|refine ld k (l7b.cell (fun h=>h) RI) fun a k=> ?_)
 refine cm (c:=false) k rfl rfl (DK (by omega)) fun a k=> ?_
 refine pk (c:=false) (v:=.bool false) k rfl rfl fun a k=> ?_
 repeat (first|refine sm k fun a k=> ?_|refine ld k (l9b.cell (fun h=>h) hv6) fun a k=> ?_)
 refine cm (c:=false) k rfl rfl (DK rfl) fun a k=> ?_
 refine pk (c:=false) (v:=.bool false) k rfl rfl fun a k=> ?_
 repeat (first|refine sm k fun a k=> ?_|refine ld k (l9b.cell (fun h=>h) hv6) fun a k=> ?_)
 refine qE (el:=78) (sz:=29) k (by assumption) rfl (by decide) rfl rfl (by kernel_rfl) (by kernel_rfl) (by decide) (by show(0:Int)<((1:Nat):Int);decide) fun a k=> ?_
 repeat (first|refine sm k fun a k=> ?_|refine ld k (gf hbq (fun h=>h) hcq) fun a k=> ?_)
 refine cm (c:=false) k rfl rfl (DK (by omega)) fun a k=> ?_
 refine pk (c:=false) (v:=.bool false) k rfl rfl fun a k=> ?_
 repeat (first|refine sm k fun a k=> ?_|refine ld k (l9b.cell (fun h=>h) ym) fun a k=> ?_)
 refine uO k (by assumption) rfl (by decide) rfl fun a k=> ?_
 refine pk (c:=false) (v:=.bool false) k rfl rfl fun a k=> ?_
 repeat (first|refine sm k fun a k=> ?_|refine ld k (l9b.cell (fun h=>h) N2) fun a k=> ?_)
 refine cm (c:=false) k rfl rfl (DK rfl) fun a k=> ?_
 refine pk (c:=false) (v:=.bool false) k rfl rfl fun a k=> ?_
 refine aJ (bz k rfl (wp_skip ?_))
 have k:=k.sub (l:=[(9,bp B9),(6,.int .i64 (j:Int)),(5,.int .i64 ((es.length+1:Nat):Int)),(3,bp b),(0,.slice (some ⟨bm,off,none⟩) ls.length cap)]) ⟨rfl,rfl,rfl,rfl,rfl,trivial⟩
 clear s0
 refine rg ax hQ amO ?_
 intro w7 e7
 have h7:=h6.bu e7
 have l9c:=l9b.bw (br.bu e7 ax ax S3 qo) (fun h=>h)
 have pR:=mL.ba iB h6.wf (br.bu e7 ax ax S3 qo) (fun _ h=>h.elim)
 have avs:cH w7 S3 (.agg co.toArray) _:=((qB.bw (br.bu e5 ax ax S3 qo)).bw (br.bu e6 ax ax S3 qo)).bw (br.bu e7 ax ax S3 qo)
 have s0:=SX.refl ax w7
 repeat refine sm k fun a k=> ?_
 refine lN (vs:=co) k rfl uE (fun w' lu q v hv=>by rw[ay];exact l9c.cell (fun h=>h) hv w' lu) fun a k=> ?_
 have hen:(cD 0 e).aq=(es.length:Int)+1:=by
  show(e.aV.getD 0 .top).aq=_
  rw[Hf];rfl
 refine j3 (vs:=[bp b,.int .i64 ((0:Nat):Int),.agg co.toArray,.bool false]) k (by decide) rfl (by decide) yT rfl (xQ (g:=o6 0 s' (ib s es)) h7 hn3 ⟨by show 1≤5;omega,rfl,rfl,rfl,by show 2≤2000000;omega,?_⟩ (by show 0<1;omega) (Ks ae4 hL'.idle (by omega) (by omega)) avs FT rfl ?_ (by show 0≤5000000000;omega) ?_ ?_) ?_
 ·intro l hl
  have hl:l∈ [[D.int .i64 0,D.int .i64 1]] :=hl
  rw[aA]at hl
  subst hl;show 2≤2000000;omega
 ·show es.length+1≤_;omega
 ·intro x hx
  have hx:x∈ [e] :=hx
  rw[aA]at hx
  subst hx
  rw[hen];omega
 ·show es.length+1≤_;omega
 rintro e9 w8 ⟨S8,ow8,rfl,uh,hg8⟩
 refine⟨_,rfl,fun h=>absurd rfl h,fun a k=> ?_⟩
 rw[heg]at hg8
 exact aJ (jt _ _ S8 ow8 s' e (k.sub ⟨rfl,rfl,rfl,rfl,trivial⟩) (o5 iB h7.wf pR uh (fun _ h=>h.elim)) hg8 hL' ae4)
end
end Go.Proofs.Ytjhmkaninmgilaa
namespace Go.Proofs.Ytjhmkaninmgilaa
open Go Go.RowKit Go.dV Go.Proofs
theorem afA{t:Ty}{d:D}(h:Has t d)(hs:t.scalar=true):1≤d.wt:=by
 cases t with
 |int k=>obtain⟨n,rfl,_⟩:=dA.1 h;simp[D.wt]
 |bool=>obtain⟨n,rfl⟩:=dz.1 h;simp[D.wt]
 |str=>obtain⟨n,rfl⟩:=oa.1 h;simp[D.wt]
 |list t=>obtain⟨l,rfl,_⟩:=bK.1 h;simp[D.wt]
 |box t=>obtain⟨l,rfl,_⟩:=jH.1 h;simp[D.wt]
 |ptr t=>rcases m9.1 h with rfl|⟨l,rfl,_⟩<;>simp[D.wt]
 |fn f t=>obtain⟨l,rfl,_⟩:=mo.1 h;simp[D.wt]
 |agg t=>cases hs
 |fx t=>cases hs
 |nil=>cases hs
 |cons h t=>cases hs
theorem Ic: ∀{l:List D},(∀d∈l,1≤d.wt)→l.length≤qz l
 | [],_=>bf _
 |d::r,h=>by
  have h1:=h d bI
  have h2:=Ic (l:=r) (fun x hx=>h x (aI _ hx))
  simp only[qz,bM];omega
theorem OU{c:Nat}: ∀{l:List D},(∀d∈l,c≤d.wt)→c*l.length≤qz l
 | [],_=>bf _
 |d::r,h=>by
  have h1:=h d bI
  have h2:=OU (l:=r) (fun x hx=>h x (aI _ hx))
  simp only[qz,bM,Nat.mul_succ];omega
theorem OV: ∀{l:List D} {j:Nat} {x:D},(∀d∈l,1≤d.wt)→l[j]? =some x→x.wt+l.length≤qz l+1
 | [],j,x,_,hx=>by simp at hx
 |d::r,0,x,h,hx=>by
  injection hx with hx
  subst hx
  have h2:=Ic (l:=r) (fun x hx=>h x (aI _ hx))
  simp only[qz,bM];omega
 |d::r,j+1,x,h,hx=>by
  have h1:=h d bI
  have h2:=OV (l:=r) (j:=j) (fun x hx=>h x (aI _ hx)) hx
  simp only[qz,bM];omega
theorem Kl{ts:List Ty}{l:List D}(h:dK (.dJ ts) l)(hs:ts.all Ty.scalar=true): ∀d∈l,1≤d.wt:=by
 intro d hd
 obtain⟨j,hj⟩:=aE hd
 have hl:l.length=ts.length:=by rw[il h,Ty.fa]
 have lZ:=(aH.1 hj).1
 obtain⟨x,hx,hh⟩:=dY h j _ (by rw[Ty.fa];exact aW (show j<ts.length by omega))
 rw[hj]at hx
 injection hx with hx
 subst hx
 exact afA hh (cn.1 hs _ (aX _))
theorem agY{m:D}(h:Has mj m):46+29*(cD 12 m).aV.length≤m.wt:=by
 obtain⟨l,rfl,hl⟩:=eN.1 h
 have qY:l.length=46:=by rw[il hl,Ty.fa];rfl
 obtain⟨x,hx,hh⟩:=dY hl 12 (.list eP) (by rw[Ty.fa];rfl)
 obtain⟨es,rfl,_,rI⟩:=bK.1 hh
 have hc:(cD 12 (D.agg l)).aV=es:=by
  show(l.getD 12 .top).aV=es
  rw[av,hx];rfl
 have h1:=OV (Kl hl rfl) hx
 have h29:=OU (c:=29) (l:=es) (fun d hd=>by
  obtain⟨q,rfl,hq⟩:=eN.1 (rI d hd)
  have h2:=Ic (Kl hq rfl)
  have h3:q.length=29:=by rw[il hq,Ty.fa];rfl
  simp only[D.wt];omega)
 rw[hc]
 simp only[D.wt]at h1⊢
 omega
theorem Rm{d:D}(h:Has yL d):46+29*(cD 12 (akW d)).aV.length≤d.wt:=by
 obtain⟨⟨l,rfl,qY⟩,_,_,_,_,hm⟩:=EB h
 refine aR (agY hm) ?_
 show qz ((l.drop 3).take 46)≤qz l
 have h1:qz (l.take 3)+qz (l.drop 3)=qz l:=by rw[←te,ev]
 have h2:qz ((l.drop 3).take 46)+qz ((l.drop 3).drop 46)=qz (l.drop 3):=by rw[←te,ev]
 omega
attribute [local irreducible] TL
theorem GN: ∀{ls:List D},(∀d∈ls,Has yL d)→ls.length≤qz ls
 | [],_=>bf _
 |d::r,h=>by
  have h1:=Rm (h d bI)
  have h2:=GN (ls:=r) (fun x hx=>h x (aI _ hx))
  show r.length+1≤d.wt+qz r
  omega
noncomputable def Eb(K:Code):Code:=.seq (.seq (.region 7 aex false) (.block 2 (.loop (.seq (.seq (.region 8 aew false) (.cond (.tmp 30) .skip (.exit 2))) (.seq (.block 3 It) (.region 9 X9 false)))))) K
section
variable{w0 w:World}{S0 S:bU}{ow:Ow}{b:Nat}{ls:List D}{cap:Nat}{A:Option Addr}{Q:Exit→Act→World→Prop}{a:Act}
theorem Kx{j:Nat}{n:Int}{vl:Value}(hQ:QP Q)(k:Kn 151 a [(6,.int .i64 (j:Int)),(5,.int .i64 n),(3,bp b),(0,vl)])(hj:j≤1048576)(h: ∀a' w',Cn w w'→Kn 151 a' [(6,.int .i64 ((j+1:Nat):Int)),(5,.int .i64 n),(3,bp b),(0,vl)] →Q .normal a' w'):(Code.region 9 X9 false).wp Try.prog Q a w:=by
 refine rg ax hQ aue ?_
 intro w8 e8
 have s0:=SX.refl ax w8
 repeat refine sm k fun a k=> ?_
 refine lI (s:=((j+1:Nat):Int)) k (by assumption) rfl (by decide) rfl rfl (wrap64 (by omega) (by omega)) fun a k=> ?_
 repeat refine sm k fun a k=> ?_
 exact aJ (h _ _ e8 (k.sub ⟨rfl,rfl,rfl,rfl,trivial⟩))
theorem Wi{K:Code}(hQ:QP Q)(gO:Wf w0 S0 (fun _=>none))(st:br LG ax w0 S0 (fun _=>none) w S ow)(h:nw w S ow b (ib sQ sQ.le))(hr:cH w0 S0 (.slice A ls.length cap) (.list ls))(hh:Has (.list yL) (.list ls))(hlen:ls.length≤1048576)
  (k:Kn 151 a [(5,.int .i64 1),(3,bp b),(0,.slice A ls.length cap)])
  (hK: ∀a W S' bX s es,Kn 151 a [(5,.int .i64 (es.length:Int)),(3,bp b)] →br LG ax w0 S0 (fun _=>none) W S' bX→nw W S' bX b (ib s es)→Lone s es→es.length≤1048577→fy (G 4194303) s 40→K.wp Try.prog Q a W):(Eb K).wp Try.prog Q a w:=by
 unfold Eb
 refine wp_seq (wp_seq (rg ax hQ aug ?_))
 intro w1 e1
 have s0:=SX.refl ax w1
 repeat refine sm k fun a k=> ?_
 refine aJ ?_
 refine wp_block (wp_loop_ghost (fun mm a W=> ∃(j:Nat) (S1:bU) (fE:Ow) (s:RS) (es:List D),mm=ls.length-j∧j≤ls.length∧Kn 151 a [(6,.int .i64 (j:Int)),(5,.int .i64 (es.length:Int)),(3,bp b),(0,.slice A ls.length cap)] ∧br LG ax w0 S0 (fun _=>none) W S1 fE∧nw W S1 fE b (ib s es)∧Lone s es∧es.length≤1+j∧fy (G 4194303) s (4194303-2*j)) (ls.length-0)
  ⟨0,S,ow,sQ,sQ.le,rfl,bf _,k.sub ⟨rfl,?_,rfl,rfl,trivial⟩,st.ba gO h.wf (br.bu e1 ax ax S ow) (fun _ h=>h.elim),h.bu e1,Zp,by rw[HI];omega,agp⟩ ?_)
 ·rw[HI];rfl
 clear k s0 e1 w1 h st
 rintro mm a W ⟨j,S1,fE,s,es,rfl,hjn,k,st,h,hL,Fb,cI⟩
 refine wp_seq (wp_seq (rg ax hQ auf ?_))
 intro w2 e2
 have h2:=h.bu e2
 have gI:=st.ba gO h.wf (br.bu e2 ax ax S1 fE) (fun _ h=>h.elim)
 have s0:=SX.refl ax w2
 repeat refine sm k fun a k=> ?_
 refine cm (c:=decide ((j:Int)<(ls.length:Int))) k rfl rfl rfl fun a k=> ?_
 refine aJ (bz k rfl ?_)
 have k:=k.sub (l:=[(6,.int .i64 (j:Int)),(5,.int .i64 (es.length:Int)),(3,bp b),(0,.slice A ls.length cap)]) ⟨rfl,rfl,rfl,rfl,trivial⟩
 by_cases bP:(j:Int)<(ls.length:Int)
 ·rw[if_pos (by simpa using bP)]
  refine wp_skip ?_
  have hj:j<ls.length:=by omega
  have hd:ls[j]? =some (ls[j]'hj):=aW hj
  obtain⟨kk,LF⟩: ∃kk,4194303-2*j=kk+2:=⟨4194303-2*j-2,by omega⟩
  rw[LF]at cI
  have kO:=na hh _ (ca hd)
  have hn2:yj fE:=fun bb l hl=>(gI.jD bb l hl).elim (fun e=>by cases e) id
  have XQ: ∀bb o,S0 bb o→bb<w2.heap.size∧fE bb=none∧S1 bb o:=fun bb o hs=>⟨ar (gO.s bb o hs) gI.size,gI.rQ bb (gO.s bb o hs) rfl,gI.kJ bb o hs⟩
  have nK:cH w2 S0 (.slice A ls.length cap) (.list ls):=hr.keep (fun _ _ h=>h) gI.cell
  refine wp_seq (wp_block (YQ (kk:=kk) (fun c a d v w h=>hQ c a d v w h) h2 hn2 hL (by omega) cI (by omega) XQ nK hd kO k ?_ ?_))
  ·intro a W k iQ h3
   refine Kx (fun c a d v w h=>hQ c a d v w h) k (by omega) fun a w8 e8 k=> ?_
   exact⟨ls.length-(j+1),by omega,j+1,S1,fE,s,es,rfl,by omega,k,(o5 gO h2.wf gI iQ (fun _ h=>h.elim)).ba gO h3.wf (br.bu e8 ax ax S1 fE) (fun _ h=>h.elim),h3.bu e8,hL,by omega,by rw[show 4194303-2*(j+1)=kk by omega];exact cI.le (by omega)⟩
  ·intro a W S' bX s' e k iQ h3 hL' yw
   refine Kx (fun c a d v w h=>hQ c a d v w h) k (by omega) fun a w8 e8 k=> ?_
   have av0:(es++[e]).length=es.length+1:=by simp
   exact⟨ls.length-(j+1),by omega,j+1,S',bX,s',es++[e],rfl,by omega,by rw[av0];exact k,(o5 gO h2.wf gI iQ (fun _ h=>h.elim)).ba gO h3.wf (br.bu e8 ax ax S' bX) (fun _ h=>h.elim),h3.bu e8,hL',by omega,by rw[show 4194303-2*(j+1)=kk by omega];exact yw⟩
 ·rw[if_neg (by simpa using bP)]
  refine wp_exit ?_
  exact hK _ _ S1 fE s es (k.sub ⟨rfl,rfl,trivial⟩) gI h2 hL (by omega) (cI.le (by omega))
end
theorem O9{C k:Nat}{s:RS}{es:List D}(h:One s es)(cI:fy C s k):fN 0 0 es=true∧nI 0 0 [] 0 0 es=true∧(lH 0 0 [] 0 0 es).2=es∧fm es=true:=by
 have hm:=cI.may
 have hc:=cI.cl
 rw[h.le]at hm hc
 rw[h.li,h.lt]at hm
 have ha:nI 0 0 [] 0 0 es=true:=by unfold nI;rw[hm];rfl
 refine⟨hm,ha,?_,hc⟩
 unfold lH
 rw[if_pos ha]
 cases es with
 |nil=>rfl
 |cons x r=>
  have hx:=(kF.1 (iX.1 hm).2).1
  have hh:B1 0 0 [] x=false:=by
   unfold B1 jE
   rw[hx,if_neg (by decide),if_neg (by decide)]
   rfl
  unfold yA
  rw[hh,hx]
  rfl
theorem agW{C k:Nat}{s:RS}{es:List D}(h:One s es)(cI:fy C s k)(hlen:es.length≤1048577):Ok (sq 1 [.int .i64 1] [] 1 1 es) 40:=by
 obtain⟨h1,-,-,h2⟩:=O9 h cI
 refine⟨h1,(by decide:(1:Int)≤1),(by decide:(1:Int)≤5),by show es.length+40≤_;omega,by show 0+40≤_;omega,by show 0+40≤_;omega,?_,by show 0+40≤_;omega,(by decide+kernel:gC (.agg [.list [.int .i64 1],.list []])=true),fun h=>absurd h (by show¬(0:Int)<0;decide),h2,(by decide:(0:Int)≤1),(by decide:(1:Int)≤MX),rfl⟩
 show 0+G 40≤_
 unfold G;omega
theorem Zz{C k:Nat}{s:RS}{es:List D}{j:Int}(h:HC s es j)(h0:0≤j)(h9:j<9)(cI:fy C s k):fy C (fW 0 s).2 k:=by
 rw[Gi h.role h.wait h0 h9 h.end_]
 exact fy.done (cI.same ig)
noncomputable def abR:List Value:=((Try.prog.built 51 [(0,.int .i64 11)]).getD #[]).toList
noncomputable def D8(K:Code):Code:=.seq (.region 16 TU false) (.seq (.region 17 TS false) K)
theorem KK{s:RS}{es:List D}:Fy (ib s es):=by
 refine⟨by show 1≤5;omega,rfl,rfl,rfl,by show 2≤2000000;omega,?_⟩
 intro l hl
 have hl:l∈ [[D.int .i64 0,D.int .i64 1]] :=hl
 rw[aA]at hl
 subst hl;show 2≤2000000;omega
section
variable{w0 w:World}{S0 S:bU}{ow:Ow}{b:Nat}{s:RS}{es xs cs en:List D}{v:Value}{Q:Exit→Act→World→Prop}{a:Act}{n j:Int}
theorem Wg{C:Nat}{K:Code}(hQ:QP Q)(h:nw w S ow b (ib s es))(hL:Lone s es)(hlen:es.length≤1048577)(cI:fy C s 40)(k:Kn 151 a [(5,.int .i64 n),(3,bp b)])
  (hK: ∀a W S' bX s',Kn 151 a [(10,.slice none 0 0),(5,.int .i64 n),(3,bp b)] →br LG ax w S ow W S' bX→nw W S' bX b (ib s' es)→HC s' es 0→Ok s' 40→K.wp Try.prog Q a W):(D8 K).wp Try.prog Q a w:=by
 have iB:=h.wf
 obtain⟨q1,q2,q3,q4⟩:=O9 hL.one cI
 have q5:=agW hL.one cI hlen
 have hF:=WC es
 unfold D8
 refine wp_seq (rg ax hQ amN ?_)
 intro w1 e1
 have h1:=h.bu e1
 have j8:br LG ax w S ow w1 S ow:=br.bu e1 LG ax S ow
 have s0:=SX.refl ax w1
 repeat refine sm k fun a k=> ?_
 refine p9 (ps:=[(0,.int .i64 11)]) (vs:=abR) k (by assumption) rfl (by decide) rfl (by kernel_rfl) fun a k=> ?_
 refine j3 (vs:=[bp b,.agg abR.toArray]) k (by decide) rfl (by decide) Pn rfl (I1 (g:=ib s es) (T:=1) (V:=1) (es:=es) h1 KK (by show 0<1;omega) (by kernel_rfl) (by kernel_rfl) rfl (by show gC (.agg [.list [.int .i64 1],.list []])=true;decide+kernel) ?_ (by decide) (by decide) q2 q4 q3 (by rw[hL.last];decide) (by omega) q1 (q5.le (by omega))) ?_
 ·refine eN.2 ⟨_,rfl,aj.2 ⟨_,_,rfl,⟨_,rfl,pN (by show 1≤_;omega),?_⟩,aj.2 ⟨_,_,rfl,⟨_,rfl,pN (by show 0≤_;omega),?_⟩,dr.2 rfl⟩⟩⟩
  ·intro x hx
   have hx:x∈ [D.int .i64 1] :=hx
   rw[aA]at hx
   subst hx;exact⟨1,rfl,by decide⟩
  ·intro x hx;cases hx
 rintro e w4 ⟨S4,Jj,rfl,jX,h4⟩
 refine⟨_,rfl,fun h=>absurd rfl h,fun a k=> ?_⟩
 refine aJ ?_
 have he:UD 0 (sq 1 (ib s es).fv (ib s es).fl 1 1 es) (ib s es)=ib (sq 1 [.int .i64 1] [] 1 1 es) es:=D1 hF.term hF.vote
 rw[he]at h4
 generalize sq 1 [.int .i64 1] [] 1 1 es=s' at h4 hF q5
 have k:=k.sub (l:=[(5,.int .i64 n),(3,bp b)]) ⟨rfl,rfl,trivial⟩
 have mw:=o5 iB h1.wf j8 jX (fun _ h=>h.elim)
 clear s0
 refine wp_seq (rg ax hQ amM ?_)
 intro w6 e6
 have s0:=SX.refl ax w6
 repeat refine sm k fun a k=> ?_
 exact aJ (hK _ _ S4 Jj s' (k.sub ⟨rfl,rfl,rfl,trivial⟩) (mw.ba iB h4.wf (br.bu e6 ax ax S4 Jj) (fun _ h=>h.elim)) (h4.bu e6) hF q5)
noncomputable def DP:Code:=.seq (.region 21 TP false) (.seq (.region 22 TO false) (.region 23 TN false))
theorem GK{sv:Bool}{T V:Int}(hQ:QP Q)(gO:Wf w0 S0 (fun _=>none))(st:br LG ax w0 S0 (fun _=>none) w S ow)(h:nw w S ow b (ib s es))(cI:Ok s 20)(wU:Ok (fW 0 s).2 0)
  (ho:(fW 0 s).1= .agg [.bool sv,.int .i64 T,.int .i64 V,.list en,.gW,.list [],.list cs,.list []]) (hen:en.length≤1) (rI:es.length≤1048577) (kP:xc cs) (jY:cs.length≤1048578) (nq:xs.length≤1048578)
  (hv:lL w S ow 78 eP v xs) (ym: ∀b,v.ownBlock=some b→w0.heap.size≤b) (k:Kn 151 a [(11,.int .i64 j),(10,v),(5,.int .i64 n),(3,bp b)])
  (hK: ∀a W S' bX v',Kn 151 a [(11,.int .i64 j),(10,v'),(5,.int .i64 n),(3,bp b)] →br LG ax w0 S0 (fun _=>none) W S' bX→nw W S' bX b (qH 0 0 (ib s es))→lL W S' bX 78 eP v' (xs++cs)→(∀b,v'.ownBlock=some b→w0.heap.size≤b)→Q .normal a W):DP.wp Try.prog Q a w:=by
 have hn:yj ow:=fun bb l hl=>(st.jD bb l hl).elim (fun e=>by cases e) id
 have iB:=h.wf
 obtain⟨R,gm,j6,me⟩:=h
 unfold DP
 refine wp_seq (rg (fun bb=>ow bb=some 1000) hQ amI ?_)
 intro w1 e1
 have eZ:=gm.bu e1
 have j8:=st.ba gO gm.wf (br.bu e1 ax ax S ow) (fun _ h=>h.elim)
 have FR:=hv.bw (br.bu e1 ax ax S ow) (fun _ _ h=>h)
 have s0:=SX.refl (fun bb=>ow bb=some 1000) w1
 have vJ: ¬ow b=some 1000:=by rw[eZ.obj.ow];decide
 obtain⟨bs,Cj,fX,jA⟩:=eZ.iC 0 s rfl
 obtain⟨bl,cap,E5,FX,mM,afs⟩:=eZ.arr.elem (i:=0) (u:=bp bs) (by rw[j6,ah,Cj];rfl)
 have FZ:0<(R.la.map bp).length:=by rw[aw,j6,eZ.vI];show 0<1;omega
 have au7: ¬ow bl=some 1000:=by rw[mM];decide
 repeat (first|refine sm k fun a k=> ?_|refine ld k (eZ.cell vJ rfl) fun a k=> ?_)
 rw[E5]at k
 refine CH (el:=52) (sz:=1) (s:=0) k rfl rfl FZ fun a k=> ?_
 refine qD (v:=bp bs) k (by assumption) rfl (by decide) rfl (by kernel_rfl) (by kernel_rfl) (gf FX au7 (by rw[cd];exact afs)) fun a k=> ?_
 refine j3 (vs:=[bp bs,.int .i64 0]) k (by decide) rfl (by decide) c15.enter rfl (Az fX eZ.wf (by omega) (by decide) cI) ?_
 rintro e w2 ⟨vo,S2,tC,rfl,gI,jn,BY,nK,N3⟩
 rw[ho]at nK N3
 have s2:SX (fun bb=>ow bb=some 1000) w1 w2:=SX.jD (fun _ h=>h) gI
 refine⟨_,rfl,fun _=>s2,fun a k=> ?_⟩
 have jB:=eZ.Dr (i:=0) gI jn (by show 0<1;omega) Cj BY (iz BY) (by show 1≤5;omega)
 have iQ:=j8.gX gO eZ.wf gI (.inr (by omega))
 have hn2:yj tC:=hn.bw gI (fun l hl=>by simp only[kG]at hl;subst hl;exact .inr (by omega))
 have Jo:=FR.bw gI (fun _ _ h=>h)
 obtain⟨co,Xo,rfl,hdo,uE,-,Qe,-,Dj⟩:=Mg nK N3 rfl
 injection hdo with hdo
 subst hdo
 have uE:co.length=8:=uE
 refine oO (nn:=8) k (by decide) rfl (by decide) (by kernel_rfl) (fun zs _=>AX s2 _) fun zs hz a k=> ?_
 refine Mk (vs:=co) k (by rw[uE];kernel_rfl) rfl rfl (iH.new jn 75 zs) (by rw[hz,uE]) Dj (Mo (AX s2 _) s2.1 _) fun a k=> ?_
 refine aJ ?_
 obtain⟨jX,tU,zU⟩:=ql (T:=75) (zs:=zs) (us:=co) jn
 have hvb: ∀bb,v.ownBlock=some bb→ ¬kG w2.heap.size bb:=fun bb hb e=>by have:=(Jo.fr bb hb).1;rw[show bb=w2.heap.size from e]at this;exact Nat.lt_irrefl _ this
 have mh:=jB.bw jX tU
 have hv4:=Jo.bw jX hvb
 have mw:=iQ.ba gO jn jX (fun bb e=>by rw[show bb=_ from e];exact iQ.size)
 have aft: ∀bb,v.ownBlock=some bb→bb≠w2.heap.size:=fun bb hb e=>hvb bb hb e
 have XE:=nK.bw jX
 have Uy: ∀(q:Nat) u c,co[q]? =some u→ [D.bool sv,.int .i64 T,.int .i64 V,.list en,.gW,.list [],.list cs,.list []][q]? =some c→cH _ S2 u c:=fun q u c h1 h2=>(Qe q u c h1 h2).bw jX
 generalize w2.heap.size=b12 at k zU mw aft mh hv4 tU XE Uy⊢
 generalize (w2.alloc _).setRow b12 _=W4 at zU mw mh hv4 tU XE Uy⊢
 have k:=k.sub (l:=[(12,bp b12),(11,.int .i64 j),(10,v),(5,.int .i64 n),(3,bp b)]) ⟨rfl,rfl,rfl,rfl,rfl,trivial⟩
 clear s0 s2
 refine wp_seq (rg (fun bb=>v.ownBlock=some bb) hQ amH ?_)
 intro w5 e5
 have my:=mh.bu e5
 have mL:=mw.ba gO mh.wf (br.bu e5 ax ax S2 tC) (fun _ h=>h.elim)
 have N2:=hv4.bw (br.bu e5 ax ax S2 tC) (fun _ _ h=>h)
 have FQ:=zU.bu e5
 have s0:=SX.refl (fun bb=>v.ownBlock=some bb) w5
 obtain⟨v6,hv6⟩: ∃u,co[6]? =some u:=⟨_,aW (by omega)⟩
 have RJ:=(Uy 6 _ _ hv6 rfl).bw (br.bu e5 ax ax S2 tC)
 have RN:Has (.list eP) (.list cs):=by
  obtain⟨l,xy,qq⟩:=eN.1 N3
  injection xy with xy
  subst xy
  obtain⟨x,hx,hh⟩:=dY qq 6 (.list eP) (by rw[Ty.fa];rfl)
  injection hx with hx
  subst hx
  exact hh
 obtain⟨A6,c6,rfl⟩:=RJ.qd
 obtain⟨A',c',news,E7,hA,yo,zZ,BS⟩:=RJ.source (fun d hd=>(cN (na RN d hd)).1)
 injection E7 with hxA _ W8
 subst hxA W8
 repeat (first|refine sm k fun a k=> ?_|refine ld k (FQ.cell (fun h=>aft _ h rfl) hv6) fun a k=> ?_)
 refine yq k (by decide) rfl (by decide) fun ty pos af=> ?_
 obtain⟨v',w',fh,pR,Je,hv7,Jm⟩:=N2.pv (P:=Try.prog) (tt:=28) (ys:=cs) (by kernel_rfl) rfl my.wf ty A6 c6 news hA yo zZ (na RN) BS (wB (by omega))
 have s7:SX (fun bb=>v.ownBlock=some bb) w5 w':=⟨pR.size,fun bb hb hx=>by
  cases ho:tC bb with
  |none=>exact pR.free bb hb ho hx
  |some l=>exact pR.CJ bb l hb ho (fun h=>h)⟩
 refine⟨v',w',k8 (k.op rfl) (k.op rfl) fh,fun _=>s7,fun a k=> ?_⟩
 repeat refine sm k fun a k=> ?_
 refine aJ ?_
 have LN:=my.bw pR Je
 have lo7:=FQ.bw pR (fun h=>aft _ h rfl)
 have uh:=mL.ba gO my.wf pR ym
 have hr7:=(XE.bw (br.bu e5 ax ax S2 tC)).bw pR
 have k:=k.sub (l:=[(12,bp b12),(11,.int .i64 j),(10,v'),(5,.int .i64 n),(3,bp b)]) ⟨rfl,rfl,rfl,rfl,rfl,trivial⟩
 have ave: ∀b,v'.ownBlock=some b→w0.heap.size≤b:=fun bb hb=>(Jm bb hb).elim (ym bb) (fun h=>aR mL.size h)
 clear s0 s7
 refine rg ax hQ amG ?_
 intro w8 e8
 have r8:=LN.bu e8
 have Lw:=uh.ba gO Je (br.bu e8 ax ax S2 tC) (fun _ h=>h.elim)
 have hv8:=hv7.bw (br.bu e8 ax ax S2 tC) (fun _ _ h=>h)
 have lo8:=lo7.bu e8
 have hr8:=hr7.bw (br.bu e8 ax ax S2 tC)
 have s0:=SX.refl ax w8
 repeat refine sm k fun a k=> ?_
 refine lN (vs:=co) k rfl uE (fun w' lu q v hv=>by rw[ay];exact lo8.cell (fun h=>h) hv w' lu) fun a k=> ?_
 refine j3 (vs:=[bp b,.int .i64 ((0:Nat):Int),.agg co.toArray,.bool false]) k (by decide) rfl (by decide) yT rfl (xQ (g:=o6 0 (fW 0 s).2 (ib s es)) ⟨_,r8,j6,me⟩ hn2 KK (by show 0<1;omega) wU hr8 N3 rfl ?_ (by show 0≤5000000000;omega) ?_ ?_) ?_
 ·show es.length+en.length≤_;omega
 ·intro x hx
  have hx:x∈cs:=hx
  obtain⟨q,hq⟩:=aE hx
  have FU:=(aH.1 hq).1
  rw[kP q x hq];omega
 ·show es.length+1≤_;omega
 rintro e9 w10 ⟨S10,aup,rfl,JA,alJ⟩
 refine⟨_,rfl,fun h=>absurd rfl h,fun a k=> ?_⟩
 have ou:uJ 0 (.agg [.bool sv,.int .i64 T,.int .i64 V,.list en,.gW,.list [],.list cs,.list []]) false (o6 0 (fW 0 s).2 (ib s es))=qH 0 0 (ib s es):=by
  unfold qH
  rw[show ka (ib s es) 0=s from rfl,ho]
 rw[ou]at alJ
 exact aJ (hK _ _ S10 aup v' (k.sub ⟨rfl,rfl,rfl,rfl,trivial⟩) (o5 gO r8.wf Lw JA (fun _ h=>h.elim)) alJ (hv8.bw JA (fun _ _ h=>h)) ave)
end
def vR(w0:World):Exit→Act→World→Prop:=bodyPost Try.prog Try.f4 (fun e w'=>e= .returned (.bool true)∧Kp w0 w')
def Fin(es:List D)(j:Nat)(g:GS)(xs:List D):Prop:=
 (j≤9∧xs=[] ∧ ∃s,g=ib s es∧HC s es j∧Ok s 40)∨(j=10∧g.bad=false∧xs.length=es.length+1∧ ∃s,g.iC=[s] ∧s.role=2∧Ok s 0)
noncomputable def Ay(K:Code):Code:=.seq (.seq (.region 18 TR false) (.block 4 (.loop (.seq (.seq (.region 19 TQ false) (.cond (.tmp 108) .skip (.exit 4))) (.seq (.block 5 DP) (.region 20 Ov false)))))) K
noncomputable def Mv:Code:=.seq (.region 24 TK false) .ret
section
variable{w0 w:World}{S0 S:bU}{ow:Ow}{b:Nat}{s:RS}{es xs:List D}{v:Value}{Q:Exit→Act→World→Prop}{a:Act}
theorem YP{g:GS}(gO:Wf w0 S0 (fun _=>none))(st:br LG ax w0 S0 (fun _=>none) w S ow)(h:nw w S ow b g)(hv:lL w S ow 78 eP v xs)(C5:g.bad=false)(nq:xs.length=es.length+1)(Fb:es.length≤1048577)(JK:g.iC=[s])(yI:s.role=2)(cI:Ok s 0)
  (k:Kn 151 a [(10,v),(5,.int .i64 (es.length:Int)),(3,bp b)]):Mv.wp Try.prog (vR w0) a w:=by
 have hQ:QP (vR w0):=kj
 obtain⟨R,gm,j6,me⟩:=h
 rw[C5]at gm
 unfold Mv
 refine wp_seq (rg ax hQ amF ?_)
 intro w1 e1
 have eZ:=gm.bu e1
 have j8:=st.ba gO gm.wf (br.bu e1 ax ax S ow) (fun _ h=>h.elim)
 obtain⟨A,cap,rfl⟩:=hv.slice
 have s0:=SX.refl ax w1
 obtain⟨bs,Cj,fX,jA⟩:=eZ.iC 0 s (by rw[JK];rfl)
 obtain⟨bl,Yz,E5,FX,mM,jY⟩:=eZ.arr.elem (i:=0) (u:=bp bs) (by rw[j6,ah,Cj];rfl)
 have FZ:0<(R.la.map bp).length:=by rw[aw,j6,eZ.vI,JK];show 0<1;omega
 repeat (first|refine sm k fun a k=> ?_|refine ld k (eZ.cell (fun h=>h) rfl) fun a k=> ?_)
 refine uO k (by assumption) rfl (by decide) rfl fun a k=> ?_
 repeat refine sm k fun a k=> ?_
 refine lI (s:=((es.length+1:Nat):Int)) k (by assumption) rfl (by decide) rfl rfl (wrap64 (by omega) (by omega)) fun a k=> ?_
 refine cm (c:=true) k rfl rfl (by show some _=_;rw[nq];exact congrArg some (beq_self_eq_true _)) fun a k=> ?_
 refine pk (c:=true) (v:=.bool true) k rfl rfl fun a k=> ?_
 repeat (first|refine sm k fun a k=> ?_|refine ld k (eZ.cell (fun h=>h) rfl) fun a k=> ?_)
 rw[E5]at k
 refine CH (el:=52) (sz:=1) (s:=0) k rfl rfl FZ fun a k=> ?_
 refine qD (v:=bp bs) k (by assumption) rfl (by decide) rfl (by kernel_rfl) (by kernel_rfl) (gf FX (fun h=>h) (by rw[cd];exact jY)) fun a k=> ?_
 refine j3 (vs:=[bp bs]) k (by decide) rfl (by decide) c12.enter rfl (vj fX eZ.wf cI) ?_
 rintro e w2 ⟨A1,n1,c1,A2,n2,c2,rfl,-,gI,jn⟩
 have s1:=gI.I8 ax
 refine⟨_,rfl,fun _=>s1,fun a k=> ?_⟩
 refine VU (off:=0) (v:=.int .i64 s.role) (vs:=RD s (.slice A1 n1 c1) (.slice A2 n2 c2)) k (by assumption) rfl (by decide) rfl (by kernel_rfl) rfl fun a k=> ?_
 rw[yI]at k
 refine cm (c:=true) k rfl rfl rfl fun a k=> ?_
 refine pk (c:=true) (v:=.bool true) k rfl rfl fun a k=> ?_
 repeat refine sm k fun a k=> ?_
 have iQ:=j8.ba gO eZ.wf gI (fun _ h=>h.elim)
 refine j3 (vs:=[]) k (by decide) rfl (by decide) ZE rfl (K7 jn.bare) ?_
 rintro e w3 ⟨S3,qo,rfl,jX⟩
 have kp:=Kp.of jX
 have s3:SX ax w1 w3:=⟨aR s1.1 kp.size,fun bb hb hx=>(kp.BQ bb (ar hb s1.1)).trans (s1.2 bb hb hx)⟩
 refine⟨_,rfl,fun _=>s3,fun a k=> ?_⟩
 refine pk (c:=true) (v:=.bool true) k rfl rfl fun a k=> ?_
 repeat refine sm k fun a k=> ?_
 refine aJ (wp_ret ?_)
 show vR w0 .ret a w3
 exact(uX (fn:=Try.f4) at3 k rfl ⟨rfl,(Kp.of iQ).trans kp⟩).1
theorem QR{K:Code}(hQ:QP Q)(gO:Wf w0 S0 (fun _=>none))(st:br LG ax w0 S0 (fun _=>none) w S ow)(h:nw w S ow b (ib s es))(hF:HC s es 0)(cI:Ok s 40)(rI:es.length≤1048577)(Ym:yu es)(Af:xc es)(mS:fA 0 es=1)
  (k:Kn 151 a [(10,.slice none 0 0),(5,.int .i64 (es.length:Int)),(3,bp b)])
  (hK: ∀a W S' bX v' xs g s',Kn 151 a [(10,v'),(5,.int .i64 (es.length:Int)),(3,bp b)] →br LG ax w0 S0 (fun _=>none) W S' bX→nw W S' bX b g→lL W S' bX 78 eP v' xs→g.bad=false→xs.length=es.length+1→g.iC=[s'] →s'.role=2→Ok s' 0→K.wp Try.prog Q a W):(Ay K).wp Try.prog Q a w:=by
 unfold Ay
 refine wp_seq (wp_seq (rg ax hQ amL ?_))
 intro w1 e1
 have s0:=SX.refl ax w1
 repeat refine sm k fun a k=> ?_
 refine aJ ?_
 refine wp_block (wp_loop_ghost (fun mm a W=> ∃(j:Nat) (S1:bU) (fE:Ow) (v:Value) (xs:List D) (g:GS),mm=10-j∧Kn 151 a [(11,.int .i64 (j:Int)),(10,v),(5,.int .i64 (es.length:Int)),(3,bp b)] ∧br LG ax w0 S0 (fun _=>none) W S1 fE∧nw W S1 fE b g∧lL W S1 fE 78 eP v xs∧(∀b,v.ownBlock=some b→w0.heap.size≤b)∧Fin es j g xs) (10-0)
  ⟨0,S,ow,.slice none 0 0,[],ib s es,rfl,k.sub ⟨rfl,rfl,rfl,rfl,trivial⟩,st.ba gO h.wf (br.bu e1 ax ax S ow) (fun _ h=>h.elim),h.bu e1,lL.nil (by decide),(fun b hb=>by cases hb),.inl ⟨by omega,rfl,s,rfl,hF,cI⟩⟩ ?_)
 clear k s0 e1 w1 h st hF cI
 rintro mm a W ⟨j,S1,fE,v,xs,g,rfl,k,st,h,hv,ym,ss⟩
 refine wp_seq (wp_seq (rg ax hQ amK ?_))
 intro w2 e2
 have h2:=h.bu e2
 have gI:=st.ba gO h.wf (br.bu e2 ax ax S1 fE) (fun _ h=>h.elim)
 have Jo:=hv.bw (br.bu e2 ax ax S1 fE) (fun _ _ h=>h)
 have s0:=SX.refl ax w2
 repeat refine sm k fun a k=> ?_
 refine cm (c:=decide ((j:Int)<10)) k rfl rfl rfl fun a k=> ?_
 refine aJ (bz k rfl ?_)
 have k:=k.sub (l:=[(11,.int .i64 (j:Int)),(10,v),(5,.int .i64 (es.length:Int)),(3,bp b)]) ⟨rfl,rfl,rfl,rfl,trivial⟩
 rcases ss with⟨hj9,rfl,s,rfl,hF,cI⟩|⟨rfl,C5,nq,s,JK,yI,cI⟩
 ·rw[if_pos (by simp;omega)]
  refine wp_skip ?_
  have next: ∀(Q9:Exit→Act→World→Prop) (a:Act) (W:World) (v:Value),QP Q9→Kn 151 a [(11,.int .i64 (j:Int)),(10,v),(5,.int .i64 (es.length:Int)),(3,bp b)] →(∀a' w',Cn W w'→Kn 151 a' [(11,.int .i64 ((j+1:Nat):Int)),(10,v),(5,.int .i64 (es.length:Int)),(3,bp b)] →Q9 .normal a' w')→(Code.region 20 Ov false).wp Try.prog Q9 a W:=by
   intro Q9 a W v hQ k h
   refine rg ax hQ amJ ?_
   intro w8 e8
   have s0:=SX.refl ax w8
   repeat refine sm k fun a k=> ?_
   refine lI (s:=((j+1:Nat):Int)) k (by assumption) rfl (by decide) rfl rfl (wrap64 (by omega) (by omega)) fun a k=> ?_
   repeat refine sm k fun a k=> ?_
   exact aJ (h _ _ e8 (k.sub ⟨rfl,rfl,rfl,rfl,trivial⟩))
  by_cases hj8:j<9
  ·obtain⟨f1,f2,f3⟩:=Rg hF (by omega) (by omega)
   have yw:=Zz hF (by omega) (by omega) cI
   refine wp_seq (wp_block (GK (fun c a d v w h=>hQ c a d v w h) gO gI h2 (cI.le (by omega)) (yw.le (by omega)) f2 (bf _) rI (fun i e h=>by cases h) (bf _) (bf _) Jo ym k ?_))
   intro a W S' bX v' k iQ h3 hv3 aeR
   rw[f3]at h3
   refine next _ _ _ v' (fun c a d v w h=>hQ c a d v w h) k fun a w8 e8 k=> ?_
   exact⟨10-(j+1),by omega,j+1,S',bX,v',_,ib (fW 0 s).2 es,rfl,k,iQ.ba gO h3.wf (br.bu e8 ax ax S' bX) (fun _ h=>h.elim),h3.bu e8,hv3.bw (br.bu e8 ax ax S' bX) (fun _ _ h=>h),aeR,.inl ⟨by omega,rfl,_,rfl,f1,yw⟩⟩
  ·have hj:j=9:=by omega
   subst hj
   obtain⟨e,f1,f2,f3,f4,f5⟩:=Rh hF Ym Af (by omega) mS
   have yw:Ok (fW 0 s).2 0:=(fy.tick (k:=27) cI).le (by omega)
   have Fb:(es++[e]).length=es.length+1:=by simp
   refine wp_seq (wp_block (GK (fun c a d v w h=>hQ c a d v w h) gO gI h2 (cI.le (by omega)) yw f2 (by show 1≤1;omega) rI f5 (by omega) (bf _) Jo ym k ?_))
   intro a W S' bX v' k iQ h3 hv3 aeR
   refine next _ _ _ v' (fun c a d v w h=>hQ c a d v w h) k fun a w8 e8 k=> ?_
   exact⟨0,by omega,10,S',bX,v',_,qH 0 0 (ib s es),rfl,k,iQ.ba gO h3.wf (br.bu e8 ax ax S' bX) (fun _ h=>h.elim),h3.bu e8,hv3.bw (br.bu e8 ax ax S' bX) (fun _ _ h=>h),aeR,.inr ⟨rfl,f3,Fb,_,f4,f1,yw⟩⟩
 ·rw[if_neg (by simp)]
  refine wp_exit ?_
  exact hK _ _ S1 fE v xs g s (k.sub ⟨rfl,rfl,rfl,trivial⟩) gI h2 Jo C5 nq JK yI cI
end
theorem Wh{w:World}{S:bU}{ls:List D}{A:Option Addr}{cap:Nat}{a:Act}(hw:Wf w S (fun _=>none))(hr:cH w S (.slice A ls.length cap) (.list ls))(hh:Has (.list yL) (.list ls))(Lq:qz [.list ls] ≤1048576)(k:Kn 151 a [(0,.slice A ls.length cap)]):(jz Try.f4).wp Try.prog (vR w) a w:=by
 have hQ:QP (vR w):=kj
 have hlen:ls.length≤1048576:=by
  have h1:=GN (na hh)
  simp only[qz,D.wt]at Lq
  omega
 rw[UI]
 show(AN (Eb (D8 (Ay Mv)))).wp Try.prog (vR w) a w
 refine QS hQ hw k ?_
 intro a W1 S1 fE b k j8 h1
 refine Wi hQ hw j8 h1 hr hh hlen k ?_
 intro a W2 S2 tC s es k gI h2 hL Fb cI
 refine Wg hQ h2 hL Fb cI k ?_
 intro a W3 S3 qo s' k iQ h3 hF yw
 refine QR hQ hw (o5 hw h2.wf gI iQ (fun _ h=>h.elim)) h3 hF yw Fb hL.ncf hL.row hL.last k ?_
 intro a W4 S4 Jj v' xs g s2 k jX h4 hv4 C5 nq JK yI wU
 exact YP hw jX h4 hv4 C5 nq Fb JK yI wU k
def HO:dQ:=⟨[.list yL],[(false,[(.bool,none)])],none⟩
theorem c4:bh Try.prog 4 HO (fun xs=>qz xs≤1048576) (fun _=>.bool true) where
 enter:=ahb
 calls _ w S vs ds B2 hlen jf jA ks:=by
  obtain⟨d0,r0,rfl,h0,h1⟩:=aj.1 jA
  have h1':r0=[] :=h1
  subst h1'
  obtain⟨v0,rfl⟩: ∃v0,vs=[v0] :=by
   have hl:vs.length=1:=hlen
   match vs,hl with
   | [v0],_=>exact⟨v0,rfl⟩
  have Xd:=jf 0 _ _ rfl rfl
  obtain⟨ls,rfl,_,_⟩:=bK.1 h0
  obtain⟨A,cap,rfl⟩:=Xd.qd
  have hw:Wf w S (fun _=>none):=⟨B2,fun _ _ h=>(by cases h),fun _ _ _ _ h=>(by cases h)⟩
  refine(lU (R:=fun e w'=>e= .returned (.bool true)∧Kp w w') (vs:=[.slice A ls.length cap]) Try.func4 aaB UI nt4 (by show 1≤151;omega) ?_).mono ?_
  ·intro a k
   have:=Wh hw Xd h0 ks (k.sub ⟨rfl,trivial⟩)
   rw[UI]at this
   exact this
  ·rintro e w' ⟨rfl,kp⟩
   refine⟨.bool true,S,fun _=>.nilIface,rfl,{size:=kp.size,os:=kp.os,tape:=kp.tape,output:=kp.output,block:=kp.BQ},fun _ _ h=>h,fun b o h=>ar (B2 b o h) kp.size,fun _ _ h=>.inl h,.inl ⟨_,rfl,?_⟩,fun j b hj=>by simp[HO,cO]at hj,fun j k b hj=>by simp[HO,cO]at hj,fun j hj=>by simp[HO,cO]at hj⟩
   unfold hH
   simp only[ak,if_false]
   exact⟨_,rfl,.bool true,dz.2 ⟨true,rfl⟩⟩
 Dx ob h:=by cases h
 Mt ob h:=by cases h
end Go.Proofs.Ytjhmkaninmgilaa
