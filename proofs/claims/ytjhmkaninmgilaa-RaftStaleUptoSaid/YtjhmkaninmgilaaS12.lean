/- Part 12 of the proof of RaftStale; no condition. -/
import Derived.Test.YtjhmkaninmgilaaS11
import Derived.Test.YtjhmkaninmgilaaS07
import Derived.Test.YtjhmkaninmgilaaS05
set_option linter.unusedVariables false
set_option linter.unusedSimpArgs false
set_option maxHeartbeats 4000000
namespace Go.Proofs.Ytjhmkaninmgilaa
open Go Go.RowKit Go.bZ Go.Proofs
attribute [local irreducible] TL
section
variable{w w0:World}{S S0:aO}{ow kK:Ow}{b i j:Nat}{g g':GS}{R:GR}{Q:Exit→Act→World→Prop}{a:Act}
theorem th.aG{w1:World}(h:th w S ow b g)(e:DV w w1):th w1 S ow b g:=by obtain⟨R',F7,h1,h2⟩:=h;exact⟨R',F7.aG e,h1,h2⟩
theorem th.wf(h:th w S ow b g):Wf w S ow:=by obtain⟨_,F7,_⟩:=h;exact F7.wf
theorem HR{dv:List Value}(h:th w S ow b g)(hn:Cb ow)(dH:1≤g.fZ.length∧g.fZ.length≤5)(h0:dv[0]? =some (.int .i64 6))(h1:dv[1]? =some (.int .i64 0))(bM:xV g.gW {g with gW:=[]}=true):
  Calls Try.prog 10 [aM b, .agg dv.toArray].toArray w (oH w S ow b (UC g)):=by
 refine jZ Try.func10 Q3 ac5 aqd (by show 2≤359;omega) ?_
 intro a k
 have hQ:=gp (P:=Try.prog) (fn:=Try.f10) (R:=oH w S ow b (UC g))
 have jG:=h.wf
 refine wp_seq (rg ae hQ ajC ?_)
 intro w1 e1
 refine qR (us:=dv) k (by decide) rfl (by decide) rfl rfl (fun h=>absurd rfl h) fun a k=> ?_
 refine ar ?_
 have fC:=jG.aG e1
 have gC:aC LG ae w S ow w1 S ow:=aC.aG e1 LG ae S ow
 obtain⟨en,eK⟩:=aC.alloc fC (.cells dv.toArray 51)
 have n7:=dP.new fC 51 dv
 have sw:=gC.aF jG fC en (fun _ h=>h.elim)
 have BX:th (w1.alloc (.cells dv.toArray 51)) S ow b g:=by obtain⟨R',F7,h1,h2⟩:=h.aG e1;exact⟨R',F7.aB en eK,h1,h2⟩
 generalize hb3:w1.heap.size=b3 at k n7
 generalize w1.alloc _=w2 at BX n7 sw eK⊢
 have k:=k.sub (l:=[(3, .pointer (some ⟨b3,0,none⟩)),(0,aM b)]) ⟨rfl,rfl,trivial⟩
 clear en gC fC e1
 refine wp_seq (jJ (n0:=7) ae mix (fun c a d v w h=>hQ c a d v w h) ajB (fun _=>by kernel_rfl) ?_)
 intro w3 e3
 have mi:=n7.aG e3
 obtain⟨R,ft,kV,lL⟩:=BX.aG e3
 have eY:=sw.aF jG eK (aC.aG e3 ae ae S ow) (fun _ h=>h.elim)
 have s0:=SX.refl ae w3
 obtain⟨Al,arD,TK⟩:=ft.arr.slice
 have Te:(R.la.map aM).length=g.fZ.length:=by rw[List.length_map,kV];exact ft.yI
 repeat refine sm k fun a k=> ?_
 refine ld k (mi.cell (fun h=>h) h1) fun a k=> ?_
 repeat refine sm k fun a k=> ?_
 refine ld k (ft.cell (fun h=>h) (j:=2) rfl) fun a k=> ?_
 rw[TK,Te]at k
 refine QR k (by assumption) rfl (by decide) rfl (by kernel_rfl) fun a k=> ?_
 refine gU (vs:=[.int .i64 0, .int .i64 (g.fZ.length:Int)]) k (by decide) rfl (by decide) c8.enter rfl (r7 ft.wf (by decide) ⟨by have:IntKind.i64.min= -9223372036854775808:=rfl;omega,by have:IntKind.i64.max=9223372036854775807:=rfl;omega⟩ (by omega)) ?_
 rintro e w4 ⟨rfl,jr,m7⟩
 have s4:=jr.BS ae
 refine⟨_,rfl,fun _=>s4,fun a k=> ?_⟩
 repeat refine sm k fun a k=> ?_
 refine ar ?_
 have uD:=mi.aB jr (fun h=>h)
 have Ta:th w4 S ow b g:=⟨R,ft.aB jr m7,kV,lL⟩
 have tD:=eY.aF jG ft.wf jr (fun _ h=>h.elim)
 have k:=k.sub (l:=[(3, .pointer (some ⟨b3,0,none⟩)),(0,aM b)]) ⟨rfl,rfl,trivial⟩
 clear jr s4 s0 eY ft e3 BX mi n7 sw eK
 refine wp_seq (rg ae hQ ajA ?_)
 intro w5 e5
 have CM:=uD.aG e5
 have Og:=Ta.aG e5
 have jq:=tD.aF jG m7 (aC.aG e5 ae ae S ow) (fun _ h=>h.elim)
 have s0:=SX.refl ae w5
 repeat (first|refine sm k fun a k=> ?_|refine ld k (CM.cell (fun h=>h) h0) fun a k=> ?_)
 refine gU (vs:=[.int .i64 6, .int .i64 12]) k (by decide) rfl (by decide) c8.enter rfl (r7 Og.wf (by decide) (by decide) (by decide)) ?_
 rintro e w6 ⟨rfl,kq,qd⟩
 refine⟨_,rfl,fun h=>absurd rfl h,fun a k=> ?_⟩
 refine ar ?_
 have hg6:th w6 S ow b g:=by obtain⟨R',F7,h1,h2⟩:=Og;exact⟨R',F7.aB kq qd,h1,h2⟩
 have wL:=jq.aF jG Og.wf kq (fun _ h=>h.elim)
 rw[show mH 6 12=6 from by decide]at k
 have k:=k.sub (l:=[(32, .int .i64 6),(0,aM b)]) ⟨rfl,rfl,trivial⟩
 clear kq s0 jq Og CM e5 Ta uD tD m7
 refine wp_block (wp_seq (wp_seq (rg ae hQ ajz ?_)))
 intro w7 e7
 have hg7:=hg6.aG e7
 have pb:=wL.aF jG qd (aC.aG e7 ae ae S ow) (fun _ h=>h.elim)
 have s0:=SX.refl ae w7
 refine cm (c:=false) k rfl rfl rfl fun a k=> ?_
 refine sm k fun a k=> ?_
 refine ar (aR k rfl ?_)
 have k:=k.sub (l:=[(32, .int .i64 6),(0,aM b)]) ⟨rfl,rfl,trivial⟩
 refine rg ae hQ ajy ?_
 intro w8 e8
 have hg8:=hg7.aG e8
 have ur:=pb.aF jG hg7.wf (aC.aG e8 ae ae S ow) (fun _ h=>h.elim)
 have s0:=SX.refl ae w8
 refine cm (c:=false) k rfl rfl rfl fun a k=> ?_
 refine sm k fun a k=> ?_
 refine ar (aR k rfl ?_)
 have k:=k.sub (l:=[(32, .int .i64 6),(0,aM b)]) ⟨rfl,rfl,trivial⟩
 refine wp_seq (rg ae hQ ajx ?_)
 intro w9 e9
 have hg9:=hg8.aG e9
 have V3:=ur.aF jG hg8.wf (aC.aG e9 ae ae S ow) (fun _ h=>h.elim)
 have s0:=SX.refl ae w9
 refine cm (c:=false) k rfl rfl rfl fun a k=> ?_
 refine sm k fun a k=> ?_
 refine ar (aR k rfl ?_)
 have k:=k.sub (l:=[(32, .int .i64 6),(0,aM b)]) ⟨rfl,rfl,trivial⟩
 refine wp_seq (wp_seq (rg ae hQ abV ?_))
 intro wa ea
 have hga:=hg9.aG ea
 have FF:=V3.aF jG hg9.wf (aC.aG ea ae ae S ow) (fun _ h=>h.elim)
 have s0:=SX.refl ae wa
 refine cm (c:=false) k rfl rfl rfl fun a k=> ?_
 refine sm k fun a k=> ?_
 refine ar (aR k rfl ?_)
 have k:=k.sub (l:=[(32, .int .i64 6),(0,aM b)]) ⟨rfl,rfl,trivial⟩
 refine wp_seq (rg ae hQ abU ?_)
 intro wb eb
 have fq:=hga.aG eb
 have L2:=FF.aF jG hga.wf (aC.aG eb ae ae S ow) (fun _ h=>h.elim)
 have s0:=SX.refl ae wb
 refine cm (c:=false) k rfl rfl rfl fun a k=> ?_
 refine sm k fun a k=> ?_
 refine ar (aR k rfl ?_)
 have k:=k.sub (l:=[(32, .int .i64 6),(0,aM b)]) ⟨rfl,rfl,trivial⟩
 refine rg ae hQ abT ?_
 intro wc ec
 have TH:=fq.aG ec
 have Tk:=L2.aF jG fq.wf (aC.aG ec ae ae S ow) (fun _ h=>h.elim)
 have s0:=SX.refl ae wc
 refine cm (c:=false) k rfl rfl rfl fun a k=> ?_
 refine sm k fun a k=> ?_
 refine ar (aR k rfl ?_)
 have k:=k.sub (l:=[(32, .int .i64 6),(0,aM b)]) ⟨rfl,rfl,trivial⟩
 refine wp_seq (rg ae hQ abS ?_)
 intro wd ed
 have DS:=TH.aG ed
 have YR:=Tk.aF jG TH.wf (aC.aG ed ae ae S ow) (fun _ h=>h.elim)
 have s0:=SX.refl ae wd
 refine cm (c:=true) k rfl rfl rfl fun a k=> ?_
 refine sm k fun a k=> ?_
 refine ar (aR k rfl ?_)
 refine RE (fun c a d v w h=>hQ c a d v w h) DS hn bM (k.sub ⟨rfl,trivial⟩) ?_
 intro a we Se owe k Ot lR
 exact(mn ait k ⟨Se,owe,rfl,uH jG DS.wf YR Ot (fun _ h=>h.elim),lR⟩).2
end
def gT:Nat→GS
 |0=>gB 3 3
 |n+1=>XI 0 0 (gT n)
def gD:Nat→GS
 |0=>gT 10
 |n+1=>UC (gD n)
theorem akI:((List.range 10).all fun n=>Jb 0 0 (gT n))=true:=by decide+kernel
theorem akJ:((List.range 4).all fun n=>xV (gD n).gW {gD n with gW:=[]}&&decide (1≤(gD n).fZ.length)&&decide ((gD n).fZ.length≤5))=true:=by decide+kernel
theorem acQ:(0<(gD 4).fZ.length∧okS (ji (gD 4) 0) 0=true)∧(ji (gD 4) 0).role=2∧(ji (gD 4) 0).aJ=1∧(ji (gD 4) 0).term=1∧(gD 4).bad=false:=by decide+kernel
noncomputable def XN:List Value:=((Try.prog.built 51 [(0, .int .i64 6)]).getD #[]).toList
section
variable{w w0:World}{S S0:aO}{ow kK:Ow}{b i j:Nat}{g g':GS}{R:GR}{Q:Exit→Act→World→Prop}{a:Act}
def mw(w:World)(S:aO):Exit→Act→World→Prop:=bodyPost Try.prog Try.f13 (fun e w'=> ∃S' aT,e= .returned (.bool true)∧aC LG ae w S (fun _=>none) w' S' aT)
noncomputable def aak:Code:= .seq (.region 10 Jm false) (.seq (.region 11 Jl false) .ret)
theorem NA(gi:Wf w0 S0 (fun _=>none))(st:aC LG ae w0 S0 (fun _=>none) w S ow)(h:th w S ow b (gD 4))(k:Kn 54 a [(1,aM b)]):aak.wp Try.prog (mw w0 S0) a w:=by
 have hQ:QP (mw w0 S0):=gp
 obtain⟨⟨hi,bM⟩,Qh,aa2,Qg,Pq⟩:=acQ
 have hx:=AM hi
 generalize gD 4=g at h hi bM Qh aa2 Qg Pq hx
 generalize ji g 0=x at bM Qh aa2 Qg hx
 obtain⟨R,gm,kV,lL⟩:=h
 rw[Pq]at gm
 unfold aak
 refine wp_seq (rg ae hQ abK ?_)
 intro w1 e1
 have dB:=gm.aG e1
 have s0:=SX.refl ae w1
 repeat (first|refine sm k fun a k=> ?_|refine ld k (dB.cell (fun h=>h) rfl) fun a k=> ?_)
 obtain⟨bs,Ip,dw,fV⟩:=dB.fZ 0 x hx
 obtain⟨bl,cap,TK,OM,lQ,gz⟩:=dB.arr.elem (i:=0) (u:=aM bs) (by rw[kV,List.getElem?_map,Ip];rfl)
 have Te:(R.la.map aM).length=g.fZ.length:=by rw[List.length_map,kV];exact dB.yI
 rw[TK]at k
 refine I2 (el:=52) (sz:=1) (s:=0) k (by assumption) rfl (by decide) rfl rfl (by kernel_rfl) (by kernel_rfl) (by rw[Te];exact hi) fun a k=> ?_
 refine ti (v:=aM bs) k (by assumption) rfl (by decide) rfl (by kernel_rfl) (by kernel_rfl) (ez OM (fun h=>h) (by rw[Nat.mul_one];exact gz)) fun a k=> ?_
 refine gU (vs:=[aM bs]) k (by decide) rfl (by decide) c12.enter rfl (nD dw dB.wf (Eo bM)) ?_
 rintro e w2 ⟨A1,n1,c1,A2,n2,c2,rfl,-,en,eK⟩
 refine⟨_,rfl,fun _=>en.BS _,fun a k=> ?_⟩
 have gA:=dB.aB en eK
 have s1:=en.BS ae
 refine lj (nn:=9) k (by decide) rfl (by decide) (by kernel_rfl) (fun zs _=>s1.trans (SX.alloc _ _ _)) fun zs sX a k=> ?_
 refine lM (vs:=uB x (.slice A1 n1 c1) (.slice A2 n2 c2)) k (by decide) rfl (by kernel_rfl) rfl rfl rfl (heap_alloc_new w2 _) (by show 0+9≤zs.toArray.size;rw[List.size_toArray];omega) (by simp[uB,Value.oneCell']) (fun h=>absurd rfl h) fun a k=> ?_
 refine ar ?_
 have tE:(uB x (.slice A1 n1 c1) (.slice A2 n2 c2)).length=9:=rfl
 rw[fill_eq sX tE]
 obtain⟨eY,gw,sy⟩:=jo (T:=67) (zs:=zs) (us:=uB x (.slice A1 n1 c1) (.slice A2 n2 c2)) eK
 have ft:=gA.aB eY gw
 have gC:=st.aF gi gm.wf (aC.aG e1 ae ae S ow) (fun _ h=>h.elim)
 have sw:=gC.aF gi dB.wf en (fun _ h=>h.elim)
 have tD:=sw.aF gi eK eY (fun bb hb=>by rw[show bb=_ from hb];exact sw.size)
 generalize hb4:w2.heap.size=b4 at k sy ft tD⊢
 generalize hW:(w2.alloc _).setRow b4 _=W at sy ft tD⊢
 have k:=k.sub (l:=[(4, .pointer (some ⟨b4,0,none⟩)),(1,aM b)]) ⟨rfl,rfl,trivial⟩
 clear eY gw s0 s1
 refine wp_seq (rg ae hQ abJ ?_)
 intro w4 e4
 have j8:=ft.aG e4
 have od:=sy.aG e4
 have jr:=tD.aF gi ft.wf (aC.aG e4 ae ae S ow) (fun _ h=>h.elim)
 have s0:=SX.refl ae w4
 have l0:=od.cell (X:=ae) (fun h=>h) (j:=0) (v:= .int .i64 x.role) rfl
 have l2:=od.cell (X:=ae) (fun h=>h) (j:=2) (v:= .int .i64 x.term) rfl
 have l4:=od.cell (X:=ae) (fun h=>h) (j:=4) (v:= .int .i64 x.aJ) rfl
 rw[Qh]at l0
 rw[Qg]at l2
 rw[aa2]at l4
 repeat (first|refine sm k fun a k=> ?_|refine ld k (l0) fun a k=> ?_)
 refine cm (c:=true) k rfl rfl rfl fun a k=> ?_
 repeat (first|refine sm k fun a k=> ?_|refine ld k (l4) fun a k=> ?_)
 refine cm (c:=true) k rfl rfl rfl fun a k=> ?_
 refine pk k rfl rfl fun a k=> ?_
 repeat (first|refine sm k fun a k=> ?_|refine ld k (l2) fun a k=> ?_)
 refine cm (c:=true) k rfl rfl rfl fun a k=> ?_
 refine pk k rfl rfl fun a k=> ?_
 repeat (first|refine sm k fun a k=> ?_|refine ld k (j8.cell (fun h=>h) rfl) fun a k=> ?_)
 refine tT k (by assumption) rfl (by decide) rfl fun a k=> ?_
 refine pk k rfl rfl fun a k=> ?_
 repeat refine sm k fun a k=> ?_
 exact ar (wp_ret (oQ air k rfl ⟨S,ow,rfl,jr⟩).1)
noncomputable def ahe:Code:= .seq (.seq (.region 6 Qd false) (.block 2 (.loop (.seq (.seq (.region 7 Qc false) (.cond (.tmp 20) .skip (.exit 2))) (.seq (.block 3 (.region 9 Qa false)) (.region 8 Qb false)))))) aak
theorem Nz(gi:Wf w0 S0 (fun _=>none))(st:aC LG ae w0 S0 (fun _=>none) w S ow)(h:th w S ow b (gT 10))(k:Kn 54 a [(1,aM b)]):ahe.wp Try.prog (mw w0 S0) a w:=by
 have hQ:QP (mw w0 S0):=gp
 unfold ahe
 refine wp_seq (wp_seq (rg ae hQ aji ?_))
 intro w1 e1
 have s0:=SX.refl ae w1
 repeat refine sm k fun a k=> ?_
 refine ar ?_
 refine wp_block (wp_loop_ghost (fun mm a W=> ∃(j:Nat) (S1:aO) (dA:Ow),mm=4-j∧j≤4∧Kn 54 a [(3, .int .i64 (j:Int)),(1,aM b)] ∧aC LG ae w0 S0 (fun _=>none) W S1 dA∧th W S1 dA b (gD j)) (4-0)
  ⟨0,S,ow,rfl,by omega,k.sub ⟨rfl,rfl,trivial⟩,st.aF gi h.wf (aC.aG e1 ae ae S ow) (fun _ h=>h.elim),h.aG e1⟩ ?_)
 clear k s0 e1 w1 h st
 rintro mm a W ⟨j,S1,dA,rfl,hj,k,st,h⟩
 refine wp_seq (wp_seq (rg ae hQ ajh ?_))
 intro w2 e2
 have h2:=h.aG e2
 have en:=st.aF gi h.wf (aC.aG e2 ae ae S1 dA) (fun _ h=>h.elim)
 have s0:=SX.refl ae w2
 repeat refine sm k fun a k=> ?_
 refine cm (c:=decide ((j:Int)<4)) k rfl rfl rfl fun a k=> ?_
 refine ar (aR k rfl ?_)
 have k:=k.sub (l:=[(3, .int .i64 (j:Int)),(1,aM b)]) ⟨rfl,rfl,trivial⟩
 by_cases aL:(j:Int)<4
 ·rw[if_pos (by simpa using aL)]
  refine wp_skip ?_
  have hd:=aV.1 akJ j (List.mem_range.2 (by omega))
  simp only[aw,aN]at hd
  obtain⟨⟨hd1,hd2⟩,hd3⟩:=hd
  refine wp_seq (wp_block (rg ae hQ ajf ?_))
  intro w3 e3
  have h3:=h2.aG e3
  have eY:=en.aF gi h2.wf (aC.aG e3 ae ae S1 dA) (fun _ h=>h.elim)
  have s0:=SX.refl ae w3
  repeat refine sm k fun a k=> ?_
  refine lh (ps:=[(0, .int .i64 6)]) (vs:=XN) k (by assumption) rfl (by decide) rfl (by kernel_rfl) fun a k=> ?_
  refine gU (vs:=[aM b, .agg XN.toArray]) k (by decide) rfl (by decide) VH rfl (HR h3 (fun bb l hl=>(eY.fU bb l hl).elim (fun e=>by cases e) id) ⟨hd2,hd3⟩ (by kernel_rfl) (by kernel_rfl) hd1) ?_
  rintro e w4 ⟨S4,L3,rfl,jr,h4⟩
  refine⟨_,rfl,fun h=>absurd rfl h,fun a k=> ?_⟩
  refine ar ?_
  have jq:=uH gi h3.wf eY jr (fun _ h=>h.elim)
  have k:=k.sub (l:=[(3, .int .i64 (j:Int)),(1,aM b)]) ⟨rfl,rfl,trivial⟩
  refine rg ae hQ ajg ?_
  intro w6 e6
  have s0:=SX.refl ae w6
  repeat refine sm k fun a k=> ?_
  refine lH (s:=((j+1:Nat):Int)) k (by assumption) rfl (by decide) rfl rfl (wrap64 (by omega) (by omega)) fun a k=> ?_
  repeat refine sm k fun a k=> ?_
  exact ar ⟨4-(j+1),by omega,j+1,S4,L3,rfl,by omega,k.sub ⟨rfl,rfl,trivial⟩,jq.aF gi h4.wf (aC.aG e6 ae ae S4 L3) (fun _ h=>h.elim),h4.aG e6⟩
 ·rw[if_neg (by simpa using aL)]
  refine wp_exit ?_
  have DR:j=4:=by omega
  subst DR
  exact NA gi en h2 (k.sub ⟨rfl,trivial⟩)
theorem ym(gi:Wf w0 S0 (fun _=>none)):Calls Try.prog 13 #[] w0 (fun e w'=> ∃S' aT,e= .returned (.bool true)∧aC LG ae w0 S0 (fun _=>none) w' S' aT):=by
 refine jZ (vs:=[]) Try.func13 Q1 ac3 aqb (by show 0≤54;omega) ?_
 intro a k
 have hQ:QP (mw w0 S0):=gp
 show Code.wp Try.prog _ (mw w0 S0) a w0
 refine wp_seq (rg ae hQ ajo ?_)
 intro w1 e1
 have s0:=SX.refl ae w1
 repeat refine sm k fun a k=> ?_
 refine ar ?_
 have fC:=gi.aG e1
 have gC:aC LG ae w0 S0 (fun _=>none) w1 S0 (fun _=>none):=aC.aG e1 LG ae S0 _
 refine wp_seq (rg (fun _=>True) hQ ajn ?_)
 intro w2 e2
 have eK:=fC.aG e2
 have en:=gC.aF gi fC (aC.aG e2 ae ae S0 _) (fun _ h=>h.elim)
 refine gU (vs:=[.int .i64 ((3:Nat):Int), .int .i64 ((3:Nat):Int)]) k (by decide) rfl (by decide) acS rfl (HT (n:=3) eK (by omega) (by omega)) ?_
 rintro e w3 ⟨b,S3,qp,rfl,eY,h3⟩
 have s3:SX (fun _=>True) w2 w3:=⟨eY.size,fun _ _ h=>absurd trivial h⟩
 refine⟨_,rfl,fun _=>s3,fun a k=> ?_⟩
 repeat refine sm k fun a k=> ?_
 refine ar ?_
 have jr:=uH gi eK en eY (fun _ h=>h.elim)
 have k:=k.sub (l:=[(1,aM b)]) ⟨rfl,trivial⟩
 refine wp_seq (wp_seq (rg ae hQ ajm ?_))
 intro w5 e5
 have s0:=SX.refl ae w5
 repeat refine sm k fun a k=> ?_
 refine ar ?_
 refine wp_block (wp_loop_ghost (fun mm a W=> ∃(j:Nat) (S1:aO) (dA:Ow),mm=10-j∧j≤10∧Kn 54 a [(2, .int .i64 (j:Int)),(1,aM b)] ∧aC LG ae w0 S0 (fun _=>none) W S1 dA∧th W S1 dA b (gT j)) (10-0)
  ⟨0,S3,qp,rfl,by omega,k.sub ⟨rfl,rfl,trivial⟩,jr.aF gi h3.wf (aC.aG e5 ae ae S3 qp) (fun _ h=>h.elim),h3.aG e5⟩ ?_)
 clear k s0 e5 w5 jr s3 h3 eY en eK e2 gC fC e1
 rintro mm a W ⟨j,S1,dA,rfl,hj,k,st,h⟩
 refine wp_seq (wp_seq (rg ae hQ ajl ?_))
 intro w6 e6
 have h6:=h.aG e6
 have kq:=st.aF gi h.wf (aC.aG e6 ae ae S1 dA) (fun _ h=>h.elim)
 have s0:=SX.refl ae w6
 repeat refine sm k fun a k=> ?_
 refine cm (c:=decide ((j:Int)<10)) k rfl rfl rfl fun a k=> ?_
 refine ar (aR k rfl ?_)
 have k:=k.sub (l:=[(2, .int .i64 (j:Int)),(1,aM b)]) ⟨rfl,rfl,trivial⟩
 by_cases aL:(j:Int)<10
 ·rw[if_pos (by simpa using aL)]
  refine wp_skip ?_
  have hd:=aV.1 akI j (List.mem_range.2 (by omega))
  refine wp_seq (wp_block (Ki (fun c a d v w h=>hQ c a d v w h) h6 (fun bb l hl=>(kq.fU bb l hl).elim (fun e=>by cases e) id) hd k ?_))
  intro a w7 S7 N5 k pb h7
  have ur:=uH gi h6.wf kq pb (fun _ h=>h.elim)
  refine rg ae hQ ajk ?_
  intro w8 e8
  have s0:=SX.refl ae w8
  repeat refine sm k fun a k=> ?_
  refine lH (s:=((j+1:Nat):Int)) k (by assumption) rfl (by decide) rfl rfl (wrap64 (by omega) (by omega)) fun a k=> ?_
  repeat refine sm k fun a k=> ?_
  exact ar ⟨10-(j+1),by omega,j+1,S7,N5,rfl,by omega,k.sub ⟨rfl,rfl,trivial⟩,ur.aF gi h7.wf (aC.aG e8 ae ae S7 N5) (fun _ h=>h.elim),h7.aG e8⟩
 ·rw[if_neg (by simpa using aL)]
  refine wp_exit ?_
  have DR:j=10:=by omega
  subst DR
  exact Nz gi kq h6 (k.sub ⟨rfl,trivial⟩)
end
end Go.Proofs.Ytjhmkaninmgilaa
namespace Go.Proofs.Ytjhmkaninmgilaa
open Go Go.RowKit Go.bZ Go.Proofs
structure Idle(s:RS):Prop where
 save:s.save=false
 snap:s.gg= .eW
 com:s.bq=[]
 awy:s.dt=[]
 msgs:s.msgs=[]
theorem xA(t:RS):Idle (cE t).2:=⟨rfl,rfl,rfl,rfl,rfl⟩
theorem Hh{c:Prop}[Decidable c]{a b:D×RS}(ha:Idle a.2)(hb:Idle b.2):Idle (if c then a else b).2:=by
 by_cases h:c
 ·rw[if_pos h];exact ha
 ·rw[if_neg h];exact hb
theorem Dq(x:D)(s:RS):Idle (eD x s).2:=by
 unfold eD
 dsimp only
 repeat (first|exact xA _|refine Hh ?_ ?_)
theorem NJ{x:Int}{s:RS}{k:Nat}(h:Ok s (k+13)):Idle (js x s).2:=by
 unfold js
 dsimp only
 have h0:Ok ({s with wait:=0}:RS) (k+13):=h.same ⟨rfl,rfl,rfl,rfl,rfl,rfl,rfl,rfl,rfl,rfl,rfl,rfl,rfl,rfl⟩
 have xf:Idle (mQ (eO (ah 2 (cH ({s with wait:=0}:RS)) []) ({s with wait:=0}:RS)) 0 ({s with wait:=0}:RS)).2:=
  uf (k:=k) (Q:=fun t:D×RS=>Idle t.2) (jn (c:=ah 2 (cH _) []) (jt h0)) (fun _ _=>rfl) (fun _ _=>rfl) (h0.le (by omega)) (fun t _=>xA t)
 generalize mQ (eO (ah 2 (cH ({s with wait:=0}:RS)) []) ({s with wait:=0}:RS)) 0 ({s with wait:=0}:RS)=L at xf⊢
 repeat (first|refine Hh ?_ ?_|exact xf|exact xA _)
structure Alike(s t:RS):Prop where
 role:t.role=s.role
 aI:t.aI=s.aI
 term:t.term=s.term
 vote:t.vote=s.vote
 aJ:t.aJ=s.aJ
 li:t.li=s.li
 le:t.le=s.le
theorem FE(x:D)(s:RS):Alike s (cE (gR x s)).2∧(cD 0 (cE (gR x s)).1= .bool s.save∧cD 4 (cE (gR x s)).1=s.gg∧cD 6 (cE (gR x s)).1= .list s.bq):=by
 unfold gR
 dsimp only
 repeat (first|exact⟨⟨rfl,rfl,rfl,rfl,rfl,rfl,rfl⟩,rfl,rfl,rfl⟩|split)
theorem BF(s:RS):Alike s (cE s).2∧(cD 0 (cE s).1= .bool s.save∧cD 4 (cE s).1=s.gg∧cD 6 (cE s).1= .list s.bq):=⟨⟨rfl,rfl,rfl,rfl,rfl,rfl,rfl⟩,rfl,rfl,rfl⟩
theorem JQ{x:D}{s:RS}(h:(cD 3 x).ab<s.term):Alike s (eD x s).2∧(cD 0 (eD x s).1= .bool s.save∧cD 4 (eD x s).1=s.gg∧cD 6 (eD x s).1= .list s.bq):=by
 unfold eD
 dsimp only
 have h1: ¬(cD 3 x).ab>s.term:=by omega
 rw[if_neg (by simpa using h1: ¬decide ((cD 3 x).ab>s.term)=true),if_pos (by simpa using h:decide ((cD 3 x).ab<s.term)=true)]
 split
 ·exact BF s
 ·split
  ·exact BF s
  ·exact FE _ s
attribute [local irreducible] TL
theorem RI(w:World)(p q r:Int):(Instr.buildSlice 29 3 #[(0, .int .i64 p),(1, .int .i64 q),(2, .int .i64 r)]).run Try.prog w= .ok (.slice (some ⟨w.heap.size,0,none⟩) 3 3) (w.alloc (.cells [Value.int .i64 p, .int .i64 q, .int .i64 r].toArray 3)):=by
 have h:Gt Try.prog 29 3 1=true:=by kernel_rfl
 unfold Gt at h
 split at h
 ·rename_i e he
  rw[aw,beq_iff_eq]at h
  obtain⟨rfl,h⟩:=h
  split at h
  ·rename_i ie qm
   simp only[aw,beq_iff_eq,aN]at h
   obtain⟨⟨⟨h1,h2⟩,h3⟩,h4⟩:=h
   obtain⟨z,hz⟩:=Option.isSome_iff_exists.1 h2
   refine run_buildSlice w _ _ 3 _ _ ie z he qm hz (by omega) (by omega) ?_
   rw[h1]
   generalize (fun x=>z.cells[x % z.cells.size]!)=f
   rw[show Array.range (3*1)= #[0,1,2] from rfl]
   simp[Instr.fill,Value.cells]
  ·cases h
 ·cases h
theorem UO{Q:Exit→Act→World→Prop}{SS:World→Prop}{ops:Array Oper}{n n0 i d:Nat}{a:Act}{w:World}{m:List (Nat×Value)}{gd:Option (Nat×Bool)}{LL r:List OK}{p1 p2 p3:Int}(k:Kn n a m)(hi:n0≤i)(hg:pU LL m gd=some true)(hd:d<n)(hS:r≠ [] →SS (w.alloc (.cells [Value.int .i64 p1, .int .i64 p2, .int .i64 p3].toArray 3)))
  (h: ∀a',Kn n a' ((d, .slice (some ⟨w.heap.size,0,none⟩) 3 3)::m)→TL Try.prog ops Q SS n0 LL r (i+1) a' (w.alloc (.cells [Value.int .i64 p1, .int .i64 p2, .int .i64 p3].toArray 3))):
  TL Try.prog ops Q SS n0 LL ((some d, .buildSlice 29 3 #[(0, .const (.int .i64 p1)),(1, .const (.int .i64 p2)),(2, .const (.int .i64 p3))],gd)::r) i a w:=by
 refine uG k hi hg hd (fun ty pos af=>⟨_,_,?_,hS,h⟩)
 have h1:=RI w p1 p2 p3
 unfold execOp
 simp only[Sem.run_bind]
 have h2:(#[(0,Operand.const (.int .i64 p1)),(1, .const (.int .i64 p2)),(2, .const (.int .i64 p3))] :Array (Nat×Operand)).map (fun(i,x)=>(i,a.eval x))= #[(0,Value.int .i64 p1),(1, .int .i64 p2),(2, .int .i64 p3)] :=by
  have e1:a.eval (.const (.int .i64 p1))= .int .i64 p1:=k.op rfl
  have e2:a.eval (.const (.int .i64 p2))= .int .i64 p2:=k.op rfl
  have e3:a.eval (.const (.int .i64 p3))= .int .i64 p3:=k.op rfl
  simp[e1,e2,e3]
 rw[h2,h1]
 rfl
theorem Sw{w:World}{S:aO}{ow:Ow}{us:List Value}{ds:List D}{T:TypeId}(hw:Wf w S ow)(hl:us.length=ds.length)(h1: ∀d∈ds,d.cells.length=1)(dH:ds≠ [])(hr: ∀(i:Nat) u d,us[i]? =some u→ds[i]? =some d→bj w S u d)(hc: ∀d∈ds,d.cells=[d]):
  ∃S',aC ae ae w S ow (w.alloc (.cells us.toArray T)) S' ow∧Wf (w.alloc (.cells us.toArray T)) S' ow∧bj (w.alloc (.cells us.toArray T)) S' (.slice (some ⟨w.heap.size,0,none⟩) ds.length ds.length) (.list ds):=by
 obtain⟨st,gX⟩:=aC.alloc hw (.cells us.toArray T)
 have lo:=dP.new hw T us
 refine⟨fun b o=>S b o∨b=w.heap.size,⟨st.size,st.os,st.tape,st.output,st.B0,st.free,fun _ _ h=> .inl h,st.cell,st.keep,fun b o h=>h.imp id (fun e=> .inl (by omega)),st.tu,st.fU⟩,⟨fun b o h=>h.elim (gX.s b o) (fun e=>by rw[e];exact lo.lt),gX.o,fun b o l h hl=>h.elim (fun h=>gX.d b o l h hl) (fun e=>by rw[e,lo.ow]at hl;cases hl)⟩,?_⟩
 refine .list w.heap.size 0 ds.length 1 us ds (by omega) dH (Nat.le_refl _) (by omega) (fun i _=> .inr rfl) (fun i v hv=>by rw[Nat.zero_add];exact gK lo.heap hv) (fun i d hd=>h1 d (aS hd)) ?_
 intro i d j v c hd xR hv
 rw[hc d (aS hd)]at xR
 match j,xR with
 |0,xR=>
  injection xR with xR
  subst xR
  rw[Nat.mul_one,Nat.add_zero]at hv
  exact(hr i v d hv hd).keep (fun _ _ h=> .inl h) st.cell
theorem oR(w:World)(vs:List Value)(off:Nat)(v:Value)(hv:vs[off]? =some v):(part 3 vs.toArray off).run Try.prog w= .ok v w:=by
 have aL:=(ai.1 hv).1
 rw[qY (P:=Try.prog) (t:=3) (d:= .int .i64) (n:=1) (by kernel_rfl) (by kernel_rfl) vs (by omega) (fun _=>by decide)]
 have ha:fY Try.prog 3=false:=by kernel_rfl
 have hd:(vs.drop off).take 1=[v] :=by
  rw[List.drop_eq_getElem_cons aL,(ai.1 hv).2];rfl
 rw[hd]
 unfold bZ.valOf
 rw[ha];rfl
theorem J0(w:World)(p q r s:Int):(Op.equalIn (9999+1) 61 (.agg [Value.int .i64 p, .int .i64 q].toArray) (.agg [Value.int .i64 r, .int .i64 s].toArray)).run Try.prog w= .ok ((p==r)&&(q==s)) w:=by
 rw[run_equalIn_struct w 9999 61 _ _ (by kernel_rfl) (by kernel_rfl)]
 have h0:((Try.prog.fieldsOf 61).toList.map fun f=>(f.name != "_",f.type,f.offset))=[(true,3,0),(true,3,1)] :=by kernel_rfl
 obtain⟨f0,f1,hf⟩: ∃f0 f1,(Try.prog.fieldsOf 61).toList=[f0,f1] :=by
  generalize (Try.prog.fieldsOf 61).toList=l at h0
  have hl:=congrArg List.length h0
  rw[List.length_map]at hl
  clear h0
  match l,hl with
  | [f0,f1],_=>exact⟨f0,f1,rfl⟩
 rw[hf]at h0⊢
 simp only[List.map_cons,List.map_nil,List.cons.injEq,Prod.mk.injEq,and_true,bne_iff_ne]at h0
 obtain⟨⟨n0,t0,o0⟩,⟨n1,t1,o1⟩⟩:=h0
 have e0:=run_equalIn_int (P:=Try.prog) w 9998 3 .i64 .i64 p r (by kernel_rfl)
 have e1:=run_equalIn_int (P:=Try.prog) w 9998 3 .i64 .i64 q s (by kernel_rfl)
 simp only[Op.eqFields]
 rw[if_pos n0,if_pos n1,t0,o0,t1,o1]
 simp only[Sem.run_bind,oR w [Value.int .i64 p, .int .i64 q] 0 _ rfl,oR w [Value.int .i64 r, .int .i64 s] 0 _ rfl,oR w [Value.int .i64 p, .int .i64 q] 1 _ rfl,oR w [Value.int .i64 r, .int .i64 s] 1 _ rfl,Result.andThen_ok]
 rw[show(9999:Nat)=9998+1 from rfl,e0]
 simp only[Result.andThen_ok]
 by_cases Y9:(p==r)=true
 ·rw[Y9]
  simp only[Bool.not_true,Bool.false_eq_true,if_false,Sem.run_bind,oR w [Value.int .i64 p, .int .i64 q] 1 _ rfl,oR w [Value.int .i64 r, .int .i64 s] 1 _ rfl,Result.andThen_ok,e1,Bool.true_and]
  by_cases hqs:(q==s)=true
  ·rw[hqs];rfl
  ·rw[Bool.eq_false_iff.2 hqs];rfl
 ·rw[Bool.eq_false_iff.2 Y9]
  rfl
theorem Dt: ∀{a b:List Ty} {n:Nat} {x:List D},a.length=n→bV (.bQ (a++b)) x→bV (.bQ a) (x.take n)
 | [],b,n,x,hn,h=>by subst hn;exact bE.2 (by simp)
 |t::a,b,n,x,hn,h=>by
  obtain⟨d,r,rfl,h1,h2⟩:=aa.1 h
  subst hn
  rw[List.length_cons,List.take_succ_cons]
  exact aa.2 ⟨d,_,rfl,h1,Dt (b:=b) rfl h2⟩
def XO:List Ty:=[I6,I6, .list (.int .u8)] ++O5++IX
def tv:Ty:= .agg (.bQ XO)
def yP(d:D):D:= .agg ((d.ak.drop 3).take 46)
def pY(d:D)(s:RS):RS:=if mH (cD 0 d).ab 2=0 then(js (cD 1 d).ab s).2 else(eD (yP d) s).2
theorem Dy:tv.cells.length=76:=rfl
section
variable{w w0:World}{S S0:aO}{ow kK:Ow}{b i j:Nat}{s:RS}{Q:Exit→Act→World→Prop}{a:Act}
theorem Bx{d:D}(h:Has tv d):(∃l,d= .agg l∧l.length=76)∧cD 0 d= .int .i64 (cD 0 d).ab∧cD 1 d= .int .i64 (cD 1 d).ab∧kr .i64 (cD 0 d).ab∧kr .i64 (cD 1 d).ab∧Has hY (yP d):=by
 obtain⟨l,rfl,hl⟩:=cu.1 h
 have om:l.length=76:=by rw[dZ hl,Ty.cC];rfl
 have ks:bV (.bQ XO) l:=hl
 obtain⟨x0,r0,rfl,⟨n0,rfl,k0⟩,h1⟩:=aa.1 ks
 obtain⟨x1,r1,rfl,⟨n1,rfl,k1⟩,h2⟩:=aa.1 h1
 obtain⟨x2,r2,rfl,_,h3⟩:=aa.1 h2
 refine⟨⟨_,rfl,om⟩,rfl,rfl,k0,k1,cu.2 ⟨_,rfl,?_⟩⟩
 show bV (.bQ O5) (r2.take 46)
 exact Dt (a:=O5) (b:=IX) rfl h3
noncomputable def Bd:Code:= .seq (.region 7 Z9 false) (.cond (.tmp 28) (.region 8 Z8 false) (.region 9 Z7 false))
theorem M0{A:Option Addr}{cap b3:Nat}{ls:List D}{d:D}(hQ:QP Q)(dw:hZ w S ow 1000 (bP 0) b [cR s,cL s])(hw:Wf w S ow)(hr:bj w S (.slice A ls.length cap) (.list ls))(hj:ls[j]? =some d)(hd:Has tv d)(yT:Ok s 20)(uJ:Ok s (20+(cD 12 (yP d)).ak.length))(F3:(cD 12 (yP d)).ak.length≤2147483648)
  (k:Kn 125 a [(6, .int .i64 (j:Int)),(5,aM b),(3,aM b3),(0, .slice A ls.length cap)])
  (fO: ∀a W S' aT,Kn 125 a [(6, .int .i64 (j:Int)),(5,aM b),(3,aM b3),(0, .slice A ls.length cap)] →aC (bJ 1000) ae w S ow W S' aT→Wf W S' aT→hZ W S' aT 1000 (bP 0) b [cR (pY d s),cL (pY d s)] →Q .normal a W):Bd.wp Try.prog Q a w:=by
 have jh:j<ls.length:=(ai.1 hj).1
 obtain⟨⟨l,qo,aqT⟩,hk,hn,Ij,hnk,Ut⟩:=Bx hd
 unfold Bd
 refine wp_seq (rg ae hQ apX ?_)
 intro w1 e1
 have fC:=hw.aG e1
 have gC:aC (bJ 1000) ae w S ow w1 S ow:=aC.aG e1 _ ae S ow
 have Ot:aC ae ae w S ow w1 S ow:=aC.aG e1 _ ae S ow
 have uK:=dw.aB hw fC Ot (fun h=>h) rfl
 have yJ:=hr.aB Ot
 have s0:=SX.refl ae w1
 obtain⟨bm,off,Ec,us,hv,hS,zi,BV,KF⟩:=yJ.QC hj hd (by rw[Dy];omega)
 rw[Dy]at hS zi BV
 injection hv with hA _ _
 subst hA
 have Ip:=fC.s _ _ hS
 have u0:us[0]? =some (.int .i64 (cD 0 d).ab):=by
  obtain⟨u,hu⟩: ∃u,us[0]? =some u:=⟨_,av (by omega)⟩
  have hc:d.cells[0]? =some (cD 0 d):=by subst qo;show l[0]? =some (l.getD 0 .top);rw[List.getD_eq_getElem?_getD,av (by omega)];rfl
  have:=KF 0 u _ hu hc
  rw[hk]at this
  rw[hu,this.bD]
 have u1:us[1]? =some (.int .i64 (cD 1 d).ab):=by
  obtain⟨u,hu⟩: ∃u,us[1]? =some u:=⟨_,av (by omega)⟩
  have hc:d.cells[1]? =some (cD 1 d):=by subst qo;show l[1]? =some (l.getD 1 .top);rw[List.getD_eq_getElem?_getD,av (by omega)];rfl
  have:=KF 1 u _ hu hc
  rw[hn]at this
  rw[hu,this.bD]
 repeat refine sm k fun a k=> ?_
 refine oG (el:=51) (sz:=76) k (by assumption) rfl (by decide) rfl rfl (by kernel_rfl) (by kernel_rfl) (by omega) (by omega) fun a k=> ?_
 rw[Int.toNat_natCast]at k
 repeat (first|refine sm k fun a k=> ?_|refine ld k (ez Ip (fun h=>h) (BV 0 _ u0)) fun a k=> ?_)
 refine gU (vs:=[.int .i64 (cD 0 d).ab, .int .i64 2]) k (by decide) rfl (by decide) c8.enter rfl (r7 fC Ij (by decide) (by decide)) ?_
 rintro e w2 ⟨rfl,en,eK⟩
 have s2:=en.BS ae
 refine⟨_,rfl,fun _=>s2,fun a k=> ?_⟩
 refine cm (c:=(mH (cD 0 d).ab 2==0)) k rfl rfl rfl fun a k=> ?_
 refine ar (aR k rfl ?_)
 have k:=k.sub (l:=[(6, .int .i64 (j:Int)),(5,aM b),(3,aM b3),(0, .slice (some ⟨bm,off,none⟩) ls.length cap)]) ⟨rfl,rfl,rfl,rfl,trivial⟩
 have nN:=uK.aB fC eK en (fun h=>h) rfl
 have sw:=gC.aF hw fC en (fun _ h=>h.elim)
 have Mv: ∀(q:Nat) u,us[q]? =some u→w2.cell? ⟨bm,off+j*76+q,none⟩=some u:=fun q u h=>(World.cell?_of_block (s2.2 bm Ip (fun h=>h))).trans (BV q u h)
 have aa3:=eK.s _ _ hS
 by_cases hz:(mH (cD 0 d).ab 2==0)=true
 ·rw[if_pos hz]
  have mj:pY d s=(js (cD 1 d).ab s).2:=by unfold pY;rw[if_pos (by simpa using hz)]
  refine rg ae hQ apW ?_
  intro w3 e3
  have gw:=eK.aG e3
  have Mp:aC ae ae w2 S ow w3 S ow:=aC.aG e3 _ ae S ow
  have qj:=nN.aB eK gw Mp (fun h=>h) rfl
  have tD:=sw.aF hw eK Mp (fun _ h=>h.elim)
  have s0:=SX.refl ae w3
  have hc3:w3.cell? ⟨bm,off+j*76+1,none⟩=some (.int .i64 (cD 1 d).ab):=(World.cell?_of_block (by rw[e3.heap])).trans (Mv 1 _ u1)
  repeat refine sm k fun a k=> ?_
  refine oG (el:=51) (sz:=76) k (by assumption) rfl (by decide) rfl rfl (by kernel_rfl) (by kernel_rfl) (by omega) (by omega) fun a k=> ?_
  rw[Int.toNat_natCast]at k
  repeat (first|refine sm k fun a k=> ?_|refine ld k (ez (gw.s _ _ hS) (fun h=>h) hc3) fun a k=> ?_)
  refine gU (vs:=[aM b, .int .i64 (cD 1 d).ab]) k (by decide) rfl (by decide) c15.enter rfl (C6 qj gw (by omega) hnk yT) ?_
  rintro e w4 ⟨v,S4,L3,rfl,jr,m7,D5,_,_⟩
  refine⟨_,rfl,fun h=>absurd rfl h,fun a k=> ?_⟩
  refine ar (fO _ _ S4 L3 (k.sub ⟨rfl,rfl,rfl,rfl,trivial⟩) (tD.dJ hw gw jr rfl) m7 ?_)
  rw[mj];exact D5
 ·rw[if_neg hz]
  have mj:pY d s=(eD (yP d) s).2:=by unfold pY;rw[if_neg (by simpa using hz)]
  refine rg ae hQ apV ?_
  intro w3 e3
  have gw:=eK.aG e3
  have Mp:aC ae ae w2 S ow w3 S ow:=aC.aG e3 _ ae S ow
  have qj:=nN.aB eK gw Mp (fun h=>h) rfl
  have tD:=sw.aF hw eK Mp (fun _ h=>h.elim)
  have s0:=SX.refl ae w3
  repeat refine sm k fun a k=> ?_
  refine oG (el:=51) (sz:=76) k (by assumption) rfl (by decide) rfl rfl (by kernel_rfl) (by kernel_rfl) (by omega) (by omega) fun a k=> ?_
  rw[Int.toNat_natCast]at k
  repeat refine sm k fun a k=> ?_
  refine lN (vs:=(us.drop 3).take 46) k rfl (by rw[List.length_take,List.length_drop,zi]) (fun w' gX q v hv=>by
   rw[List.getElem?_take]at hv
   split at hv
   ·rw[List.getElem?_drop]at hv
    rw[Nat.add_assoc]
    exact ez (gw.s _ _ hS) (fun h=>h) ((World.cell?_of_block (by rw[e3.heap])).trans (Mv (3+q) v hv)) w' gX
   ·cases hv) fun a k=> ?_
  have Tv:bj w3 S (.agg ((us.drop 3).take 46).toArray) (yP d):=by
   subst qo
   refine .agg _ _ (by show _=((l.drop 3).take 46).length;rw[List.length_take,List.length_drop,List.length_take,List.length_drop,zi,aqT]) (fun q u y h3 h4=> ?_)
   have Tf:((l.drop 3).take 46)[q]? =some y:=h4
   rw[List.getElem?_take]at h3 Tf
   split at h3
   ·rename_i hq
    rw[if_pos hq]at Tf
    rw[List.getElem?_drop]at h3 Tf
    exact((KF (3+q) u y h3 Tf).aB en).aB Mp
   ·cases h3
  refine gU (vs:=[aM b, .agg ((us.drop 3).take 46).toArray]) k (by decide) rfl (by decide) c17.enter rfl (xn qj gw (by omega) Ut Tv uJ F3) ?_
  rintro e w4 ⟨v,S4,L3,rfl,jr,m7,D5,_,_⟩
  refine⟨_,rfl,fun h=>absurd rfl h,fun a k=> ?_⟩
  refine ar (fO _ _ S4 L3 (k.sub ⟨rfl,rfl,rfl,rfl,trivial⟩) (tD.dJ hw gw jr rfl) m7 ?_)
  rw[mj];exact D5
end
def ph(l:List D)(s:RS):RS:=l.foldl (fun s d=>pY d s) s
theorem Ng{ls:List D}{j:Nat}{d:D}(h:ls[j]? =some d)(s:RS):ph (ls.take (j+1)) s=pY d (ph (ls.take j) s):=by
 have:ls.take (j+1)=ls.take j++[d] :=by rw[List.take_add_one,h];rfl
 unfold ph
 rw[this,List.foldl_append];rfl
def Room(ls:List D)(s:RS):Prop:= ∀j d,ls[j]? =some d→Ok (ph (ls.take j) s) 20∧Ok (ph (ls.take j) s) (20+(cD 12 (yP d)).ak.length)∧(cD 12 (yP d)).ak.length≤2147483648
noncomputable def xE(K:Code):Code:= .seq (.seq (.region 4 aac false) (.block 0 (.loop (.seq (.seq (.region 5 aab false) (.cond (.tmp 19) .skip (.exit 0))) (.seq (.block 1 Bd) (.region 6 aaa false)))))) K
section
variable{w w0:World}{S S0:aO}{ow kK:Ow}{b i j:Nat}{s:RS}{Q:Exit→Act→World→Prop}{a:Act}
theorem JS{A:Option Addr}{cap b3:Nat}{ls:List D}{K:Code}(hQ:QP Q)(dw:hZ w S ow 1000 (bP 0) b [cR s,cL s])(hw:Wf w S ow)(hr:bj w S (.slice A ls.length cap) (.list ls))(hh:Has (.list tv) (.list ls))(nj:Room ls s)
  (k:Kn 125 a [(5,aM b),(3,aM b3),(0, .slice A ls.length cap)])
  (hK: ∀a W S' aT,Kn 125 a [(5,aM b),(3,aM b3),(0, .slice A ls.length cap)] →aC (bJ 1000) ae w S ow W S' aT→Wf W S' aT→hZ W S' aT 1000 (bP 0) b [cR (ph ls s),cL (ph ls s)] →K.wp Try.prog Q a W):(xE K).wp Try.prog Q a w:=by
 have gz:ls.length≤maxLen:=by
  obtain⟨l',h1,h2,_⟩:=aD.1 hh
  injection h1 with h1;subst h1;exact h2.1
 have H6:maxLen≤9223372036854775807:=by decide
 unfold xE
 refine wp_seq (wp_seq (rg ae hQ ap0 ?_))
 intro w1 e1
 have s0:=SX.refl ae w1
 repeat refine sm k fun a k=> ?_
 refine ar ?_
 have uI:aC ae ae w S ow w1 S ow:=aC.aG e1 _ ae S ow
 refine wp_block (wp_loop_ghost (fun mm a W=> ∃(j:Nat) (S1:aO) (dA:Ow),mm=ls.length-j∧j≤ls.length∧Kn 125 a [(6, .int .i64 (j:Int)),(5,aM b),(3,aM b3),(0, .slice A ls.length cap)] ∧aC (bJ 1000) ae w S ow W S1 dA∧Wf W S1 dA∧
  hZ W S1 dA 1000 (bP 0) b [cR (ph (ls.take j) s),cL (ph (ls.take j) s)]) (ls.length-0)
  ⟨0,S,ow,rfl,Nat.zero_le _,k.sub ⟨rfl,rfl,rfl,rfl,trivial⟩,aC.aG e1 _ ae S ow,hw.aG e1,dw.aB hw (hw.aG e1) uI (fun h=>h) rfl⟩ ?_)
 clear k s0 uI e1 w1
 rintro mm a W ⟨j,S1,dA,rfl,hjn,k,gC,fC,uK⟩
 refine wp_seq (wp_seq (rg ae hQ apZ ?_))
 intro w2 e2
 have eK:=fC.aG e2
 have TZ:aC ae ae W S1 dA w2 S1 dA:=aC.aG e2 _ ae S1 dA
 have en:=gC.aF hw fC TZ (fun _ h=>h.elim)
 have nN:=uK.aB fC eK TZ (fun h=>h) rfl
 have s0:=SX.refl ae w2
 repeat refine sm k fun a k=> ?_
 refine cm (c:=decide ((j:Int)<(ls.length:Int))) k rfl rfl rfl fun a k=> ?_
 refine ar (aR k rfl ?_)
 have k:=k.sub (l:=[(6, .int .i64 (j:Int)),(5,aM b),(3,aM b3),(0, .slice A ls.length cap)]) ⟨rfl,rfl,rfl,rfl,trivial⟩
 by_cases aL:(j:Int)<(ls.length:Int)
 ·rw[if_pos (by simpa using aL)]
  refine wp_skip ?_
  obtain⟨d,hd⟩: ∃d,ls[j]? =some d:=⟨_,av (by omega)⟩
  obtain⟨r1,r2,r3⟩:=nj j d hd
  refine wp_seq (wp_block (M0 (fun c a d v w h=>hQ c a d v w h) nN eK (hr.aB en) hd (lY hh d (aS hd)) r1 r2 r3 k ?_))
  intro a w3 S3 qp k eY gw qj
  refine rg ae hQ apY ?_
  intro w4 e4
  have DW:aC ae ae w3 S3 qp w4 S3 qp:=aC.aG e4 _ ae S3 qp
  have s0:=SX.refl ae w4
  repeat refine sm k fun a k=> ?_
  refine lH (s:=((j+1:Nat):Int)) k (by assumption) rfl (by decide) rfl rfl (wrap64 (by omega) (by omega)) fun a k=> ?_
  repeat refine sm k fun a k=> ?_
  refine ar ⟨ls.length-(j+1),by omega,j+1,S3,qp,rfl,by omega,k.sub ⟨rfl,rfl,rfl,rfl,trivial⟩,(en.dJ hw eK eY rfl).aF hw gw DW (fun _ h=>h.elim),gw.aG e4,?_⟩
  rw[Ng hd]
  exact qj.aB gw (gw.aG e4) DW (fun h=>h) rfl
 ·rw[if_neg (by simpa using aL)]
  refine wp_exit ?_
  have DR:j=ls.length:=by omega
  subst DR
  rw[List.take_length]at nN
  exact hK _ _ S1 dA (k.sub ⟨rfl,rfl,rfl,trivial⟩) en eK nN
end
end Go.Proofs.Ytjhmkaninmgilaa
namespace Go.Proofs.Ytjhmkaninmgilaa
open Go Go.RowKit Go.bZ Go.Proofs
theorem rb{C:Nat}{s:RS}{K k:Nat}(h:bB C s K)(hi:Idle s)(hk:k≤K)(h6:k≤65536):Ok s k:=by
 have h1:=h.xM;have h2:=h.nm;have h3:=h.ne;have h4:=h.nv
 refine⟨h.may,h.DL,h.DK,by omega,by omega,by omega,?_,by omega,h.cf,h.cs,h.cl,h.tm,h.tx,h.rd⟩
 rw[hi.com]
 have:=aii h6
 have e:G 65536=274877906944:=by unfold G;rfl
 simp only[List.length_nil]
 omega
def vd(d:D):Nat:=20+(cD 12 (yP d)).ak.length
def cost:List D→Nat
 | [] =>0
 |d::r=>vd d+cost r
theorem Lr{C:Nat}: ∀(ls:List D) (s:RS) (K:Nat),bB C s K→Idle s→cost ls+20≤K→(∀d∈ls,vd d≤65536)→Room ls s∧bB C (ph ls s) (K-cost ls)∧Idle (ph ls s)
 | [],s,K,h,hi,hc,hl=>⟨fun j d hj=>by simp at hj,h,hi⟩
 |d::r,s,K,h,hi,hc,hl=>by
  have hd:=hl d List.mem_cons_self
  have akz:cost (d::r)=vd d+cost r:=rfl
  have hcd:vd d=20+(cD 12 (yP d)).ak.length:=rfl
  have r1:Ok s 20:=rb h hi (by omega) (by omega)
  have r2:Ok s (20+(cD 12 (yP d)).ak.length):=rb h hi (by omega) (by omega)
  have mj:bB C (pY d s) (K-vd d)∧Idle (pY d s):=by
   unfold pY
   by_cases hz:mH (cD 0 d).ab 2=0
   ·rw[if_pos hz]
    exact⟨bB.tick (h.le (by omega)),NJ (k:=7) r1⟩
   ·rw[if_neg hz]
    exact⟨bB.step (h.le (by omega)),Dq _ _⟩
  obtain⟨a1,a2,a3⟩:=Lr r (pY d s) (K-vd d) mj.1 mj.2 (by omega) (fun x hx=>hl x (List.mem_cons_of_mem _ hx))
  refine⟨?_,by rw[akz,←Nat.sub_sub];exact a2,a3⟩
  intro j x hj
  cases j with
  |zero=>
   injection hj with hj
   subst hj
   exact⟨r1,r2,by omega⟩
  |succ j=>exact a1 j x hj
attribute [local irreducible] TL
noncomputable def EU(K:Code):Code:= .seq (.region 0 aaf false) (.seq (.region 1 aae false) (.seq (.seq (.region 2 aad false) (.cond (.tmp 15) (.seq (.region 3 ahc false) .ret) .skip)) K))
section
variable{w:World}{S:aO}{Q:Exit→Act→World→Prop}{a:Act}
theorem M4{mv:List Value}{vl:Value}{K:Code}(hQ:QP Q)(hw:Wf w S (fun _=>none))(k:Kn 125 a [(0,vl),(1, .agg mv.toArray)])
  (hK: ∀a W S' aT b b3,Kn 125 a [(5,aM b),(3,aM b3),(0,vl)] →aC (bJ 1000) ae w S (fun _=>none) W S' aT→Wf W S' aT→hZ W S' aT 1000 (bP 0) b [cR (pg 3 0),cL (pg 3 0)] →dP W S' aT b3 49 mv→w.heap.size≤b3→K.wp Try.prog Q a W):(EU K).wp Try.prog Q a w:=by
 unfold EU
 refine wp_seq (rg ae hQ ap3 ?_)
 intro w1 e1
 have fC:=hw.aG e1
 have gC:aC (bJ 1000) ae w S (fun _=>none) w1 S (fun _=>none):=aC.aG e1 _ ae S _
 refine qR (us:=mv) k (by decide) rfl (by decide) rfl rfl (fun _=>SX.alloc _ _ _) fun a k=> ?_
 have s0:=SX.alloc ae w1 (.cells mv.toArray 49)
 refine sm k fun a k=> ?_
 refine ar ?_
 obtain⟨en,eK⟩:=aC.alloc fC (.cells mv.toArray 49)
 have n7:=dP.new fC 49 mv
 have sw:=gC.aF hw fC en (fun _ h=>h.elim)
 have Uv:w.heap.size≤w1.heap.size:=by rw[e1.heap];exact Nat.le_refl _
 generalize hb3:w1.heap.size=b3 at k n7 Uv
 generalize w1.alloc _=w2 at n7 sw eK⊢
 have k:=k.sub (l:=[(3,aM b3),(0,vl)]) ⟨rfl,rfl,trivial⟩
 clear en s0 gC fC e1
 refine wp_seq (rg (fun _=>True) hQ ap2 ?_)
 intro w3 e3
 have gw:=eK.aG e3
 have tD:=sw.aF hw eK (aC.aG e3 ae ae S _) (fun _ h=>h.elim)
 have mi:=n7.aG e3
 refine UO k (by decide) rfl (by decide) (fun _=>SX.alloc _ _ _) fun a k=> ?_
 have s1:=SX.alloc (fun _=>True) w3 (.cells [Value.int .i64 1, .int .i64 2, .int .i64 3].toArray 3)
 obtain⟨S4,jr,m7,Ma⟩:=Sw (us:=[Value.int .i64 1, .int .i64 2, .int .i64 3]) (ds:=Ir 3) (T:=3) gw rfl (fun d hd=>by obtain⟨i,_,rfl⟩:=List.mem_map.1 hd;rfl) (by decide) (fun i u d hu hd=>by
  match i,hu,hd with
  |0,hu,hd=>injection hu with hu;injection hd with hd;subst hu hd;exact .int _ _
  |1,hu,hd=>injection hu with hu;injection hd with hd;subst hu hd;exact .int _ _
  |2,hu,hd=>injection hu with hu;injection hd with hd;subst hu hd;exact .int _ _) (fun d hd=>by obtain⟨i,_,rfl⟩:=List.mem_map.1 hd;rfl)
 have wL:=tD.aF hw gw jr (fun _ h=>h.elim)
 have uD:=mi.aB jr (fun h=>h)
 have aqz:bj _ S4 (.slice (some ⟨w3.heap.size,0,none⟩) 3 3) (.list (Ir 3)):=Ma
 refine lh (ps:=[(0, .slice (some ⟨w3.heap.size,0,none⟩) 3 3)]) (vs:=[.slice (some ⟨w3.heap.size,0,none⟩) 3 3,eu]) k (by assumption) rfl (by decide) rfl (by kernel_rfl) fun a k=> ?_
 refine lh (ps:=[]) (vs:=zV) k (by assumption) rfl (by decide) rfl (by kernel_rfl) fun a k=> ?_
 have Zk:(jj 0 0 [] 0 0 []).2=[] :=rfl
 have fM:=Di (l:=1000) (id:=1) (term:=0) (vote:=0) (fv:=Ir 3) (fl:=[]) (es:=[]) (c0:= .slice (some ⟨w3.heap.size,0,none⟩) 3 3) (c1:=eu) (s4:=eu) (s5:=eu) (s6:=eu) (s7:=eu) m7 (by omega) (by decide) (by decide)
  (.agg [.slice (some ⟨w3.heap.size,0,none⟩) 3 3,eu] _ rfl (fun q u y hu hy=>by
   match q,hu,hy with
   |0,hu,hy=>injection hu with hu;injection hy with hy;subst hu hy;exact aqz
   |1,hu,hy=>injection hu with hu;injection hy with hy;subst hu hy;exact .nil _ _)) (Hk (by omega)) (G9 (by omega) (by omega))
  (.agg [.int .i64 0, .int .i64 0, .int .i64 0, .int .i64 0,eu,eu,eu,eu] _ rfl (fun q u c hu hc=>by
   match q,hu,hc with
   |0,hu,hc=>injection hu with hu;injection hc with hc;subst hu hc;exact .int _ _
   |1,hu,hc=>injection hu with hu;injection hc with hc;subst hu hc;exact .int _ _
   |2,hu,hc=>injection hu with hu;injection hc with hc;subst hu hc;exact .int _ _
   |3,hu,hc=>injection hu with hu;injection hc with hc;subst hu hc;exact .int _ _
   |4,hu,hc=>injection hu with hu;injection hc with hc;subst hu hc;exact .nil _ _
   |5,hu,hc=>injection hu with hu;injection hc with hc;subst hu hc;exact .nil _ _
   |6,hu,hc=>injection hu with hu;injection hc with hc;subst hu hc;exact .nil _ _
   |7,hu,hc=>injection hu with hu;injection hc with hc;subst hu hc;exact .nil _ _)) ua (by decide) (by decide) (by decide) (by decide) (by rw[Zk];decide) (by decide) (by rw[Zk];decide)
 rw[Zk]at fM
 refine gU (vs:=[.int .i64 1, .agg [Value.slice (some ⟨w3.heap.size,0,none⟩) 3 3,eu].toArray, .agg zV.toArray]) k (by decide) rfl (by decide) LN rfl fM ?_
 rintro e w6 ⟨bs,S6,ow6,rfl,kq,qd,Mz,Ip⟩
 have s6:SX (fun _=>True) w3 w6:=⟨Nat.le_trans s1.1 kq.size,fun _ _ h=>absurd trivial h⟩
 refine⟨_,rfl,fun _=>s6,fun a k=> ?_⟩
 repeat refine sm k fun a k=> ?_
 refine ar ?_
 have N6:=uD.aB kq (fun h=>h)
 have su:=wL.dJ hw m7 kq rfl
 have k:=k.sub (l:=[(5,aM bs),(3,aM b3),(0,vl)]) ⟨rfl,rfl,rfl,trivial⟩
 refine wp_seq (wp_seq (rg ae hQ ap1 ?_))
 intro w7 e7
 have af5:aC ae ae w6 S6 ow6 w7 S6 ow6:=aC.aG e7 _ ae S6 ow6
 have s0:=SX.refl ae w7
 repeat refine sm k fun a k=> ?_
 refine I3 k (by assumption) rfl (by decide) rfl rfl (by kernel_rfl) fun a k=> ?_
 refine ar (aR k rfl (wp_skip ?_))
 exact hK _ _ S6 ow6 bs b3 (k.sub ⟨rfl,rfl,rfl,trivial⟩) (su.aF hw qd af5 (fun _ h=>h.elim)) (qd.aG e7) (Mz.aB qd (qd.aG e7) af5 (fun h=>h) rfl) (N6.aG e7) Uv
end
noncomputable def EV(K:Code):Code:= .seq (.region 10 PX false) (.seq (.region 11 PW false) (.seq (.region 12 PV false) K))
section
variable{w:World}{S:aO}{ow:Ow}{b b3:Nat}{s:RS}{Q:Exit→Act→World→Prop}{a:Act}
theorem M5{mv:List Value}{vl:Value}{t:Int}{K:Code}(hQ:QP Q)(dw:hZ w S ow 1000 (bP 0) b [cR s,cL s])(hw:Wf w S ow)(bM:Ok s 0)(lo:dP w S ow b3 49 mv)(H7:mv.length=46)(ht:mv[3]? =some (.int .i64 t))(FZ:kr .i64 t)(k:Kn 125 a [(5,aM b),(3,aM b3),(0,vl)])
  (hK: ∀a W aT b7 A1 n1 c1 A2 n2 c2,Kn 125 a [(7,aM b7),(5,aM b),(3,aM b3),(0,vl)] →Wf W S ow→hZ W S ow 1000 (bP 0) b [cR s,cL s] →dP W S ow b7 67 (uB s (.slice A1 n1 c1) (.slice A2 n2 c2))→dP W S ow b3 49 ((mv.set 2 (.int .i64 1)).set 3 (.int .i64 (mH t (s.term+1))))→aT=ow→aC ae (bJ b3) w S ow W S ow→K.wp Try.prog Q a W):(EV K).wp Try.prog Q a w:=by
 unfold EV
 refine wp_seq (rg ae hQ aiM ?_)
 intro w1 e1
 have fC:=hw.aG e1
 have gC:aC ae (bJ b3) w S ow w1 S ow:=aC.aG e1 _ _ S ow
 have uI:aC ae ae w S ow w1 S ow:=aC.aG e1 _ _ S ow
 have uK:=dw.aB hw fC uI (fun h=>h) rfl
 have BU:=lo.aG e1
 have s0:=SX.refl ae w1
 repeat refine sm k fun a k=> ?_
 refine gU (vs:=[aM b]) k (by decide) rfl (by decide) c12.enter rfl (nD uK fC bM) ?_
 rintro e w2 ⟨A1,n1,c1,A2,n2,c2,rfl,-,en,eK⟩
 refine⟨_,rfl,fun _=>en.BS _,fun a k=> ?_⟩
 have s1:=en.BS ae
 refine lj (nn:=9) k (by decide) rfl (by decide) (by kernel_rfl) (fun zs _=>s1.trans (SX.alloc _ _ _)) fun zs sX a k=> ?_
 refine lM (vs:=uB s (.slice A1 n1 c1) (.slice A2 n2 c2)) k (by decide) rfl (by kernel_rfl) rfl rfl rfl (heap_alloc_new w2 _) (by show 0+9≤zs.toArray.size;rw[List.size_toArray];omega) (by simp[uB,Value.oneCell']) (fun h=>absurd rfl h) fun a k=> ?_
 refine ar ?_
 have tE:(uB s (.slice A1 n1 c1) (.slice A2 n2 c2)).length=9:=rfl
 rw[fill_eq sX tE]
 obtain⟨eY,gw,sy⟩:=jo (T:=67) (zs:=zs) (us:=uB s (.slice A1 n1 c1) (.slice A2 n2 c2)) eK
 have nN:=uK.aB fC eK en (fun h=>h) rfl
 have qj:=nN.aB eK gw eY (fun h=>h) rfl
 have n7:=BU.aB en (fun h=>h)
 have mi:=n7.aB eY (fun e=>by have:=n7.lt;rw[show b3=w2.heap.size from e]at this;omega)
 have aa5:b3≠w2.heap.size:=by have:=n7.lt;omega
 have sw:aC ae (bJ b3) w S ow _ S ow:=(((gC.tr hw fC en (fun _ h=>h.elim)).tr hw eK eY (fun bb hb=> .inr (by rw[show bb=_ from hb];exact Nat.le_trans gC.size en.size)))).mono (fun _ h=>h.elim (fun h=>h.elim id id) id) (fun _ h=>h)
 generalize hb7:w2.heap.size=b7 at k sy mi qj sw aa5 gw⊢
 generalize hW:(w2.alloc _).setRow b7 _=w3 at sy mi qj sw gw⊢
 have k:=k.sub (l:=[(7,aM b7),(5,aM b),(3,aM b3),(0,vl)]) ⟨rfl,rfl,rfl,rfl,trivial⟩
 clear eY s0 s1 n7 BU nN uK en uI gC
 refine wp_seq (rg ae hQ aiL ?_)
 intro w4 e4
 have m7:=gw.aG e4
 have DW:aC ae ae w3 S ow w4 S ow:=aC.aG e4 _ _ S ow
 have uD:=mi.aG e4
 have od:=sy.aG e4
 have D5:=qj.aB gw m7 DW (fun h=>h) rfl
 have tD:aC ae (bJ b3) w S ow w4 S ow:=(sw.tr hw gw DW (fun _ h=>h.elim)).mono (fun _ h=>h.elim id id) (fun _ h=>h)
 have s0:=SX.refl ae w4
 repeat refine sm k fun a k=> ?_
 refine iN (cur:=mv) k (by decide) rfl (by kernel_rfl) rfl rfl rfl uD.heap (by omega) rfl (fun h=>absurd rfl h) fun a k=> ?_
 refine ar ?_
 obtain⟨jq,xN,CM⟩:=uD.set m7 (us:=mv.set (0+2) (.int .i64 1))
 have rG:=od.aB jq (fun e=>aa5 (Eq.symm e))
 have ahF:=D5.aB m7 xN jq (fun h=>h) rfl
 have wL:aC ae (bJ b3) w S ow _ S ow:=(tD.tr hw m7 jq (fun _ h=> .inl h)).mono (fun _ h=>h.elim id id) (fun _ h=>h)
 generalize w4.setRow b3 _=w5 at CM rG ahF wL xN⊢
 refine wp_seq (rg ae hQ aiK ?_)
 intro w6 e6
 have qd:=xN.aG e6
 have af6:aC ae ae w5 S ow w6 S ow:=aC.aG e6 _ _ S ow
 have N6:=CM.aG e6
 have FT:=rG.aG e6
 have Mz:=ahF.aB xN qd af6 (fun h=>h) rfl
 have su:aC ae (bJ b3) w S ow w6 S ow:=(wL.tr hw xN af6 (fun _ h=>h.elim)).mono (fun _ h=>h.elim id id) (fun _ h=>h)
 have s0:=SX.refl ae w6
 have h3:(mv.set (0+2) (.int .i64 1))[3]? =some (.int .i64 t):=by rw[List.getElem?_set];simpa using ht
 have H6:MX=1099511627776:=rfl
 have uE:=bM.tm
 have htx:=bM.tx
 repeat (first|refine sm k fun a k=> ?_|refine ld k (N6.cell (fun h=>h) h3) fun a k=> ?_)
 refine ld k (FT.cell (fun h=>h) (j:=2) (v:= .int .i64 s.term) rfl) fun a k=> ?_
 refine lH (s:=s.term+1) k (by assumption) rfl (by decide) rfl rfl (wrap64 (by omega) (by omega)) fun a k=> ?_
 refine gU (vs:=[.int .i64 t, .int .i64 (s.term+1)]) k (by decide) rfl (by decide) c8.enter rfl (r7 qd FZ ⟨by have:IntKind.i64.min= -9223372036854775808:=rfl;omega,by have:IntKind.i64.max=9223372036854775807:=rfl;omega⟩ (by omega)) ?_
 rintro e w7 ⟨rfl,pb,CN⟩
 have s7:=pb.BS ae
 refine⟨_,rfl,fun _=>s7,fun a k=> ?_⟩
 repeat refine sm k fun a k=> ?_
 have lo7:=N6.aB pb (fun h=>h)
 refine iN (cur:=mv.set (0+2) (.int .i64 1)) k (by decide) rfl (by kernel_rfl) rfl rfl rfl lo7.heap (by rw[List.length_set];omega) rfl (fun h=>absurd rfl h) fun a k=> ?_
 refine ar ?_
 obtain⟨ur,FW,YT⟩:=lo7.set CN (us:=(mv.set (0+2) (.int .i64 1)).set (0+3) (.int .i64 (mH t (s.term+1))))
 have B2:=(FT.aB pb (fun h=>h)).aB ur (fun e=>aa5 (Eq.symm e))
 have Us:=(Mz.aB qd CN pb (fun h=>h) rfl).aB CN FW ur (fun h=>h) rfl
 have V2:aC ae (bJ b3) w S ow _ S ow:=((su.tr hw qd pb (fun _ h=>h.elim)).tr hw CN ur (fun _ h=> .inl h)).mono (fun _ h=>h.elim (fun h=>h.elim id id) id) (fun _ h=>h)
 exact hK _ _ ow b7 A1 n1 c1 A2 n2 c2 (k.sub ⟨rfl,rfl,rfl,rfl,trivial⟩) FW Us B2 YT rfl V2
end
structure Kp(w w':World):Prop where
 size:w.heap.size≤w'.heap.size
 os:w'.os=w.os
 tape:w'.tape=w.tape
 output:w'.output=w.output
 zg: ∀b,b<w.heap.size→w'.heap[b]? =w.heap[b]?
theorem Kp.trans{w w' yG:World}(h:Kp w w')(k:Kp w' yG):Kp w yG:=
 ⟨Nat.le_trans h.size k.size,k.os.trans h.os,k.tape.trans h.tape,k.output.trans h.output,fun b hb=>(k.zg b (Nat.lt_of_lt_of_le hb h.size)).trans (h.zg b hb)⟩
theorem Kp.of{L:Nat→Prop}{w w':World}{S S':aO}{aT:Ow}(h:aC L ae w S (fun _=>none) w' S' aT):Kp w w':=⟨h.size,h.os,h.tape,h.output,fun b hb=>h.free b hb rfl (fun h=>h)⟩
def gL(w0:World):Exit→Act→World→Prop:=bodyPost Try.prog Try.f7 (fun e w'=>e= .returned (.bool true)∧Kp w0 w')
noncomputable def A8(K:Code):Code:= .seq (.seq (.region 13 PU false) (.cond (.tmp 59) (.seq (.region 14 PT false) .ret) .skip)) K
theorem _root_.Go.bZ.Wf.bare{w:World}{S:aO}{ow:Ow}(h:Wf w S ow):Wf w S (fun _=>none):=⟨h.s,fun _ _ h=>(by cases h),fun _ _ _ _ h=>(by cases h)⟩
section
variable{w w0:World}{S:aO}{ow:Ow}{b b3 b7:Nat}{s:RS}{a:Act}
theorem JU{mv:List Value}{vl:Value}{u:Int}{v1 v2:Value}{K:Code}(hkp: ∀W S' aT,aC ae ae w S ow W S' aT→Kp w0 W)(hw:Wf w S ow)(lo:dP w S ow b3 49 mv)(hu:mv[3]? =some (.int .i64 u))(lx:dP w S ow b7 67 (uB s v1 v2))(k:Kn 125 a [(7,aM b7),(5,aM b),(3,aM b3),(0,vl)])
  (hK: ∀a W,u<s.term→Kn 125 a [(7,aM b7),(5,aM b),(3,aM b3),(0,vl)] →aC ae ae w S ow W S ow→K.wp Try.prog (gL w0) a W):(A8 K).wp Try.prog (gL w0) a w:=by
 have hQ:QP (gL w0):=gp
 unfold A8
 refine wp_seq (wp_seq (rg ae hQ aiJ ?_))
 intro w1 e1
 have fC:=hw.aG e1
 have uI:aC ae ae w S ow w1 S ow:=aC.aG e1 _ _ S ow
 have BU:=lo.aG e1
 have yH:=lx.aG e1
 have s0:=SX.refl ae w1
 repeat (first|refine sm k fun a k=> ?_|refine ld k (BU.cell (fun h=>h) hu) fun a k=> ?_)
 refine ld k (yH.cell (fun h=>h) (j:=2) (v:= .int .i64 s.term) rfl) fun a k=> ?_
 refine cm (c:=decide (u≥s.term)) k rfl rfl rfl fun a k=> ?_
 refine ar (aR k rfl ?_)
 by_cases hc:u≥s.term
 ·rw[if_pos (by simpa using hc)]
  refine wp_seq (rg (fun _=>True) hQ aiI ?_)
  intro w2 e2
  have TZ:aC ae ae w1 S ow w2 S ow:=aC.aG e2 _ _ S ow
  refine gU (vs:=[]) k (by decide) rfl (by decide) LM rfl (ym (fC.aG e2).bare) ?_
  rintro e w3 ⟨S3,qp,rfl,eY⟩
  have s3:SX (fun _=>True) w2 w3:=⟨eY.size,fun _ _ h=>absurd trivial h⟩
  refine⟨_,rfl,fun _=>s3,fun a k=> ?_⟩
  repeat refine sm k fun a k=> ?_
  refine ar (wp_ret ?_)
  show gL w0 .ret a w3
  refine(oQ (fn:=Try.f7) agz k rfl ⟨rfl,?_⟩).1
  exact(hkp w2 S ow ((uI.tr hw fC TZ (fun _ h=>h.elim)).mono (fun _ h=>h.elim id id) (fun _ h=>h))).trans (Kp.of eY)
 ·rw[if_neg (by simpa using hc)]
  refine wp_skip (hK _ _ (by omega) (k.sub ⟨rfl,rfl,rfl,rfl,trivial⟩) uI)
end
noncomputable def AL(K:Code):Code:= .seq (.region 15 PS false) (.seq (.region 16 PR false) K)
section
variable{w:World}{S:aO}{ow:Ow}{b b3 b7:Nat}{s:RS}{Q:Exit→Act→World→Prop}{a:Act}
theorem JT{mv:List Value}{m:D}{vl v1 v2:Value}{K:Code}(hQ:QP Q)(dw:hZ w S ow 1000 (bP 0) b [cR s,cL s])(hw:Wf w S ow)(lo:dP w S ow b3 49 mv)(H7:mv.length=46)(Tv:bj w S (.agg mv.toArray) m)(hm:Has hY m)(bM:Ok s (20+(cD 12 m).ak.length))(F3:(cD 12 m).ak.length≤2147483648)(uJ:Ok (eD m s).2 0)(lx:dP w S ow b7 67 (uB s v1 v2))(k:Kn 125 a [(7,aM b7),(5,aM b),(3,aM b3),(0,vl)])
  (hK: ∀a W S' aT b8 b9 co A1 n1 c1 A2 n2 c2,Kn 125 a [(9,aM b9),(8,aM b8),(7,aM b7)] →Wf W S' aT→aC (bJ 1000) ae w S ow W S' aT→dP W S' aT b7 67 (uB s v1 v2)→dP W S' aT b8 75 co→co.length=8→bj W S' (.agg co.toArray) (eD m s).1→Has IE (eD m s).1→dP W S' aT b9 67 (uB (eD m s).2 (.slice A1 n1 c1) (.slice A2 n2 c2))→K.wp Try.prog Q a W):(AL K).wp Try.prog Q a w:=by
 unfold AL
 refine wp_seq (rg (fun bb=>ow bb=some 1000) hQ aiH ?_)
 intro w1 e1
 have fC:=hw.aG e1
 have gC:aC (bJ 1000) ae w S ow w1 S ow:=aC.aG e1 _ _ S ow
 have uI:aC ae ae w S ow w1 S ow:=aC.aG e1 _ _ S ow
 have uK:=dw.aB hw fC uI (fun h=>h) rfl
 have BU:=lo.aG e1
 have yH:=lx.aG e1
 have ahx:=Tv.aB uI
 have s0:=SX.refl (fun bb=>ow bb=some 1000) w1
 refine sm k fun a k=> ?_
 refine lN (vs:=mv) k rfl H7 (fun w' gX j v hv=>by rw[Nat.zero_add];exact BU.cell (fun h=>by rw[BU.ow]at h;cases h) hv w' gX) fun a k=> ?_
 refine gU (vs:=[aM b, .agg mv.toArray]) k (by decide) rfl (by decide) c17.enter rfl (xn uK fC (by omega) hm ahx bM F3) ?_
 rintro e w2 ⟨v,S2,te,rfl,en,eK,nN,lC,SR⟩
 refine⟨_,rfl,fun _=>SX.fU (fun _ h=>h) en,fun a k=> ?_⟩
 have s1:SX (fun bb=>ow bb=some 1000) w1 w2:=SX.fU (fun _ h=>h) en
 obtain⟨co,On,rfl,hdo,Gl,-,-,-,fX⟩:=UF lC SR rfl
 have uY:co.length=8:=Gl
 refine lj (nn:=8) k (by decide) rfl (by decide) (by kernel_rfl) (fun zs _=>s1.trans (SX.alloc _ _ _)) fun zs sX a k=> ?_
 refine lM (vs:=co) k (by decide) rfl (by rw[uY];kernel_rfl) rfl rfl rfl (heap_alloc_new w2 _) (by show 0+co.length≤zs.toArray.size;rw[List.size_toArray];omega) fX (fun h=>absurd rfl h) fun a k=> ?_
 refine ar ?_
 rw[fill_eq sX uY]
 obtain⟨eY,gw,mi⟩:=jo (T:=75) (zs:=zs) (us:=co) eK
 have qj:=nN.aB eK gw eY (fun h=>h) rfl
 have BT:=yH.aB en (fun h=>h)
 have sy:=BT.aB eY (fun e=>by have:=BT.lt;rw[show b7=w2.heap.size from e]at this;omega)
 have Oc:=lC.aB eY
 have sw:aC (bJ 1000) ae w S ow _ S2 te:=((gC.dJ hw fC en rfl)).aF hw eK eY (fun bb hb=>by rw[show bb=_ from hb];exact Nat.le_trans gC.size en.size)
 generalize hb8:w2.heap.size=b8 at k sy mi qj sw gw Oc⊢
 generalize hW:(w2.alloc _).setRow b8 _=w3 at sy mi qj sw gw Oc⊢
 have k:=k.sub (l:=[(8,aM b8),(7,aM b7),(5,aM b)]) ⟨rfl,rfl,rfl,trivial⟩
 clear eY s0 s1 BT yH nN uK en uI gC BU ahx lC
 refine wp_seq (rg ae hQ aiG ?_)
 intro w4 e4
 have m7:=gw.aG e4
 have DW:aC ae ae w3 S2 te w4 S2 te:=aC.aG e4 _ _ S2 te
 have D5:=qj.aB gw m7 DW (fun h=>h) rfl
 have uD:=mi.aG e4
 have od:=sy.aG e4
 have Ma:=Oc.aB DW
 have tD:=sw.aF hw gw DW (fun _ h=>h.elim)
 have s0:=SX.refl ae w4
 repeat refine sm k fun a k=> ?_
 refine gU (vs:=[aM b]) k (by decide) rfl (by decide) c12.enter rfl (nD D5 m7 uJ) ?_
 rintro e w5 ⟨A1,n1,c1,A2,n2,c2,rfl,-,jq,xN⟩
 refine⟨_,rfl,fun _=>jq.BS _,fun a k=> ?_⟩
 have s1:=jq.BS ae
 refine lj (nn:=9) k (by decide) rfl (by decide) (by kernel_rfl) (fun zs _=>s1.trans (SX.alloc _ _ _)) fun zs aqj a k=> ?_
 refine lM (vs:=uB (eD m s).2 (.slice A1 n1 c1) (.slice A2 n2 c2)) k (by decide) rfl (by kernel_rfl) rfl rfl rfl (heap_alloc_new w5 _) (by show 0+9≤zs.toArray.size;rw[List.size_toArray];omega) (by simp[uB,Value.oneCell']) (fun h=>absurd rfl h) fun a k=> ?_
 refine ar ?_
 have tE:(uB (eD m s).2 (.slice A1 n1 c1) (.slice A2 n2 c2)).length=9:=rfl
 rw[fill_eq aqj tE]
 obtain⟨kq,qd,ly6⟩:=jo (T:=67) (zs:=zs) (us:=uB (eD m s).2 (.slice A1 n1 c1) (.slice A2 n2 c2)) xN
 have CM:=uD.aB jq (fun h=>h)
 have rG:=od.aB jq (fun h=>h)
 have N6:=CM.aB kq (fun e=>by have:=CM.lt;rw[show b8=w5.heap.size from e]at this;omega)
 have FT:=rG.aB kq (fun e=>by have:=rG.lt;rw[show b7=w5.heap.size from e]at this;omega)
 have Tw:=(Ma.aB jq).aB kq
 have wL:=(tD.aF hw m7 jq (fun _ h=>h.elim)).aF hw xN kq (fun bb hb=>by rw[show bb=_ from hb];exact Nat.le_trans tD.size jq.size)
 exact hK _ _ S2 te b8 w5.heap.size co A1 n1 c1 A2 n2 c2 (k.sub ⟨rfl,rfl,rfl,trivial⟩) qd wL FT N6 uY Tw SR ly6
end
theorem MV{Q:Exit→Act→World→Prop}{SS:World→Prop}{ops:Array Oper}{n n0 i d:Nat}{a:Act}{w:World}{m:List (Nat×Value)}{gd:Option (Nat×Bool)}{LL r:List OK}{x y:Operand}{t2:TypeId}{p1 p2 q1 q2:Int}(k:Kn n a m)(hS:SS w)(hg:pU LL m gd=some true)(hd:d<n)(hx:lB m x=some (.agg [Value.int .i64 p1, .int .i64 p2].toArray))(hy:lB m y=some (.agg [Value.int .i64 q1, .int .i64 q2].toArray))
  (h: ∀a',Kn n a' ((d, .bool ((p1==q1)&&(p2==q2)))::m)→TL Try.prog ops Q SS n0 LL r (i+1) a' w):TL Try.prog ops Q SS n0 LL ((some d, .binOp .eql 61 x y t2,gd)::r) i a w:=by
 refine qg k hS hg hd (fun ty pos af w' _=> ?_) h
 have h1:=k.op hx
 have h2:=k.op hy
 have mJ:(execOp a.eval ⟨some d, .binOp .eql 61 x y t2,ty,pos,af,gd⟩)=(do let v←(do eqGuard .eql 61 x y (a.eval x) (a.eval y);binOp .eql 61 (a.eval x) (a.eval y):Sem Value);pure (.value v)):=by unfold execOp;rfl
 have hb: ∀A B,binOp .eql 61 (.agg A) (.agg B)=(do pure (.bool (←Op.equalIn (9999+1) 61 (.agg A) (.agg B)))):=fun _ _=>rfl
 have he:Try.prog.eqGuardType Try.prog.depth 61=false:=by kernel_rfl
 have hgu: ∀A B,(eqGuard .eql 61 x y (.agg A) (.agg B)).run Try.prog w'= .ok () w':=by
  intro A B
  unfold eqGuard
  simp[Sem.run_bind,he]
 rw[mJ,Sem.run_bind,Sem.run_bind,h1,h2,hgu,Result.andThen_ok,hb,Sem.run_bind,J0]
 rfl
noncomputable def EZ:Code:= .seq (.region 17 PQ false) .ret
theorem M7{s t:RS}(h:Alike s t)(v1 v2:Value):uB t v1 v2=uB s v1 v2:=by
 unfold uB
 rw[h.role,h.aI,h.term,h.vote,h.aJ,h.li,h.le]
section
variable{w w0:World}{S:aO}{ow:Ow}{b7 b8 b9:Nat}{s:RS}{a:Act}
theorem M6{co:List Value}{o:D}{v1 v2 u1 u2:Value}(hkp: ∀W S' aT,aC ae ae w S ow W S' aT→Kp w0 W)(hw:Wf w S ow)(l7:dP w S ow b7 67 (uB s v1 v2))(l8:dP w S ow b8 75 co)(hr:bj w S (.agg co.toArray) o)(ht:Has IE o)(h0:cD 0 o= .bool false)(h4:cD 4 o= .eW)(h6:cD 6 o= .list [])(l9:dP w S ow b9 67 (uB s u1 u2))(k:Kn 125 a [(9,aM b9),(8,aM b8),(7,aM b7)]):EZ.wp Try.prog (gL w0) a w:=by
 have hQ:QP (gL w0):=gp
 obtain⟨co2,On,hv,rfl,Gl,MF,n9,D3,fX⟩:=UF hr ht rfl
 have Oa:co=co2:=by injection hv with hv;simpa using congrArg Array.toList hv
 subst Oa
 obtain⟨c0,c1,c2,c3,c4,c5,c6,c7,rfl⟩: ∃c0 c1 c2 c3 c4 c5 c6 c7,co=[c0,c1,c2,c3,c4,c5,c6,c7] :=by
  have uY:co.length=8:=Gl
  match co,uY with
  | [c0,c1,c2,c3,c4,c5,c6,c7],_=>exact⟨c0,c1,c2,c3,c4,c5,c6,c7,rfl⟩
 obtain⟨d0,d1,d2,d3,d4,d5,d6,d7,rfl⟩: ∃c0 c1 c2 c3 c4 c5 c6 c7,On=[c0,c1,c2,c3,c4,c5,c6,c7] :=by
  have Gz:On.length=8:=MF
  match On,Gz with
  | [c0,c1,c2,c3,c4,c5,c6,c7],_=>exact⟨c0,c1,c2,c3,c4,c5,c6,c7,rfl⟩
 have Wm:d0= .bool false:=h0
 have hd4:d4= .eW:=h4
 have hd6:d6= .list [] :=h6
 subst Wm hd4 hd6
 have Oj:c0= .bool false:=(n9 0 _ _ rfl rfl).eH
 have hc4:c4= .pointer none:=(n9 4 _ _ rfl rfl).oU
 obtain⟨A6,q6,hc6⟩:=(n9 6 _ _ rfl rfl).oV
 subst Oj hc4 hc6
 clear n9 D3 fX Gl MF
 unfold EZ
 refine wp_seq (rg ae hQ aiF ?_)
 intro w1 e1
 have fC:=hw.aG e1
 have uI:aC ae ae w S ow w1 S ow:=aC.aG e1 _ _ S ow
 replace l7:=l7.aG e1
 replace l8:=l8.aG e1
 replace l9:=l9.aG e1
 have s0:=SX.refl ae w1
 repeat (first|refine sm k fun a k=> ?_|refine ld k (l8.cell (fun h=>h) (j:=0) (v:= .bool false) rfl) fun a k=> ?_)
 refine tT (c:=false) k (by assumption) rfl (by decide) rfl fun a k=> ?_
 repeat (first|refine sm k fun a k=> ?_|refine ld k (l8.cell (fun h=>h) (j:=6) (v:= .slice A6 0 q6) rfl) fun a k=> ?_)
 refine cm (c:=true) k rfl rfl rfl fun a k=> ?_
 refine pk (c:=true) (v:= .bool true) k rfl rfl fun a k=> ?_
 repeat (first|refine sm k fun a k=> ?_|refine ld k (l8.cell (fun h=>h) (j:=4) (v:= .pointer none) rfl) fun a k=> ?_)
 refine I3 (p:=none) k (by assumption) rfl (by decide) rfl rfl (by kernel_rfl) fun a k=> ?_
 refine pk (c:=true) (v:= .bool true) k rfl rfl fun a k=> ?_
 repeat (first|refine sm k fun a k=> ?_|refine ld k (l9.cell (fun h=>h) (j:=0) (v:= .int .i64 s.role) rfl) fun a k=> ?_|refine ld k (l7.cell (fun h=>h) (j:=0) (v:= .int .i64 s.role) rfl) fun a k=> ?_)
 refine cm (c:=true) k rfl rfl (congrArg some (beq_self_eq_true _)) fun a k=> ?_
 refine pk (c:=true) (v:= .bool true) k rfl rfl fun a k=> ?_
 repeat (first|refine sm k fun a k=> ?_|refine ld k (l9.cell (fun h=>h) (j:=1) (v:= .int .i64 s.aI) rfl) fun a k=> ?_|refine ld k (l7.cell (fun h=>h) (j:=1) (v:= .int .i64 s.aI) rfl) fun a k=> ?_)
 refine cm (c:=true) k rfl rfl (congrArg some (beq_self_eq_true _)) fun a k=> ?_
 refine pk (c:=true) (v:= .bool true) k rfl rfl fun a k=> ?_
 repeat refine sm k fun a k=> ?_
 refine lN (vs:=[.int .i64 s.term, .int .i64 s.vote]) k rfl rfl (fun w' gX j v hv=>by
  match j,hv with
  |0,hv=>exact l7.cell (fun h=>h) (j:=2) hv w' gX
  |1,hv=>exact l7.cell (fun h=>h) (j:=3) hv w' gX) fun a k=> ?_
 repeat refine sm k fun a k=> ?_
 refine lN (vs:=[.int .i64 s.term, .int .i64 s.vote]) k rfl rfl (fun w' gX j v hv=>by
  match j,hv with
  |0,hv=>exact l9.cell (fun h=>h) (j:=2) hv w' gX
  |1,hv=>exact l9.cell (fun h=>h) (j:=3) hv w' gX) fun a k=> ?_
 refine MV k (by assumption) rfl (by decide) rfl rfl fun a k=> ?_
 rw[beq_self_eq_true,beq_self_eq_true,Bool.and_self]at k
 refine pk (c:=true) (v:= .bool true) k rfl rfl fun a k=> ?_
 repeat (first|refine sm k fun a k=> ?_|refine ld k (l9.cell (fun h=>h) (j:=4) (v:= .int .i64 s.aJ) rfl) fun a k=> ?_|refine ld k (l7.cell (fun h=>h) (j:=4) (v:= .int .i64 s.aJ) rfl) fun a k=> ?_)
 refine cm (c:=true) k rfl rfl (congrArg some (beq_self_eq_true _)) fun a k=> ?_
 refine pk (c:=true) (v:= .bool true) k rfl rfl fun a k=> ?_
 repeat (first|refine sm k fun a k=> ?_|refine ld k (l9.cell (fun h=>h) (j:=5) (v:= .int .i64 (s.li+s.le.length)) rfl) fun a k=> ?_|refine ld k (l7.cell (fun h=>h) (j:=5) (v:= .int .i64 (s.li+s.le.length)) rfl) fun a k=> ?_)
 refine cm (c:=true) k rfl rfl (congrArg some (beq_self_eq_true _)) fun a k=> ?_
 refine pk (c:=true) (v:= .bool true) k rfl rfl fun a k=> ?_
 repeat (first|refine sm k fun a k=> ?_|refine ld k (l9.cell (fun h=>h) (j:=6) (v:= .int .i64 s.li) rfl) fun a k=> ?_|refine ld k (l7.cell (fun h=>h) (j:=6) (v:= .int .i64 s.li) rfl) fun a k=> ?_)
 refine cm (c:=true) k rfl rfl (congrArg some (beq_self_eq_true _)) fun a k=> ?_
 refine pk (c:=true) (v:= .bool true) k rfl rfl fun a k=> ?_
 refine sm k fun a k=> ?_
 refine gU (vs:=[]) k (by decide) rfl (by decide) LM rfl (ym fC.bare) ?_
 rintro e w3 ⟨S3,qp,rfl,eY⟩
 have s3:SX ae w1 w3:=⟨eY.size,fun b hb _=>eY.free b hb rfl (fun h=>h)⟩
 refine⟨_,rfl,fun _=>s3,fun a k=> ?_⟩
 refine pk (c:=true) (v:= .bool true) k rfl rfl fun a k=> ?_
 refine sm k fun a k=> ?_
 refine ar (wp_ret ?_)
 show gL w0 .ret a w3
 refine(oQ (fn:=Try.f7) agz k rfl ⟨rfl,?_⟩).1
 exact(hkp w1 S ow uI).trans (Kp.of eY)
end
end Go.Proofs.Ytjhmkaninmgilaa
namespace Go.Proofs.Ytjhmkaninmgilaa
open Go Go.RowKit Go.bZ Go.Proofs
theorem abc{t:Ty}{d:D}(h:Has t d)(hs:t.scalar=true):1≤d.wt:=by
 cases t with
 |int k=>obtain⟨n,rfl,_⟩:=bF.1 h;simp[D.wt]
 |bool=>obtain⟨n,rfl⟩:=bA.1 h;simp[D.wt]
 |str=>obtain⟨n,rfl⟩:=kP.1 h;simp[D.wt]
 |list t=>obtain⟨l,rfl,_⟩:=aD.1 h;simp[D.wt]
 |box t=>obtain⟨l,rfl,_⟩:=fA.1 h;simp[D.wt]
 |ptr t=>rcases jV.1 h with rfl|⟨l,rfl,_⟩<;>simp[D.wt]
 |fn f t=>obtain⟨l,rfl,_⟩:=jl.1 h;simp[D.wt]
 |agg t=>cases hs
 |cW t=>cases hs
 |nil=>cases hs
 |cons h t=>cases hs
theorem EL: ∀{l:List D},(∀d∈l,1≤d.wt)→l.length≤mg l
 | [],_=>Nat.zero_le _
 |d::r,h=>by
  have h1:=h d List.mem_cons_self
  have h2:=EL (l:=r) (fun x hx=>h x (List.mem_cons_of_mem _ hx))
  simp only[mg,List.length_cons];omega
theorem Li{c:Nat}: ∀{l:List D},(∀d∈l,c≤d.wt)→c*l.length≤mg l
 | [],_=>Nat.zero_le _
 |d::r,h=>by
  have h1:=h d List.mem_cons_self
  have h2:=Li (l:=r) (fun x hx=>h x (List.mem_cons_of_mem _ hx))
  simp only[mg,List.length_cons,Nat.mul_succ];omega
theorem Lj: ∀{l:List D} {d:D},d∈l→d.wt≤mg l
 |x::r,d,h=>by
  simp only[mg]
  rcases List.mem_cons.1 h with rfl|h
  ·omega
  ·have:=Lj h;omega
theorem Lk: ∀{l:List D} {j:Nat} {x:D},(∀d∈l,1≤d.wt)→l[j]? =some x→x.wt+l.length≤mg l+1
 | [],j,x,_,hx=>by simp at hx
 |d::r,0,x,h,hx=>by
  injection hx with hx
  subst hx
  have h2:=EL (l:=r) (fun x hx=>h x (List.mem_cons_of_mem _ hx))
  simp only[mg,List.length_cons];omega
 |d::r,j+1,x,h,hx=>by
  have h1:=h d List.mem_cons_self
  have h2:=Lk (l:=r) (j:=j) (fun x hx=>h x (List.mem_cons_of_mem _ hx)) hx
  simp only[mg,List.length_cons];omega
theorem GW{ts:List Ty}{l:List D}(h:bV (.bQ ts) l)(hs:ts.all Ty.scalar=true): ∀d∈l,1≤d.wt:=by
 intro d hd
 obtain⟨j,hj⟩:=List.getElem?_of_mem hd
 have hl:l.length=ts.length:=by rw[dZ h,Ty.cC]
 have jh:=(ai.1 hj).1
 obtain⟨x,hx,hh⟩:=bX h j _ (by rw[Ty.cC];exact av (show j<ts.length by omega))
 rw[hj]at hx
 injection hx with hx
 subst hx
 exact abc hh (aV.1 hs _ (List.getElem_mem _))
theorem Rl{m:D}(h:Has hY m):46+29*(cD 12 m).ak.length≤m.wt:=by
 obtain⟨l,rfl,hl⟩:=cu.1 h
 have om:l.length=46:=by rw[dZ hl,Ty.cC];rfl
 obtain⟨x,hx,hh⟩:=bX hl 12 (.list cX) (by rw[Ty.cC];rfl)
 obtain⟨es,rfl,_,pe⟩:=aD.1 hh
 have hc:(cD 12 (D.agg l)).ak=es:=by
  show(l.getD 12 .top).ak=es
  rw[List.getD_eq_getElem?_getD,hx];rfl
 have h1:=Lk (GW hl rfl) hx
 have h29:=Li (c:=29) (l:=es) (fun d hd=>by
  obtain⟨q,rfl,hq⟩:=cu.1 (pe d hd)
  have h2:=EL (GW hq rfl)
  have h3:q.length=29:=by rw[dZ hq,Ty.cC];rfl
  simp only[D.wt];omega)
 rw[hc]
 simp only[D.wt]at h1⊢
 omega
theorem Dx{d:D}(h:Has tv d):46+29*(cD 12 (yP d)).ak.length≤d.wt:=by
 obtain⟨⟨l,rfl,om⟩,_,_,_,_,hm⟩:=Bx h
 refine Nat.le_trans (Rl hm) ?_
 show mg ((l.drop 3).take 46)≤mg l
 have h1:mg (l.take 3)+mg (l.drop 3)=mg l:=by rw[←pE,List.take_append_drop]
 have h2:mg ((l.drop 3).take 46)+mg ((l.drop 3).drop 46)=mg (l.drop 3):=by rw[←pE,List.take_append_drop]
 omega
theorem LQ: ∀{ls:List D},(∀d∈ls,Has tv d)→cost ls≤mg ls
 | [],_=>Nat.zero_le _
 |d::r,h=>by
  have h1:=Dx (h d List.mem_cons_self)
  have h2:=LQ (ls:=r) (fun x hx=>h x (List.mem_cons_of_mem _ hx))
  simp only[cost,mg,vd];omega
theorem Sx{d:D}{ls:List D}(h:Has tv d)(hd:d∈ls)(hw:mg ls≤1048576):vd d≤65536:=by
 have h1:=Dx h
 have h2:=Lj hd
 unfold vd;omega
theorem abY:bB (G 4194304) (pg 3 0) 4194304:=by
 refine⟨by decide,by decide,by decide,?_,?_,?_,?_,?_,by decide,fun h=>absurd h (by decide),by decide,by decide,by decide,rfl⟩
 ·show 0+4194304≤4194304;decide
 ·show 0+4194304≤4294967296;decide
 ·show 0+4194304≤4294967296;decide
 ·show 0+G 4194304≤G 4194304;omega
 ·show 0+4194304≤4294967296;decide
theorem R6:Idle (pg 3 0):=⟨rfl,rfl,rfl,rfl,rfl⟩
theorem RQ{a b:Int}(h:kr .i64 a)(hb:0<b):0≤mH a b:=by
 obtain⟨h1,h2⟩:=h
 have e1:IntKind.i64.min= -9223372036854775808:=rfl
 have e2:IntKind.i64.max=9223372036854775807:=rfl
 unfold mH
 split
 ·rw[wrap64 (n:=a+1) (by omega) (by omega),wrap64 (by omega) (by omega)]
  exact Int.tmod_nonneg b (by omega)
 ·exact Int.tmod_nonneg b (by omega)
theorem JR{ls:List D}{m:D}(hls: ∀d∈ls,Has tv d)(hm:Has hY m)(hw:mg [.list ls,m] ≤1048576):Room ls (pg 3 0)∧Ok (ph ls (pg 3 0)) 0∧Idle (ph ls (pg 3 0))∧
  ∀m',(cD 12 m').ak.length=(cD 12 m).ak.length→Ok (ph ls (pg 3 0)) (20+(cD 12 m').ak.length)∧(cD 12 m').ak.length≤2147483648∧Ok (eD m' (ph ls (pg 3 0))).2 0:=by
 simp only[mg,D.wt]at hw
 have hc:=LQ hls
 have hmw:=Rl hm
 obtain⟨h1,h2,h3⟩:=Lr ls (pg 3 0) 4194304 abY R6 (by omega) (fun d hd=>Sx (hls d hd) hd (by omega))
 refine⟨h1,rb h2 h3 (by omega) (by omega),h3,fun m' OG=>⟨rb h2 h3 (by omega) (by omega),by omega,?_⟩⟩
 have h4:bB (G 4194304) (eD m' (ph ls (pg 3 0))).2 0:=bB.step (h2.le (by omega))
 exact rb h4 (Dq _ _) (by omega) (by omega)
attribute [local irreducible] TL
theorem Kp.run{L:Nat→Prop}{w w':World}{S S':aO}{aT:Ow}(hw:Wf w S (fun _=>none))(gX:Wf w' S' aT)(h:aC L ae w S (fun _=>none) w' S' aT): ∀W Mj wU,aC ae ae w' S' aT W Mj wU→Kp w W:=
 fun _ _ _ k=>Kp.of (h.aF hw gX k (fun _ h=>h.elim))
theorem JV{w:World}{S:aO}{ls:List D}{mv:List Value}{m:D}{A:Option Addr}{cap:Nat}{a:Act}(hw:Wf w S (fun _=>none))(hr:bj w S (.slice A ls.length cap) (.list ls))(hh:Has (.list tv) (.list ls))(Tv:bj w S (.agg mv.toArray) m)(hm:Has hY m)(H5:mg [.list ls,m] ≤1048576)(k:Kn 125 a [(0, .slice A ls.length cap),(1, .agg mv.toArray)]):(fy Try.f7).wp Try.prog (gL w) a w:=by
 have hQ:QP (gL w):=gp
 obtain⟨nj,qD,Qr,ahA⟩:=JR (lY hh) hm H5
 have awq:=ahA m rfl
 rw[QE]
 show(EU (xE (EV (A8 (AL EZ))))).wp Try.prog (gL w) a w
 obtain⟨ds,rfl,oa⟩:=cu.1 hm
 have Uz:bV (.bQ O5) ds:=oa
 have qo:ds.length=46:=by rw[dZ Uz,Ty.cC];rfl
 obtain⟨x0,r0,rfl,p0,h1⟩:=aa.1 Uz
 obtain⟨x1,r1,rfl,p1,h2⟩:=aa.1 h1
 obtain⟨x2,r2,rfl,p2,h3⟩:=aa.1 h2
 obtain⟨x3,r3,rfl,⟨t,rfl,ht⟩,h4⟩:=aa.1 h3
 obtain⟨cs,gS,gz,Td⟩:=Tv.vq
 have OF:mv=cs:=by injection gS with gS;simpa using congrArg Array.toList gS
 subst OF
 obtain⟨v0,v1,v2,v3,vr,rfl⟩: ∃v0 v1 v2 v3 vr,mv=v0::v1::v2::v3::vr:=by
  have hl:mv.length=46:=by rw[gz];exact qo
  match mv,hl with
  |v0::v1::v2::v3::vr,_=>exact⟨v0,v1,v2,v3,vr,rfl⟩
 have H7:(v0::v1::v2::v3::vr).length=46:=by rw[gz];exact qo
 have hv3:v3= .int .i64 t:=(Td 3 _ _ rfl rfl).bD
 subst hv3
 refine M4 hQ hw (k.sub ⟨rfl,rfl,trivial⟩) ?_
 intro a1 W1 S1 dA b b3 k1 gC fC uK BU Uv
 refine JS hQ uK fC (hr.aB gC) hh nj k1 ?_
 intro a2 W2 S2 te k2 en eK nN
 have sw:=gC.dJ hw fC en rfl
 refine M5 hQ nN eK qD (BU.aB en (fun h=>h)) H7 rfl ht k2 ?_
 rintro a3 W3 qp b7 A1 n1 c1 A2 n2 c2 k3 gw qj sy mi rfl eY
 have tD:=sw.aF hw eK eY (fun bb hb=>by rw[show bb=b3 from hb];exact Uv)
 have Oy:=RQ (b:=(ph ls (pg 3 0)).term+1) ht (by have:=qD.tm;omega)
 generalize hu:mH t ((ph ls (pg 3 0)).term+1)=u at mi Oy
 refine JU (Kp.run hw gw tD) gw mi rfl sy k3 ?_
 intro a4 W4 aL k4 jr
 have H6:MX=1099511627776:=rfl
 have htx:=qD.tx
 have hui:kr .i64 u:=⟨by have:IntKind.i64.min= -9223372036854775808:=rfl;omega,by have:IntKind.i64.max=9223372036854775807:=rfl;omega⟩
 have m7:Wf W4 S2 qp:=⟨fun b o hs=>Nat.lt_of_lt_of_le (gw.s b o hs) jr.size,fun b l hl=>Nat.lt_of_lt_of_le (gw.o b l hl) jr.size,gw.d⟩
 have wL:=tD.aF hw gw jr (fun _ h=>h.elim)
 have D5:=qj.aB gw m7 jr (fun h=>h) rfl
 have uD:=mi.aB jr (fun h=>h)
 have od:=sy.aB jr (fun h=>h)
 have hm4:Has hY (.agg (x0::x1:: .int .i64 1:: .int .i64 u::r3)):=cu.2 ⟨_,rfl,aa.2 ⟨_,_,rfl,p0,aa.2 ⟨_,_,rfl,p1,aa.2 ⟨_,_,rfl,⟨1,rfl,by decide⟩,aa.2 ⟨_,_,rfl,⟨u,rfl,hui⟩,h4⟩⟩⟩⟩⟩
 have Ma: ∀v d,bj w S v d→bj W4 S2 v d:=fun v d h=>h.aB wL
 have aqy:bj W4 S2 (.agg (v0::v1:: .int .i64 1:: .int .i64 u::vr).toArray) (.agg (x0::x1:: .int .i64 1:: .int .i64 u::r3)):=by
  refine .agg _ _ (by simpa using gz) (fun q v y hv hy=> ?_)
  match q,hv,hy with
  |0,hv,hy=>exact Ma _ _ (Td 0 _ _ hv hy)
  |1,hv,hy=>exact Ma _ _ (Td 1 _ _ hv hy)
  |2,hv,hy=>injection hv with hv;injection hy with hy;subst hv hy;exact .int _ _
  |3,hv,hy=>injection hv with hv;injection hy with hy;subst hv hy;exact .int _ _
  |q+4,hv,hy=>exact Ma _ _ (Td (q+4) _ _ hv hy)
 obtain⟨o1,o2,o3⟩:=ahA (.agg (x0::x1:: .int .i64 1:: .int .i64 u::r3)) rfl
 refine JT hQ D5 m7 uD H7 aqy hm4 o1 o2 o3 od k4 ?_
 intro a5 W5 S5 ow5 b8 b9 co A3 n3 c3 A4 n4 c4 k5 xN jq rG l8 awv Wc ht5 l9
 have su:=wL.dJ hw m7 jq rfl
 obtain⟨al,q0,q4,q6⟩:=JQ (x:= .agg (x0::x1:: .int .i64 1:: .int .i64 u::r3)) (s:=ph ls (pg 3 0)) aL
 rw[M7 al]at l9
 exact M6 (Kp.run hw xN su) xN rG l8 Wc ht5 (by rw[q0,Qr.save]) (by rw[q4,Qr.snap]) (by rw[q6,Qr.com]) l9 k5
def vC:bS:=⟨[.list tv,hY],[(false,[(.bool,none)])],none⟩
theorem c7:ax Try.prog 7 vC (fun xs=>mg xs≤1048576) (fun _=> .bool true) where
 enter:=acT
 calls _ w S vs ds yW hlen fa fV gE:=by
  obtain⟨d0,r0,rfl,h0,h1⟩:=aa.1 fV
  obtain⟨m,r1,rfl,hm,h2⟩:=aa.1 h1
  have h2':r1=[] :=h2
  subst h2'
  obtain⟨v0,v1,rfl⟩: ∃v0 v1,vs=[v0,v1] :=by
   have hl:vs.length=2:=hlen
   match vs,hl with
   | [v0,v1],_=>exact⟨v0,v1,rfl⟩
  have SW:=fa 0 _ _ rfl rfl
  have yJ:=fa 1 _ _ rfl rfl
  obtain⟨ls,rfl,_,_⟩:=aD.1 h0
  obtain⟨A,cap,rfl⟩:=SW.oV
  have OG:=hm
  obtain⟨ds,rfl,_⟩:=cu.1 OG
  obtain⟨mv,rfl,_,_⟩:=yJ.vq
  have hw:Wf w S (fun _=>none):=⟨yW,fun _ _ h=>(by cases h),fun _ _ _ _ h=>(by cases h)⟩
  refine(jZ (R:=fun e w'=>e= .returned (.bool true)∧Kp w w') (vs:=[.slice A ls.length cap, .agg mv.toArray]) Try.func7 WA QE nt7 (by show 2≤125;omega) ?_).mono ?_
  ·intro a k
   have:=JV hw SW h0 yJ hm gE (k.sub ⟨rfl,rfl,trivial⟩)
   rw[QE]at this
   exact this
  ·rintro e w' ⟨rfl,kp⟩
   refine⟨.bool true,S,fun _=> .nilIface,rfl,{size:=kp.size,os:=kp.os,tape:=kp.tape,output:=kp.output,block:=kp.zg},fun _ _ h=>h,fun b o h=>Nat.lt_of_lt_of_le (yW b o h) kp.size,fun _ _ h=> .inl h, .inl ⟨_,rfl,?_⟩,fun j b hj=>by simp[vC,bk]at hj,fun j k b hj=>by simp[vC,bk]at hj,fun j hj=>by simp[vC,bk]at hj⟩
   unfold ep
   simp only[Bool.false_eq_true,if_false]
   exact⟨_,rfl, .bool true,bA.2 ⟨true,rfl⟩⟩
 Ao ob h:=by cases h
 I9 ob h:=by cases h
end Go.Proofs.Ytjhmkaninmgilaa
