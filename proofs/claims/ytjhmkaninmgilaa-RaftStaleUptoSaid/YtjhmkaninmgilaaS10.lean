/- Part 10 of the proof of RaftStale; no condition. -/
import Derived.Test.YtjhmkaninmgilaaS09
set_option linter.unusedVariables false
set_option linter.unusedSimpArgs false
set_option maxHeartbeats 4000000
namespace Go.Proofs.Ytjhmkaninmgilaa
open Go Go.RowKit Go.bZ Go.Proofs
attribute [local irreducible] TL
theorem UF{w:World}{S:aO}{v:Value}{d:D}{ts:List Ty}(h:bj w S v d)(hd:Has (.agg (.bQ ts)) d)(hs:ts.all Ty.scalar=true): ∃(cs:List Value) (ds:List D),v= .agg cs.toArray∧d= .agg ds∧cs.length=ts.length∧ds.length=ts.length∧(∀(j:Nat) u c,cs[j]? =some u→ds[j]? =some c→bj w S u c)∧bV (.bQ ts) ds∧ ∀u∈cs,u.oneCell'=true:=by
 obtain⟨ds,rfl,hl⟩:=cu.1 hd
 obtain⟨cs,rfl,gz,hr⟩:=h.vq
 have qo:ds.length=ts.length:=by rw[dZ hl,Ty.cC]
 refine⟨cs,ds,rfl,rfl,by omega,qo,hr,hl,?_⟩
 intro u hu
 obtain⟨j,hj⟩:=List.getElem?_of_mem hu
 have jh:j<cs.length:=(ai.1 hj).1
 obtain⟨x,hx,hh⟩:=bX hl j (ts[j]'(by omega)) (by rw[Ty.cC];exact av _)
 exact(hr j u x hj hx).gq hh (aV.1 hs _ (List.getElem_mem _))
theorem vn{w:World}{S:aO}{v:Value}{d:D}{t:Ty}(h:bj w S v d)(hd:Has (.list t) d):d= .list d.ak∧ ∃A cap,v= .slice A d.ak.length cap:=by
 obtain⟨l,rfl,_⟩:=aD.1 hd
 exact⟨rfl,h.oV⟩
theorem lY{t:Ty}{l:List D}(h:Has (.list t) (.list l)): ∀x∈l,Has t x:=by
 obtain⟨l',h1,_,h2⟩:=aD.1 h
 injection h1 with h1;subst h1;exact h2
section
variable{w0 w:World}{S0 S:aO}{kK ow:Ow}{b b5 b6 i:Nat}{g:GS}{R:GR}{o:D}{Q:Exit→Act→World→Prop}{a:Act}{m:List (Nat×Value)}
noncomputable def GX:Code:=(.seq (.seq (.region 14 Jg false) (.block 2 (.loop (.seq (.seq (.region 15 Jf false) (.cond (.tmp 83) .skip (.exit 2))) (.seq (.block 3 (.seq (.region 17 Je true) (.cond (.tmp 97) (.region 18 Jd false) .skip))) (.region 16 Er false)))))) (.seq (.region 19 Aq false) (.region 20 Ap false)))
theorem Nd{A3 A7:Option Addr}{c3 c7:Nat}{oe es:List D}{vo xs:List Value}(hQ:QP Q)(gi:Wf w0 S0 kK)(st:aC TT ae w0 S0 kK w S ow)(hn:Cb ow)(gm:GM w S ow b (R.cells g.bad) R g)
  (lo:dP w S ow b5 75 vo) (lx:dP w S ow b6 65 xs) (h6:w0.heap.size≤b6) (dH:b5≠b6)
  (hve:vo[3]? =some (.slice A3 oe.length c3)) (hre:bj w S (.slice A3 oe.length c3) (.list oe)) (hhe:Has (.list cX) (.list oe)) (SQ:xs[7]? =some (.slice A7 es.length c7)) (mZ:xs.length=8) (Y6:bj w S (.slice A7 es.length c7) (.list es)) (Ik:Has (.list cX) (.list es)) (fo:es.length+oe.length≤300000000000) (ev:oe≠ [])
  (k:Kn 119 a [(9, .slice none 0 0),(5, .pointer (some ⟨b5,0,none⟩)),(6, .pointer (some ⟨b6,0,none⟩)),(0,aM b),(1, .int .i64 i)])
  (fO: ∀a W S' aT v7,Kn 119 a [(6, .pointer (some ⟨b6,0,none⟩)),(0,aM b),(1, .int .i64 i)] →aC TT ae w0 S0 kK W S' aT→(∀u d,bj w S u d→bj W S' u d)→GM W S' aT b (R.cells g.bad) R g→dP W S' aT b6 65 (xs.set 7 v7)→Cb aT→v7.oneCell'=true→
   bj W S' v7 (.list (p6 es (cD 0 (oe.getD 0 .top)).ab++oe))→Has (.list cX) (.list (p6 es (cD 0 (oe.getD 0 .top)).ab++oe))→Q .normal a W):GX.wp Try.prog Q a w:=by
 obtain⟨e0,Oh⟩: ∃e0,oe[0]? =some e0:=by
  cases oe with
  |nil=>exact absurd rfl ev
  |cons x r=>exact⟨x,rfl⟩
 have Zh:oe.getD 0 .top=e0:=by rw[List.getD_eq_getElem?_getD,Oh,Option.getD_some]
 have Wi:=lY hhe e0 (aS Oh)
 generalize hf:(cD 0 (oe.getD 0 .top)).ab=f at fO
 unfold GX
 refine wp_seq (wp_seq (rg ae hQ abu ?_))
 intro w1 e1
 have s0:=SX.refl ae w1
 repeat refine sm k fun a k=> ?_
 refine ar ?_
 have dB:=gm.aG e1
 have B9:=aC.aG e1 ae ae S ow
 refine wp_block (wp_loop_ghost (fun mm a W=> ∃(j:Nat) (vk:Value) (dA:Ow),mm=es.length-j∧j≤es.length∧Kn 119 a [(9,vk),(10, .int .i64 j),(5, .pointer (some ⟨b5,0,none⟩)),(6, .pointer (some ⟨b6,0,none⟩)),(0,aM b),(1, .int .i64 i)] ∧
  aC (bJ 60) ae w S ow W S dA∧GM W S dA b (R.cells g.bad) R g∧bU W S dA 60 78 cX vk (p6 (es.take j) f)) (es.length-0)
  ⟨0, .slice none 0 0,ow,rfl,Nat.zero_le _,k.sub ⟨rfl,rfl,rfl,rfl,rfl,rfl,trivial⟩,aC.aG e1 _ _ _ _,dB,by rw[List.take_zero];exact bU.nil (by rw[j3];decide) (by decide)⟩ ?_)
 clear dB B9 k s0 e1 w1
 rintro mm a W ⟨j,vk,dA,rfl,hj,k,gC,dB,bM⟩
 have BU:=lo.aB gC (fun h=>h)
 have yH:=lx.aB gC (fun h=>h)
 refine wp_seq (wp_seq (rg ae hQ abt ?_))
 intro w2 e2
 have gA:=dB.aG e2
 have n7:=BU.aG e2
 have BT:=yH.aG e2
 have en:=gC.N3 gm.wf dB.wf (aC.aG e2 (bJ 60) ae S dA) (fun _ h=>h.elim)
 have uJ:=bM.aB dB.wf (aC.aG e2 ae ae S dA) (fun h=>h)
 have s0:=SX.refl ae w2
 repeat (first|refine sm k fun a k=> ?_|refine ld k (BT.cell (fun h=>h) SQ) fun a k=> ?_)
 refine cm (c:=decide ((j:Int)<(es.length:Int))) k rfl rfl rfl fun a k=> ?_
 refine ar (aR k rfl ?_)
 by_cases aL:(j:Int)<(es.length:Int)
 ·rw[if_pos (by simpa using aL)]
  refine wp_skip ?_
  have jh:j<es.length:=by omega
  obtain⟨e,he⟩: ∃e,es[j]? =some e:=⟨_,av jh⟩
  have aaT:=lY Ik e (aS he)
  have k:=k.sub (l:=[(9,vk),(10, .int .i64 j),(5, .pointer (some ⟨b5,0,none⟩)),(6, .pointer (some ⟨b6,0,none⟩)),(0,aM b),(1, .int .i64 i)]) ⟨rfl,rfl,rfl,rfl,rfl,rfl,trivial⟩
  have next: ∀(a:Act) (W':World) (vk':Value) (te:Ow),Kn 119 a [(9,vk'),(10, .int .i64 j),(5, .pointer (some ⟨b5,0,none⟩)),(6, .pointer (some ⟨b6,0,none⟩)),(0,aM b),(1, .int .i64 i)] →aC (bJ 60) ae w S ow W' S te→GM W' S te b (R.cells g.bad) R g→bU W' S te 60 78 cX vk' (p6 (es.take (j+1)) f)→
    (Code.region 16 Er false).wp Try.prog (Exit.then (fun a' w'=> ∃n',n'<es.length-j∧ ∃(j:Nat) (vk:Value) (dA:Ow),n'=es.length-j∧j≤es.length∧Kn 119 a' [(9,vk),(10, .int .i64 j),(5, .pointer (some ⟨b5,0,none⟩)),(6, .pointer (some ⟨b6,0,none⟩)),(0,aM b),(1, .int .i64 i)] ∧
     aC (bJ 60) ae w S ow w' S dA∧GM w' S dA b (R.cells g.bad) R g∧bU w' S dA 60 78 cX vk (p6 (es.take j) f)) (Exit.inBlock 2 (Exit.then (Code.wp Try.prog ((Code.region 19 Aq false).seq (.region 20 Ap false)) Q) Q))) a W':=by
   intro a W' vk' te k eY ft My
   refine rg ae hQ abr ?_
   intro w4 e4
   have s0:=SX.refl ae w4
   repeat refine sm k fun a k=> ?_
   refine lH (s:=((j+1:Nat):Int)) k (by assumption) rfl (by decide) rfl rfl (wrap64 (by omega) (by omega)) fun a k=> ?_
   repeat refine sm k fun a k=> ?_
   refine ar ⟨es.length-(j+1),by omega,j+1,vk',te,rfl,by omega,k.sub ⟨rfl,rfl,rfl,rfl,rfl,rfl,trivial⟩,eY.N3 gm.wf ft.wf (aC.aG e4 (bJ 60) ae S te) (fun _ h=>h.elim),ft.aG e4,My.aB ft.wf (aC.aG e4 ae ae S te) (fun h=>h)⟩
  refine wp_seq (wp_block (wp_seq (jJ (n0:=12) ae mix (fun c a d v w h=>hQ c a d v w h) abq (fun _=>by kernel_rfl) ?_)))
  intro w3 e3
  have ft:=gA.aG e3
  have mi:=n7.aG e3
  have sy:=BT.aG e3
  have eY:=en.N3 gm.wf gA.wf (aC.aG e3 (bJ 60) ae S dA) (fun _ h=>h.elim)
  have My:=uJ.aB gA.wf (aC.aG e3 ae ae S dA) (fun h=>h)
  have s0:=SX.refl ae w3
  obtain⟨bx,ox,cx,ux,ahk,hSx,L8,hcx,ahw,hix,aa0⟩:=EP (Y6.aB eY) he aaT
  obtain⟨bo,oo,co,uo,aqo,hSo,huo,hco,awk,hio,arb⟩:=EP (hre.aB eY) Oh Wi
  have hbx:=ft.wf.s _ _ hSx
  have hbo:=ft.wf.s _ _ hSo
  repeat (first|refine sm k fun a k=> ?_|refine ld k (sy.cell (fun h=>h) SQ) fun a k=> ?_)
  rw[ahk]at k
  refine oG (el:=78) (sz:=29) k (by assumption) rfl (by decide) rfl rfl (by kernel_rfl) (by kernel_rfl) (by omega) (by omega) fun a k=> ?_
  rw[Int.toNat_natCast]at k
  repeat refine sm k fun a k=> ?_
  refine ti (v:= .int .i64 (cD 0 e).ab) k (by assumption) rfl (by decide) rfl (by kernel_rfl) (by kernel_rfl) (ez hbx (fun h=>h) aa0) fun a k=> ?_
  repeat (first|refine sm k fun a k=> ?_|refine ld k (mi.cell (fun h=>h) hve) fun a k=> ?_)
  rw[aqo]at k
  refine oG (el:=78) (sz:=29) k (by assumption) rfl (by decide) rfl rfl (by kernel_rfl) (by kernel_rfl) (by omega) (by have:=(ai.1 Oh).1;omega) fun a k=> ?_
  repeat refine sm k fun a k=> ?_
  refine ti (v:= .int .i64 (cD 0 e0).ab) k (by assumption) rfl (by decide) rfl (by kernel_rfl) (by kernel_rfl) (ez hbo (fun h=>h) arb) fun a k=> ?_
  refine cm (c:=decide ((cD 0 e).ab<(cD 0 e0).ab)) k rfl rfl rfl fun a k=> ?_
  refine ar (aR k rfl ?_)
  have iQ:f=(cD 0 e0).ab:=by rw[←hf,Zh]
  have FZ:=Kk (f:=f) he
  by_cases hc:(cD 0 e).ab<(cD 0 e0).ab
  ·rw[if_pos (by simpa using hc)]
   rw[if_pos (by rw[iQ];exact hc)]at FZ
   refine rg (fun bb=>dA bb=some 60) hQ abp ?_
   intro w4 e4
   have j8:=ft.aG e4
   have od:=sy.aG e4
   have jr:=eY.N3 gm.wf ft.wf (aC.aG e4 (bJ 60) ae S dA) (fun _ h=>h.elim)
   have aqE:=My.aB ft.wf (aC.aG e4 ae ae S dA) (fun h=>h)
   have s0:=SX.refl (fun bb=>dA bb=some 60) w4
   have SN: ¬dA b6=some 60:=by rw[od.ow];intro e;cases e
   have hxx: ¬dA bx=some 60:=j8.wf.nx hSx (by decide)
   have k:=k.sub (l:=[(9,vk),(10, .int .i64 j),(5, .pointer (some ⟨b5,0,none⟩)),(6, .pointer (some ⟨b6,0,none⟩)),(0,aM b),(1, .int .i64 i)]) ⟨rfl,rfl,rfl,rfl,rfl,rfl,trivial⟩
   repeat (first|refine sm k fun a k=> ?_|refine ld k (od.cell SN SQ) fun a k=> ?_)
   rw[ahk]at k
   refine oG (el:=78) (sz:=29) k (by assumption) rfl (by decide) rfl rfl (by kernel_rfl) (by kernel_rfl) (by omega) (by omega) fun a k=> ?_
   rw[Int.toNat_natCast]at k
   refine lN (vs:=ux) k rfl L8 (fun w' gX q v hv=>ez (by rw[e4.heap];exact hbx) hxx ((e4.cell _).trans (hcx q v hv)) w' gX) fun a k=> ?_
   have Qk: ∀u∈ux,u.oneCell'=true:=by
    intro u hu
    obtain⟨q,hq⟩:=List.getElem?_of_mem hu
    have DO:q<ux.length:=(ai.1 hq).1
    obtain⟨gz,gS⟩:=bp aaT
    have OB:q<cX.cells.length:=by rw[j3];omega
    obtain⟨c,qf,wH⟩:=gS q (cX.cells[q]'OB) (av OB)
    exact(ahw q u c hq qf).gq wH (aV.1 (show cX.cells.all Ty.scalar=true from rfl) _ (List.getElem_mem OB))
   refine nt (kk:=29) (T:=78) k (by decide) rfl (by decide) rfl (by kernel_rfl) (by show ux.toArray.size=29;rw[List.size_toArray];exact L8) (fun _=>SX.alloc _ _ _) fun a k=> ?_
   obtain⟨tf,n8⟩:=aC.alloc j8.wf (.cells (Value.agg ux.toArray).cells 78)
   have aqD:=aqE.aB j8.wf tf (fun h=>h)
   have j7:=j8.aB tf n8
   refine uG k (by decide) rfl (by decide) fun ty pos af=> ?_
   obtain⟨v',w',cM,aT,kq,qd,ho6⟩:=aqD.MP (P:=Try.prog) (tt:=28) (by kernel_rfl) rfl n8 ty w4.heap.size (d:=e) aaT (us:=ux) (by rw[j3];exact L8) (heap_alloc_new w4 _) (fun q u c h1 h2=>((ahw q u c h1 h2).aB (aC.aG e4 ae ae S dA)).aB tf) (xz (by have:=He (es:=es.take j) (f:=f);rw[List.length_take]at this;omega))
   have s1:SX (fun bb=>dA bb=some 60) w4 w':=(SX.alloc _ _ _).trans (SX.fU (fun _ h=>h) kq)
   refine⟨v',w',iX (k.op rfl) (k.op rfl) cM,fun _=>s1,fun a k=> ?_⟩
   repeat refine sm k fun a k=> ?_
   refine ar ?_
   refine next a w' v' aT (k.sub ⟨rfl,rfl,rfl,rfl,rfl,rfl,trivial⟩) (jr.N3 gm.wf j8.wf (aC.trN j8.wf n8 tf kq (fun _ h=>h.elim)) (fun _ h=>h.elim)) (j7.loc kq qd ⟨by decide,by decide⟩) ?_
   rw[FZ];exact ho6
  ·rw[if_neg (by simpa using hc)]
   rw[if_neg (by rw[iQ];exact hc)]at FZ
   refine wp_skip (next a w3 vk dA (k.sub ⟨rfl,rfl,rfl,rfl,rfl,rfl,trivial⟩) eY ft ?_)
   rw[FZ];exact My
 ·rw[if_neg (by simpa using aL)]
  refine wp_exit ?_
  have DR:j=es.length:=by omega
  subst DR
  rw[List.take_length]at uJ
  show(Code.seq (.region 19 Aq false) (.region 20 Ap false)).wp Try.prog Q a w2
  refine wp_seq (rg (fun bb=>dA bb=some 60) hQ abo ?_)
  intro w3 e3
  have ft:=gA.aG e3
  have mi:=n7.aG e3
  have sy:=BT.aG e3
  have eY:=en.N3 gm.wf gA.wf (aC.aG e3 (bJ 60) ae S dA) (fun _ h=>h.elim)
  have My:=uJ.aB gA.wf (aC.aG e3 ae ae S dA) (fun h=>h)
  have s0:=SX.refl (fun bb=>dA bb=some 60) w3
  have SO: ¬dA b5=some 60:=by rw[mi.ow];intro e;cases e
  repeat (first|refine sm k fun a k=> ?_|refine ld k (mi.cell SO hve) fun a k=> ?_)
  refine uG k (by decide) rfl (by decide) fun ty pos af=> ?_
  obtain⟨A,c,news,DN,hA,yK,yL,B5⟩:=(hre.aB eY).source (fun d hd=>(bp (lY hhe d hd)).1)
  injection DN with hxA _ V9
  subst hxA V9
  obtain⟨v',w',cM,aT,kq,qd,ho6⟩:=My.rJ (P:=Try.prog) (tt:=28) (ys:=oe) (by kernel_rfl) rfl ft.wf ty A3 c3 news hA yK yL (lY hhe) B5 (xz (by have:=He (es:=es) (f:=f);omega))
  have s1:SX (fun bb=>dA bb=some 60) w3 w':=SX.fU (fun _ h=>h) kq
  refine⟨v',w',iX (k.op rfl) (k.op rfl) cM,fun _=>s1,fun a k=> ?_⟩
  repeat refine sm k fun a k=> ?_
  refine ar ?_
  have ta:=ft.loc kq qd ⟨by decide,by decide⟩
  have FT:=sy.aB kq (fun h=>h)
  have pb:=eY.N3 gm.wf ft.wf kq (fun _ h=>h.elim)
  refine rg ae hQ abn ?_
  intro w8 e8
  have yO:=ta.aG e8
  have B2:=FT.aG e8
  have ur:=pb.N3 gm.wf ta.wf (aC.aG e8 (bJ 60) ae S aT) (fun _ h=>h.elim)
  have ho8:=ho6.aB ta.wf (aC.aG e8 ae ae S aT) (fun h=>h)
  have s0:=SX.refl ae w8
  obtain⟨Av,cv,ng⟩:=ho8.slice
  repeat refine sm k fun a k=> ?_
  refine iN (cur:=xs) k (by decide) rfl (by kernel_rfl) rfl rfl (by rw[ng];rfl) B2.heap (by omega) (by rw[ng];rfl) (fun h=>absurd rfl h) fun a k=> ?_
  refine ar ?_
  obtain⟨V3,Y1,SK⟩:=B2.set yO.wf (us:=xs.set 7 v')
  have Iq:=yO.aB V3 Y1
  have ho9:=ho8.aB yO.wf V3 (fun h=>h)
  obtain⟨S',te,OT,aqm,fa,qe⟩:=ho9.freeze Y1
  have ary:=Iq.loc OT aqm ⟨by decide,by decide⟩
  have aqe:=SK.aB OT (fun h=>h)
  have sa:aC TT ae w0 S0 kK w8 S aT:=wS gi gm.wf st ur (fun _ h=>h.elim)
  have sb:=wS gi yO.wf sa V3 (fun bb hb=>by rw[show bb=b6 from hb];exact h6)
  have sc:=wS gi Y1 sb OT (fun _ h=>h.elim)
  refine fO a _ S' te v' (k.sub ⟨rfl,rfl,rfl,trivial⟩) sc (fun u d hr=>((hr.aB ur).aB V3).aB OT) ary aqe ?_ (by rw[ng];rfl) fa ho9.has
  intro bb l hl
  have h1:=(OT.fU bb l hl)
  rcases h1 with h1|h1
  ·rcases ur.fU bb l h1 with h2|h2
   ·exact hn bb l h2
   ·rw[show l=60 from h2]at hl;exact absurd hl (qe bb)
  ·rw[show l=60 from h1]at hl;exact absurd hl (qe bb)
end
theorem jo{w:World}{S:aO}{ow:Ow}{T:TypeId}{zs us:List Value}(hw:Wf w S ow):aC ae (bJ w.heap.size) w S ow ((w.alloc (.cells zs.toArray T)).setRow w.heap.size us.toArray) S ow∧Wf ((w.alloc (.cells zs.toArray T)).setRow w.heap.size us.toArray) S ow∧dP ((w.alloc (.cells zs.toArray T)).setRow w.heap.size us.toArray) S ow w.heap.size T us:=by
 obtain⟨FF,n8⟩:=aC.alloc hw (.cells zs.toArray T)
 obtain⟨zE,Ib,lx⟩:=(dP.new hw T zs).set n8 (us:=us)
 have apF:aC ae (bJ w.heap.size) w S ow _ S ow:=FF.mono (fun _ h=>h) (fun _ h=>h.elim)
 exact⟨(apF.tr hw n8 zE (fun _ h=> .inl h)).mono (fun _ h=>h.elim id id) (fun _ h=>h),Ib,lx⟩
theorem fill_eq{zs us:List Value}{n:Nat}(hz:zs.length=n)(hu:us.length=n):(zs.toArray.toList.take 0++us++zs.toArray.toList.drop (0+us.length))=us:=by
 have:zs.toArray.toList.drop (0+us.length)=[] :=List.drop_of_length_le (by simp;omega)
 rw[this];simp
theorem JY{w:World}{S:aO}{ow:Ow}{b i:Nat}{g:GS}{vo:Value}{o:D}(h:th w S ow b g)(hn:Cb ow)(hi:i<g.saved.length)(ho:bj w S vo o)(OA:Has IE o)(hsn:cD 4 o= .eW)(fo:(cD 7 (g.saved.getD i .top)).ak.length+(cD 3 o).ak.length≤300000000000):
  Calls Try.prog 30 [aM b, .int .i64 i,vo].toArray w (oH w S ow b (uZ i o g)):=by
 obtain⟨R,gm,kV,lL⟩:=h
 obtain⟨co,On,rfl,rfl,Gl,MF,n9,D3,fX⟩:=UF ho OA rfl
 obtain⟨d,hd⟩: ∃d,g.saved[i]? =some d:=⟨_,av hi⟩
 have DS:g.saved.getD i .top=d:=by rw[List.getD_eq_getElem?_getD,hd,Option.getD_some]
 have hhd:Has jP d:=gm.saved.all d (aS hd)
 rw[DS]at fo
 obtain⟨c0,c1,c2,c3,c4,c5,c6,c7,rfl⟩: ∃c0 c1 c2 c3 c4 c5 c6 c7,co=[c0,c1,c2,c3,c4,c5,c6,c7] :=by
  have uY:co.length=8:=Gl
  match co,uY with
  | [c0,c1,c2,c3,c4,c5,c6,c7],_=>exact⟨c0,c1,c2,c3,c4,c5,c6,c7,rfl⟩
 obtain⟨d0,d1,d2,d3,d4,d5,d6,d7,rfl⟩: ∃c0 c1 c2 c3 c4 c5 c6 c7,On=[c0,c1,c2,c3,c4,c5,c6,c7] :=by
  have Gz:On.length=8:=MF
  match On,Gz with
  | [c0,c1,c2,c3,c4,c5,c6,c7],_=>exact⟨c0,c1,c2,c3,c4,c5,c6,c7,rfl⟩
 have hd4:d4= .eW:=hsn
 subst hd4
 have hc4:c4= .pointer none:=(n9 4 _ _ rfl rfl).oU
 subst hc4
 obtain⟨x3,hx3,hh3⟩:=bX D3 3 (.list cX) (by rw[Ty.cC];rfl)
 injection hx3 with hx3
 subst hx3
 obtain⟨hd3,A3,q3,hc3⟩:=vn (n9 3 _ _ rfl rfl) hh3
 subst hc3
 have Oc:=n9 3 _ _ rfl rfl
 have hoe:(cD 3 (D.agg [d0,d1,d2,d3, .eW,d5,d6,d7])).ak=d3.ak:=rfl
 generalize awl:d3.ak=oe at hd3 Oc hoe fX n9
 subst hd3
 refine jZ Try.func30 QY ac0 ap8 (by show 3≤119;omega) ?_
 intro a k
 have hQ:=gp (P:=Try.prog) (fn:=Try.f30) (R:=oH w S ow b (uZ i (D.agg [d0,d1,d2, .list oe, .eW,d5,d6,d7]) g))
 refine wp_seq (rg ae hQ aiU ?_)
 intro w1 e1
 refine qR (us:=[c0,c1,c2, .slice A3 oe.length q3, .pointer none,c5,c6,c7]) k (by decide) rfl (by decide) rfl rfl (fun h=>absurd rfl h) fun a k=> ?_
 refine ar ?_
 have dB:=gm.aG e1
 have sA:aC TT ae w S ow w1 S ow:=aC.aG e1 TT ae S ow
 obtain⟨en,eK⟩:=aC.alloc dB.wf (.cells [c0,c1,c2, .slice A3 oe.length q3, .pointer none,c5,c6,c7].toArray 75)
 have n7:=dP.new dB.wf 75 [c0,c1,c2, .slice A3 oe.length q3, .pointer none,c5,c6,c7]
 have gA:=dB.aB en eK
 have sB:=wS gm.wf dB.wf sA en (fun _ h=>h.elim)
 have h5:w.heap.size≤w1.heap.size:=by rw[e1.heap];exact Nat.le_refl _
 generalize hb5:w1.heap.size=b5 at k n7 h5
 generalize w1.alloc _=w2 at n7 gA sB en eK⊢
 have lC: ∀u d,bj w S u d→bj w2 S u d:=fun u d hr=>hr.aB sB
 clear en sA dB hb5 e1 w1
 refine wp_seq (rg ae hQ aiT ?_)
 intro w3 e3
 have ft:=gA.aG e3
 have mi:=n7.aG e3
 have sC:=wS gm.wf gA.wf sB (aC.aG e3 ae ae S ow) (fun _ h=>h.elim)
 have s0:=SX.refl ae w3
 obtain⟨bt,Ct,us,wI,yN,Ig,aav,BV,KF⟩:=ft.saved.elem hd
 have K3:us.length=8:=aav
 have ht8:jP.cells.length=8:=rfl
 rw[ht8]at BV
 repeat (first|refine sm k fun a k=> ?_|refine ld k (ft.cell (fun h=>h) rfl) fun a k=> ?_)
 rw[wI]at k
 refine FU (el:=65) (sz:=8) k rfl rfl hi fun a k=> ?_
 refine lN (vs:=us) k rfl K3 (fun w' gX j v hv=>ez yN (fun h=>h) (BV j v hv) w' gX) fun a k=> ?_
 refine lj (nn:=8) k (by decide) rfl (by decide) (by kernel_rfl) (fun zs _=>SX.alloc _ _ _) fun zs sX a k=> ?_
 have Ac: ∀u∈us,u.oneCell'=true:=by
  intro u hu
  obtain⟨q,hq⟩:=List.getElem?_of_mem hu
  have DO:q<us.length:=(ai.1 hq).1
  obtain⟨gz,gS⟩:=bp hhd
  have OB:q<jP.cells.length:=by rw[ht8];omega
  obtain⟨c,qf,wH⟩:=gS q (jP.cells[q]'OB) (av OB)
  exact(KF q u c hq qf).gq wH (aV.1 (show jP.cells.all Ty.scalar=true from rfl) _ (List.getElem_mem OB))
 refine lM (vs:=us) (cur:=zs.toArray) k (by decide) rfl (by rw[K3];kernel_rfl) rfl rfl rfl (heap_alloc_new w3 _) (by rw[List.size_toArray];omega) Ac (fun h=>absurd rfl h) fun a k=> ?_
 refine ar ?_
 rw[fill_eq sX K3]
 obtain⟨jr,m7,od⟩:=jo (T:=65) (zs:=zs) (us:=us) ft.wf
 have j8:=ft.aB jr m7
 have h6:w.heap.size≤w3.heap.size:=sC.size
 have uD:=mi.aB jr (fun e=>by have:=mi.lt;rw[show b5=w3.heap.size from e]at this;omega)
 have dH:b5≠w3.heap.size:=fun e=>by have:=mi.lt;omega
 have sD:=wS gm.wf ft.wf sC jr (fun bb hb=>by rw[show bb=_ from hb];exact h6)
 have IL: ∀(j:Nat) u c,us[j]? =some u→d.cells[j]? =some c→bj _ S u c:=fun j u c h1 h2=>(KF j u c h1 h2).aB jr
 generalize hb6:w3.heap.size=b6 at k od h6 dH sD j8 uD IL⊢
 generalize hW4:(w3.alloc _).setRow b6 _=w4 at od sD j8 uD IL⊢
 have Ma: ∀u d,bj w S u d→bj w4 S u d:=fun u d hr=>hr.aB sD
 have k:=k.sub (l:=[(5, .pointer (some ⟨b5,0,none⟩)),(6, .pointer (some ⟨b6,0,none⟩)),(0,aM b),(1, .int .i64 i)]) ⟨rfl,rfl,rfl,rfl,trivial⟩
 clear jr m7 hW4 wI yN Ig BV KF s0 sC mi ft lC sB n7 gA sX
 obtain⟨dd,wP,UA⟩:=cu.1 hhd
 subst wP
 have aq7:dd.length=8:=by rw[dZ UA,Ty.cC];rfl
 obtain⟨u0,u1,u2,u3,u4,u5,u6,u7,rfl⟩: ∃c0 c1 c2 c3 c4 c5 c6 c7,us=[c0,c1,c2,c3,c4,c5,c6,c7] :=by
  match us,K3 with
  | [c0,c1,c2,c3,c4,c5,c6,c7],_=>exact⟨c0,c1,c2,c3,c4,c5,c6,c7,rfl⟩
 obtain⟨y0,y1,y2,y3,y4,y5,y6,y7,rfl⟩: ∃c0 c1 c2 c3 c4 c5 c6 c7,dd=[c0,c1,c2,c3,c4,c5,c6,c7] :=by
  match dd,aq7 with
  | [c0,c1,c2,c3,c4,c5,c6,c7],_=>exact⟨c0,c1,c2,c3,c4,c5,c6,c7,rfl⟩
 obtain⟨x7,hx7,hh7⟩:=bX UA 7 (.list cX) (by rw[Ty.cC];rfl)
 injection hx7 with hx7
 subst hx7
 obtain⟨hd7,A7,q7,hc7⟩:=vn (IL 7 _ _ rfl rfl) hh7
 subst hc7
 have hr7:=IL 7 _ _ rfl rfl
 have ahr:(cD 7 (D.agg [y0,y1,y2,y3,y4,y5,y6,y7])).ak=y7.ak:=rfl
 rw[ahr,hoe]at fo
 generalize Co:y7.ak=es at hd7 hr7 fo od IL ahr Ac
 subst hd7
 refine wp_seq (rg ae hQ aiS ?_)
 intro w5 e5
 have j7:=j8.aG e5
 have CM:=uD.aG e5
 have rG:=od.aG e5
 have sE:=wS gm.wf j8.wf sD (aC.aG e5 ae ae S ow) (fun _ h=>h.elim)
 have s0:=SX.refl ae w5
 repeat refine sm k fun a k=> ?_
 refine lN (vs:=[c1,c2]) k rfl rfl (fun w' gX j v hv=>by
  match j,hv with
  |0,hv=>exact CM.cell (fun h=>h) (j:=1) hv w' gX
  |1,hv=>exact CM.cell (fun h=>h) (j:=2) hv w' gX) fun a k=> ?_
 repeat refine sm k fun a k=> ?_
 have Ql: ∀u∈ [c1,c2],u.oneCell'=true:=fun u hu=>fX u (by simp at hu⊢;rcases hu with rfl|rfl<;>simp)
 refine lM (vs:=[c1,c2]) (cur:=[u0,u1,u2,u3,u4,u5,u6, .slice A7 es.length q7].toArray) k (by decide) rfl (by kernel_rfl) rfl rfl rfl rG.heap (by show 2≤8;omega) Ql (fun h=>absurd rfl h) fun a k=> ?_
 refine ar ?_
 obtain⟨kq,qd,FT⟩:=rG.set j7.wf (us:=[c1,c2,u2,u3,u4,u5,u6, .slice A7 es.length q7])
 have ta:=j7.aB kq qd
 have N6:=CM.aB kq dH
 have sF:=wS gm.wf j7.wf sE kq (fun bb hb=>by rw[show bb=b6 from hb];exact h6)
 have k:=k.sub (l:=[(5, .pointer (some ⟨b5,0,none⟩)),(6, .pointer (some ⟨b6,0,none⟩)),(0,aM b),(1, .int .i64 i)]) ⟨rfl,rfl,rfl,rfl,trivial⟩
 have Gi: ∀(j:Nat) u c,[u0,u1,u2,u3,u4,u5,u6, .slice A7 es.length q7][j]? =some u→(D.agg [y0,y1,y2,y3,y4,y5,y6, .list es]).cells[j]? =some c→bj (w5.setRow b6 [c1,c2,u2,u3,u4,u5,u6, .slice A7 es.length q7].toArray) S u c:=fun j u c h1 h2=>((IL j u c h1 h2).aB (aC.aG e5 ae ae S ow)).aB kq
 show Code.wp Try.prog _ _ a (w5.setRow b6 [c1,c2,u2,u3,u4,u5,u6, .slice A7 es.length q7].toArray)
 generalize w5.setRow b6 [c1,c2,u2,u3,u4,u5,u6, .slice A7 es.length q7].toArray=w6 at FT ta N6 sF Gi kq qd⊢
 have Tw: ∀u d,bj w S u d→bj w6 S u d:=fun u d hr=>hr.aB sF
 clear kq qd sE rG CM j7 e5 s0 IL od uD j8 sD Ma
 have fin: ∀(a:Act) (W:World) (S':aO) (aT:Ow) (v7:Value) (l7:List D),Kn 119 a [(6, .pointer (some ⟨b6,0,none⟩)),(0,aM b),(1, .int .i64 i)] →aC TT ae w S ow W S' aT→(∀u d,bj w6 S u d→bj W S' u d)→GM W S' aT b (R.cells g.bad) R g→dP W S' aT b6 65 [c1,c2,u2,u3,u4,u5,u6,v7] →Cb aT→v7.oneCell'=true→
   bj W S' v7 (.list l7)→Has (.list cX) (.list l7)→l7=EO (.agg [y0,y1,y2,y3,y4,y5,y6, .list es]) (.agg [d0,d1,d2, .list oe, .eW,d5,d6,d7])→(Code.region 21 Ep true).wp Try.prog (bodyPost Try.prog Try.f30 (oH w S ow b (uZ i (D.agg [d0,d1,d2, .list oe, .eW,d5,d6,d7]) g))) a W:=by
  intro a W S' aT v7 l7 k sG jM gmG lxG hnG h7 Qj Qt hl7
  refine RG (d:= .agg [d1,d2,y2,y3,y4,y5,y6, .list l7]) hQ ?_ gm.wf hn sG hnG gmG kV lL lxG rfl ?_ ?_ ?_ hi k
  ·intro a w' hp
   have:uZ i (D.agg [d0,d1,d2, .list oe, .eW,d5,d6,d7]) g={g with saved:=g.saved.set i (.agg [d1,d2,y2,y3,y4,y5,y6, .list l7])}:=by
    unfold uZ
    rw[DS,hl7]
    rfl
   rw[this]
   exact hp
  ·intro j u c h1 h2
   match j,h1,h2 with
   |0,h1,h2=>injection h1 with h1;injection h2 with h2;subst h1 h2;exact jM _ _ (Tw _ _ (n9 1 _ _ rfl rfl))
   |1,h1,h2=>injection h1 with h1;injection h2 with h2;subst h1 h2;exact jM _ _ (Tw _ _ (n9 2 _ _ rfl rfl))
   |2,h1,h2=>injection h1 with h1;injection h2 with h2;subst h1 h2;exact jM _ _ (Gi 2 _ _ rfl rfl)
   |3,h1,h2=>injection h1 with h1;injection h2 with h2;subst h1 h2;exact jM _ _ (Gi 3 _ _ rfl rfl)
   |4,h1,h2=>injection h1 with h1;injection h2 with h2;subst h1 h2;exact jM _ _ (Gi 4 _ _ rfl rfl)
   |5,h1,h2=>injection h1 with h1;injection h2 with h2;subst h1 h2;exact jM _ _ (Gi 5 _ _ rfl rfl)
   |6,h1,h2=>injection h1 with h1;injection h2 with h2;subst h1 h2;exact jM _ _ (Gi 6 _ _ rfl rfl)
   |7,h1,h2=>injection h1 with h1;injection h2 with h2;subst h1 h2;exact Qj
  ·obtain⟨_,_,e0,t0,r0⟩:=aa.1 UA
   obtain⟨_,_,e1,t1,r1⟩:=aa.1 r0
   obtain⟨_,_,e2,t2,r2⟩:=aa.1 r1
   obtain⟨_,_,e3,t3,r3⟩:=aa.1 r2
   obtain⟨_,_,e4,t4,r4⟩:=aa.1 r3
   obtain⟨_,_,e5,t5,r5⟩:=aa.1 r4
   obtain⟨_,_,e6,t6,r6⟩:=aa.1 r5
   simp only[List.cons.injEq]at e0 e1 e2 e3 e4 e5 e6
   obtain⟨rfl,rfl⟩:=e0
   obtain⟨rfl,rfl⟩:=e1
   obtain⟨rfl,rfl⟩:=e2
   obtain⟨rfl,rfl⟩:=e3
   obtain⟨rfl,rfl⟩:=e4
   obtain⟨rfl,rfl⟩:=e5
   obtain⟨rfl,rfl⟩:=e6
   obtain⟨z1,hz1,hy1⟩:=bX D3 1 I6 (by rw[Ty.cC];rfl)
   obtain⟨z2,hz2,wM⟩:=bX D3 2 I6 (by rw[Ty.cC];rfl)
   injection hz1 with hz1
   injection hz2 with hz2
   subst hz1 hz2
   exact cu.2 ⟨_,rfl,aa.2 ⟨_,_,rfl,hy1,aa.2 ⟨_,_,rfl,wM,aa.2 ⟨_,_,rfl,t2,aa.2 ⟨_,_,rfl,t3,aa.2 ⟨_,_,rfl,t4,aa.2 ⟨_,_,rfl,t5,aa.2 ⟨_,_,rfl,t6,aa.2 ⟨_,_,rfl,Qt,bE.2 rfl⟩⟩⟩⟩⟩⟩⟩⟩⟩
  ·intro v hv
   simp only[List.mem_cons,List.not_mem_nil,or_false]at hv
   rcases hv with rfl|rfl|rfl|rfl|rfl|rfl|rfl|rfl
   ·exact Ql _ (by simp)
   ·exact Ql _ (by simp)
   ·exact Ac _ (by simp)
   ·exact Ac _ (by simp)
   ·exact Ac _ (by simp)
   ·exact Ac _ (by simp)
   ·exact Ac _ (by simp)
   ·exact h7
 refine wp_seq (wp_seq (rg ae hQ aiR ?_))
 intro w7 e7
 have Mi:=ta.aG e7
 have lo7:=N6.aG e7
 have lx7:=FT.aG e7
 have sH:=wS gm.wf ta.wf sF (aC.aG e7 ae ae S ow) (fun _ h=>h.elim)
 have s0:=SX.refl ae w7
 repeat (first|refine sm k fun a k=> ?_|refine ld k (lo7.cell (fun h=>h) rfl) fun a k=> ?_)
 refine abd (by kernel_rfl) k (by assumption) rfl (by decide) rfl rfl fun a k=> ?_
 refine ar (aR k rfl (wp_skip ?_))
 refine wp_seq (wp_seq (rg ae hQ abw ?_))
 intro w8 e8
 have yO:=Mi.aG e8
 have YT:=lo7.aG e8
 have B2:=lx7.aG e8
 have sI:=wS gm.wf Mi.wf sH (aC.aG e8 ae ae S ow) (fun _ h=>h.elim)
 have s0:=SX.refl ae w8
 have hr8: ∀u d,bj w6 S u d→bj w8 S u d:=fun u d hr=>(hr.aB (aC.aG e7 ae ae S ow)).aB (aC.aG e8 ae ae S ow)
 repeat (first|refine sm k fun a k=> ?_|refine ld k (YT.cell (fun h=>h) rfl) fun a k=> ?_)
 refine cm (c:=decide ((oe.length:Int)>0)) k rfl rfl rfl fun a k=> ?_
 refine ar (aR k rfl ?_)
 have hsE: ∀x,EO (.agg [y0,y1,y2,y3,y4,y5,y6, .list es]) (.agg [d0,d1,d2, .list oe, .eW,d5,d6,d7])=x↔(if oe=[] then es else p6 es (cD 0 (oe.getD 0 .top)).ab++oe)=x:=fun x=>Iff.rfl
 by_cases Pc:oe=[]
 ·rw[if_neg (by subst Pc;simp)]
  refine wp_skip (fin a w8 S ow _ es (k.sub ⟨rfl,rfl,rfl,trivial⟩) sI hr8 yO B2 hn rfl (hr8 _ _ (Gi 7 _ _ rfl rfl)) hh7 ?_)
  exact((hsE es).2 (if_pos Pc)).symm
 ·have ev:0<oe.length:=List.length_pos_iff.2 Pc
  rw[if_pos (by simp;omega)]
  refine wp_seq (rg ae hQ abv ?_)
  intro w9 e9
  have Iq:=yO.aG e9
  have lo9:=YT.aG e9
  have SK:=B2.aG e9
  have sJ:=wS gm.wf yO.wf sI (aC.aG e9 ae ae S ow) (fun _ h=>h.elim)
  have s0:=SX.refl ae w9
  have hr9: ∀u d,bj w6 S u d→bj w9 S u d:=fun u d hr=>(hr8 u d hr).aB (aC.aG e9 ae ae S ow)
  repeat refine sm k fun a k=> ?_
  refine ar ?_
  refine Nd (g:=g) (i:=i) (fun c a d v w h=>hQ c a d v w h) gm.wf sJ hn Iq lo9 SK h6 dH rfl (hr9 _ _ (Tw _ _ Oc)) hh3 rfl rfl (hr9 _ _ (Gi 7 _ _ rfl rfl)) hh7 fo Pc (k.sub ⟨rfl,rfl,rfl,rfl,rfl,trivial⟩) ?_
  intro a W S' aT v7 k sK jM gmK lxK hnK h7 Qj Qt
  refine fin a W S' aT v7 _ k sK (fun u d hr=>jM u d (hr9 u d hr)) gmK lxK hnK h7 Qj Qt ?_
  exact((hsE _).2 (if_neg Pc)).symm
end Go.Proofs.Ytjhmkaninmgilaa
