/- Part 10 of the proof of RaftOne; no condition. -/
import Derived.Test.YtjhmkaninmgilaaS08
import Derived.Test.YtjhmkaninmgilaaS05
import Derived.Test.YtjhmkaninmgilaaS09
set_option linter.unusedVariables false
set_option linter.unusedSimpArgs false
set_option maxHeartbeats 4000000
open Go.IntKind (i64)
namespace Go.Proofs.Ytjhmkaninmgilaa
open Go Go.RowKit Go.dV Go.Proofs
theorem c81:bh Try.prog 81 s81 (pre 81) (cF 81):=by
 refine zF (yU (Φ:=cF) (Pre:=pre)) Try.func81 (v:=aje) ?_
 intro ds h hp
 obtain⟨_,_,rfl,ga,_,_,rfl,gb,rfl⟩:=h
 obtain⟨a,rfl,ha,hka⟩:=yH ga
 obtain⟨b,rfl,hb,hkb⟩:=yH gb
 have hR:cF 81 [.list (a.map (D.int .i64)),.list (b.map (D.int .i64))] = .bool (decide (a=b)):=by simp[cF,eX]
 simp[aje,fG,eE,eC,cM,eD,dE,fF,fI,fH,gJ,den,U.den,B.den,fU,aU,db,eH,eF,eG,fV,bZ,cU,ah,aP,bL,aw,pre,hR]
 refine⟨fun h=> ?_,fun h=> ?_⟩
 ·intro e;exact h (by rw[e])
 refine m7.intro (fun xs=> ∃n:Nat,xs=[.bool false,.int .i64 n] ∧n≤a.length∧a.take n=b.take n) (fun xs=>a.length-(I (.list xs) 1).toNat) ⟨0,rfl,bf _,by simp⟩ ?_
 intro xs tF hJ
 obtain⟨n,rfl,hle,tV⟩:=hJ
 clear tF
 rcases hx:a[n]? with _|x
 ·have ou:=vW hx
  have bP: ¬((n:Int)<a.length):=by omega
  have e:n=a.length:=by omega
  subst e
  rw[fS,eM (by omega)]at tV
  simp[bZ,tV]
 ·have bP:=vT hx
  have lP:(n:Int)<a.length:=by omega
  have Jd:=ca hx
  have lY:IntKind.wrap .i64 ((n:Int)+1)=(n:Int)+1:=wrap64 (by omega) (by omega)
  obtain⟨y,hy⟩: ∃y,b[n]? =some y:=⟨_,aW (by omega)⟩
  have ht:a.take (n+1)=a.take n++[x] :=by rw[dj,hx,eY]
  have N3:b.take (n+1)=b.take n++[y] :=by rw[dj,hy,eY]
  have avG:(n:Int)<b.length:=by omega
  simp[bZ,hx,hy,lP,avG,lY,Nat.not_le.2 bP]
  refine⟨fun fY e=> ?_,fun hxy=>⟨⟨n+1,by simp,bP,by rw[ht,N3,tV,hxy]⟩,?_⟩⟩
  ·rw[e,hy]at hx;injection hx with hx;exact fY hx.symm
  ·show a.length-((n:Int)+1).toNat<a.length-(n:Int).toNat
   omega
theorem abX:kr Try.prog pre cF [(81,s81)] :=aL c81 yU
theorem c62:bh Try.prog 62 s62 (pre 62) (cF 62):=by
 refine zF abX Try.func62 (v:=ajq) ?_
 intro ds h hp
 obtain⟨_,_,rfl,ga,_,_,rfl,gb,rfl⟩:=h
 obtain⟨va,la,rfl,me,P9,j6,Qa⟩:=yM ga
 obtain⟨vb,lb,rfl,hvb,avO,hlb,avP⟩:=yM gb
 simp[ajq,fG,eE,eC,cM,eD,dE,fF,fI,fH,gJ,den,U.den,B.den,fU,aU,db,eH,eF,eG,fV,bZ,cU,ah,aP,bL,aw,pre,awn,aoK]
theorem acg:kr Try.prog pre cF [(62,s62),(81,s81)] :=aL c62 abX
theorem c31:bh Try.prog 31 s31 (pre 31) (cF 31):=by
 refine zF acg Try.func31 (v:=atA) ?_
 intro ds h hp
 obtain⟨x,_,rfl,hx,y,_,rfl,hy,rfl⟩:=h
 refine zH D.gV D.bool false (y:=Mf x y) zK
theorem aoY:kr Try.prog pre cF [(31,s31),(62,s62),(81,s81)] :=aL c31 acg
theorem c8:bh Try.prog 8 s8 (pre 8) (cF 8):=by
 refine zF aoY Try.func8 (v:=vc8) ?_
 intro ds h hp
 obtain⟨_,_,rfl,⟨a,rfl,ha⟩,_,_,rfl,⟨b,rfl,hb⟩,rfl⟩:=h
 replace hp:b≠0:=hp
 have hR:cF 8 [.int .i64 a,.int .i64 b] = .int .i64 (yD a b):=rfl
 simp[vc8,fG,eE,eC,cM,eD,dE,fF,fI,fH,gJ,den,U.den,B.den,fU,aU,db,eH,eF,eG,fV,bZ,cU,pre,hR,yD,hp]
 exact⟨fun h1 h2=>by omega,fun h1 h2=>by omega⟩
attribute [local irreducible] TL
def Fx(x:D):D:=.agg (x.aV.drop 2)
def lT(l:List D)(n:Int):List D:=l++List.replicate (n+1-l.length).toNat kS
def p5(x:D)(g:GS):GS:=
 let t:=lT g.told (cD 0 x).aq
 let y:=t.getD (cD 0 x).aq.toNat .top
 {g with told:=t.set (cD 0 x).aq.toNat x,bad:=g.bad||((cD 0 y).aq !=0&&((cD 1 y).aq !=(cD 1 x).aq|| !Mf (Fx x) (Fx y)))}
theorem NH{l:List D}{n:Int}(h:(l.length:Int)≤n):lT (l++[kS]) n=lT l n:=by
 unfold lT
 rw[ez,an,bG]
 congr 1
 rw[show(n+1-(l.length:Int)).toNat=(n+1-((l.length+1:Nat):Int)).toNat+1 by omega,List.replicate_succ]
 rfl
theorem NI{l:List D}{n:Int}(h:n<(l.length:Int)):lT l n=l:=by
 unfold lT
 rw[show(n+1-(l.length:Int)).toNat=0 by omega]
 simp
def zeroV:Ty→Value
 |.int k=>.int k 0
 |.bool=>.bool false
 |.list _=>.slice none 0 0
 |_=>.pointer none
def uL:List Value:=eP.cells.map zeroV
theorem NR:Try.prog.built 78 [] =some uL.toArray:=by kernel_rfl
theorem WI{w:World}{S:bU}: ∀(j:Nat) u c,uL[j]? =some u→kS.cells[j]? =some c→cH w S u c:=by
 intro j u c hu hc
 have key: ∀(l:List (Value×D)),(∀p∈l,cH w S p.1 p.2)→ ∀(j:Nat) (u:Value) (c:D),(l.map (·.1))[j]? =some u→(l.map (·.2))[j]? =some c→cH w S u c:=by
  intro l hl j u c hu hc
  rw[ah,da]at hu hc
  obtain⟨p,hp,rfl⟩:=hu
  obtain⟨q,hq,rfl⟩:=hc
  rw[hp]at hq;injection hq with hq;subst hq
  exact hl p (ca hp)
 refine key (uL.zip kS.cells) ?_ j u c (by rw[show(uL.zip kS.cells).map (·.1)=uL from rfl];exact hu) (by rw[show(uL.zip kS.cells).map (·.2)=kS.cells from rfl];exact hc)
 have hz: ∀p∈uL.zip kS.cells,p=(Value.int .i64 0,D.int .i64 0)∨p=(.bool false,.bool false)∨p=(.slice none 0 0,.list []):=by
  have:uL.zip kS.cells=[(.int .i64 0,.int .i64 0),(.int .i64 0,.int .i64 0),(.int .i64 0,.int .i64 0),(.int .i64 0,.int .i64 0),(.int .i64 0,.int .i64 0),(.int .i64 0,.int .i64 0),(.int .i64 0,.int .i64 0),(.int .i64 0,.int .i64 0),(.int .i64 0,.int .i64 0),(.slice none 0 0,.list []),(.int .i64 0,.int .i64 0),(.bool false,.bool false),(.int .i64 0,.int .i64 0),(.int .i64 0,.int .i64 0),(.int .i64 0,.int .i64 0),(.bool false,.bool false),(.bool false,.bool false),(.int .i64 0,.int .i64 0),(.int .i64 0,.int .i64 0),(.int .i64 0,.int .i64 0),(.slice none 0 0,.list []),(.int .i64 0,.int .i64 0),(.int .i64 0,.int .i64 0),(.int .i64 0,.int .i64 0),(.slice none 0 0,.list []),(.slice none 0 0,.list []),(.bool false,.bool false),(.slice none 0 0,.list []),(.slice none 0 0,.list [])] :=rfl
  rw[this]
  intro p hp
  simp only[aM,fc,or_false]at hp
  rcases hp with rfl|rfl|rfl|rfl|rfl|rfl|rfl|rfl|rfl|rfl|rfl|rfl|rfl|rfl|rfl|rfl|rfl|rfl|rfl|rfl|rfl|rfl|rfl|rfl|rfl|rfl|rfl|rfl|rfl<;>first|exact .inl rfl|exact .inr (.inl rfl)|exact .inr (.inr rfl)
 intro p hp
 rcases hz p hp with rfl|rfl|rfl
 ·exact .int _ _
 ·exact .bool _
 ·exact .nil _ _
theorem WJ:Has eP kS:=by
 have key: ∀(ts:List Ty),(∀t∈ts,t= .int .i64∨t= .bool∨ ∃u,t= .list u)→dK (.dJ ts) (ts.map fun t=>match t with| .int k=>.int k 0| .bool=>.bool false| .list _=>.list [] |_=>.top):=by
  intro ts
  induction ts with
  |nil=>intro _;exact dr.2 rfl
  |cons t ts ih=>
   intro h
   refine aj.2 ⟨_,_,rfl,?_,ih fun t ht=>h t (aI _ ht)⟩
   rcases h t (by simp) with rfl|rfl|⟨u,rfl⟩
   ·exact⟨0,rfl,by decide⟩
   ·exact⟨_,rfl⟩
   ·exact⟨[],rfl,ft u,fun _ h=>by cases h⟩
 refine eN.2 ⟨_,rfl,key ([.int .i64,.int .i64] ++HA) ?_⟩
 intro t ht
 have: ∀t∈([.int .i64,.int .i64] ++HA:List Ty),(match t with| .int .i64=>true| .bool=>true| .list _=>true|_=>false)=true:=by
  rw[←cn];rfl
 have h:=this t ht
 cases t with
 |int k=>cases k<;>first|exact .inl rfl|(exact absurd h (by decide))
 |bool=>exact .inr (.inl rfl)
 |list u=>exact .inr (.inr ⟨u,rfl⟩)
 |_=>simp at h
theorem wJ{f:Nat}{ps:List Ty}{Pre:List D→Prop}{Φ:List D→D}{w:World}{S:bU}{ow:Ow}{vs:List Value}{dd:List D}{c:Bool}(hf:bh Try.prog f ⟨ps,[(false,[(.bool,none)])],none⟩ Pre Φ)(hw:Wf w S ow)(hl:vs.length=dd.length)(jf: ∀(i:Nat) v d,vs[i]? =some v→dd[i]? =some d→cH w S v d)
  (jA:dK (.dJ ps) dd) (ks:Pre dd) (pa:Φ dd= .bool c):Calls Try.prog f vs.toArray w fun e w'=>e= .returned (.bool c)∧br ax ax w S ow w' S ow∧Wf w' S ow:=by
 refine(hf.calls rfl w S vs dd hw.s hl jf jA ks).mono ?_
 rintro e w1 ⟨v,S',τ,rfl,hb,_,_,_,fi,_⟩
 have oZ:br ax ax w S ow w1 S ow∧Wf w1 S ow:=⟨⟨hb.size,hb.os,hb.tape,hb.output,fun b _ ju _ _=>hb.block b ju,fun b ju _ _=>hb.block b ju,fun _ _ h=>h,fun b o hs=>bg (hb.block b (hw.s b o hs)),fun _ _ h _=>h,fun _ _ h=>.inl h,fun _ _ h=>h,fun _ _ h=>.inl h⟩,
  ⟨fun b o hs=>ar (hw.s b o hs) hb.size,fun b l hl=>ar (hw.o b l hl) hb.size,hw.d⟩⟩
 rw[pa]at fi
 rcases fi with⟨c',hc,hq⟩|⟨hc,_⟩
 ·injection hc with hc
  subst hc
  unfold hH at hq
  simp only[ak,if_false]at hq
  obtain⟨x,hx,eW⟩:=hq
  injection hx with hx
  subst hx
  have hr:cH w1 S' v (.bool c):=eW.1
  rw[hr.iE]
  exact⟨rfl,oZ⟩
 ·exact absurd rfl hc
theorem o5{w0 w w1:World}{S0 S S1:bU}{og ow fE:Ow}{X:Nat→Prop}(gO:Wf w0 S0 og)(hw:Wf w S ow)(h:br LG ax w0 S0 og w S ow)(k:br LG X w S ow w1 S1 fE)(hX: ∀b,X b→w0.heap.size≤b):br LG ax w0 S0 og w1 S1 fE:=
 (h.tr gO hw k (fun b h=>.inr (hX b h))).mono (fun _ h=>h.elim id id) (fun _ h=>h)
section
variable{w0 w:World}{S0 S:bU}{og ow:Ow}{b b6 b9 i:Nat}{g:GS}{R:GR}{Q:Exit→Act→World→Prop}{a:Act}{xs:List Value}{j:Nat}{n:Int}
noncomputable def D5:Code:=.block 2 (.loop (.seq (.seq (.region 9 T7 true) (.cond (.tmp 57) .skip (.exit 2))) (.block 3 (.region 10 ME false))))
theorem Qv(hQ:QP Q)(gm:GM w S ow b (R.cells g.bad) R g)(lx:iH w S ow b9 78 xs)(hx:xs[0]? =some (.int .i64 n))(h0:0≤n)(hn:n≤300000000000)(AU:g.told.length≤300000000001)
  (k:Kn 109 a [(9,.pointer (some ⟨b9,0,none⟩)),(8,.int .i64 j),(6,.pointer (some ⟨b6,0,none⟩)),(0,bp b),(1,.int .i64 i)])
  (jt: ∀a W bX v,Kn 109 a [(9,.pointer (some ⟨b9,0,none⟩)),(8,.int .i64 j),(6,.pointer (some ⟨b6,0,none⟩)),(0,bp b),(1,.int .i64 i)] →br LG ax w S ow W S bX→GM W S bX b ({R with told:=v}.cells g.bad) {R with told:=v} {g with told:=lT g.told n}→(lT g.told n).length≤300000000001→Q .normal a W):D5.wp Try.prog Q a w:=by
 unfold D5
 refine wp_block (wp_loop_ghost (fun mm a W=> ∃(l:List D) (v:Value) (fE:Ow),mm=(n+1-(l.length:Int)).toNat∧Kn 109 a [(9,.pointer (some ⟨b9,0,none⟩)),(8,.int .i64 j),(6,.pointer (some ⟨b6,0,none⟩)),(0,bp b),(1,.int .i64 i)] ∧
  br LG ax w S ow W S fE∧GM W S fE b ({R with told:=v}.cells g.bad) {R with told:=v} {g with told:=l}∧lT l n=lT g.told n∧l.length≤300000000001) (n+1-(g.told.length:Int)).toNat
  ⟨g.told,R.told,ow,rfl,k,br.refl _ _ _ _ _,gm,rfl,AU⟩ ?_)
 clear k
 rintro mm a W ⟨l,v,fE,rfl,k,j8,eZ,wM,qY⟩
 have FP:=lx.bw j8 (fun h=>h)
 refine wp_seq (wp_seq (lR (n0:=8) ax mix (fun c a d v w h=>hQ c a d v w h) am6 (fun _=>by kernel_rfl) ?_))
 intro w2 e2
 have jB:=eZ.bu e2
 have Jc:=FP.bu e2
 have gI:=j8.ba gm.wf eZ.wf (br.bu e2 ax ax S fE) (fun _ h=>h.elim)
 have s0:=SX.refl ax w2
 obtain⟨A,cap,hv⟩:=jB.told.slice
 have pn:v= .slice A l.length cap:=hv
 repeat (first|refine sm k fun a k=> ?_|refine ld k (Jc.cell (fun h=>h) hx) fun a k=> ?_|refine ld k (jB.cell (fun h=>h) rfl) fun a k=> ?_)
 rw[show({R with told:=v}:GR).told=v from rfl,pn]at k
 repeat (first|refine sm k fun a k=> ?_|refine ld k (Jc.cell (fun h=>h) hx) fun a k=> ?_|refine ld k (jB.cell (fun h=>h) rfl) fun a k=> ?_)
 refine cm (c:=decide ((l.length:Int)≤n)) k rfl rfl rfl fun a k=> ?_
 refine aJ (bz k rfl ?_)
 have k:=k.sub (l:=[(9,.pointer (some ⟨b9,0,none⟩)),(8,.int .i64 j),(6,.pointer (some ⟨b6,0,none⟩)),(0,bp b),(1,.int .i64 i)]) ⟨rfl,rfl,rfl,rfl,rfl,trivial⟩
 by_cases hc:(l.length:Int)≤n
 ·rw[if_pos (by simpa using hc)]
  refine wp_skip (wp_block (rg (fun bb=>fE bb=some 12) hQ af3 ?_))
  intro w3 e3
  have iV:=jB.bu e3
  have iQ:=gI.ba gm.wf jB.wf (br.bu e3 ax ax S fE) (fun _ h=>h.elim)
  have s0:=SX.refl (fun bb=>fE bb=some 12) w3
  have vJ: ¬fE b=some 12:=by rw[iV.obj.ow];decide
  repeat (first|refine sm k fun a k=> ?_|refine ld k (iV.cell vJ rfl) fun a k=> ?_)
  refine p9 (ps:=[]) (vs:=uL) k (by assumption) rfl (by decide) rfl NR fun a k=> ?_
  refine qK (kk:=29) (T:=78) k (by decide) rfl (by decide) rfl (by kernel_rfl) rfl (fun _=>SX.alloc _ _ _) fun a k=> ?_
  obtain⟨vK,rD⟩:=br.alloc iV.wf (.cells (Value.agg uL.toArray).cells 78)
  have mh:=iV.bw vK rD
  refine yq k (by decide) rfl (by decide) fun ty pos af=> ?_
  obtain⟨v',w',fh,bX,mw,Jl,ho5⟩:=mh.told.Qm (P:=Try.prog) (tt:=28) (by kernel_rfl) rfl rD ty w3.heap.size (d:=kS) WJ (us:=uL) rfl (heap_alloc_new w3 _) (fun q u c h1 h2=>WI q u c h1 h2) (wB (by show l.length+1≤_;omega))
  have s1:SX (fun bb=>fE bb=some 12) w3 w':=(SX.alloc _ _ _).trans (SX.jD (fun _ h=>h) mw)
  refine⟨v',w',k8 (k.op rfl) (k.op rfl) fh,fun _=>s1,fun a k=> ?_⟩
  have my:=mh.Kk mw Jl ho5
  obtain⟨Av,cv,Jo⟩:=ho5.slice
  repeat refine sm k fun a k=> ?_
  refine mW (cur:={R with told:=v}.cells g.bad) k (by decide) rfl (by kernel_rfl) rfl rfl (by rw[Jo];rfl) my.obj.heap (by show 5<11;omega) (by rw[Jo];rfl) (fun h=>absurd rfl h) fun a k=> ?_
  refine aJ ?_
  obtain⟨mL,zM,ho6⟩:=my.obj.set Jl (us:=({R with told:=v}.cells g.bad).set 5 v')
  have wQ:=my.setObj mL zM ho6
  have sA:=iQ.ba gm.wf iV.wf vK (fun _ h=>h.elim)
  have sB:=sA.gX gm.wf rD mw (.inl (by decide))
  have sC:=sB.gX gm.wf Jl mL (.inl (by decide))
  refine⟨_,?_,l++[kS],v',bX,rfl,k.sub ⟨rfl,rfl,rfl,rfl,rfl,trivial⟩,sC,wQ,(NH hc).trans wM,by rw[an,bG];omega⟩
  rw[an,bG];omega
 ·rw[if_neg (by simpa using hc)]
  refine wp_exit ?_
  have hd:=NI (l:=l) (n:=n) (by omega)
  rw[hd]at wM
  show Q .normal a w2
  refine jt a w2 fE v k gI ?_ ?_
  ·rw[←wM];exact jB
  ·rw[←wM];exact qY
end
end Go.Proofs.Ytjhmkaninmgilaa
namespace Go.Proofs.Ytjhmkaninmgilaa
open Go Go.RowKit Go.dV Go.Proofs
theorem Tu{P:Program}{ops:Array Oper}{Q:Exit→Act→World→Prop}{S:World→Prop}{n n0 i d j t:Nat}{bb:Bool}{a:Act}{w:World}{m:List (Nat×Value)}{L r:List OK}{op:Op}(k:Kn n a m)(hS:S w)(hj:(L[j]?).bind (·.1)=some t)(hu:lk m t=some undef)(hd:d<n)
  (h: ∀a',Kn n a' ((d,undef)::m)→TL P ops Q S n0 L r (i+1) a' w):TL P ops Q S n0 L ((some d,op,some (j,bb))::r) i a w:=by
 intro hl hr
 obtain⟨⟨o,ho,hx⟩,nK⟩:=vN hl hr
 obtain⟨dst,W0,ty,pos,af,Xm⟩:=o
 simp only[WZ,ai]at hx
 obtain⟨rfl,rfl,rfl⟩:=hx
 have BT:(ops[j]?).bind (·.dst)=some t:=by
  rw[←hj,←hl]
  unfold b8
  rw[ah]
  cases ho:ops[j]? with
  |none=>simp[ho]
  |some o=>simp[ho,WZ]
 have hw:Region.wanted ⟨some d,W0,ty,pos,af,some (j,bb)⟩ (yielded ops a.tmps)=false:=by
  unfold Region.wanted
  have h1:=k.2.2 t _ hu
  simp only[yielded,BT,cu,h1]
  rfl
 show oD P ops Q S n0 (r.length+1) i a w
 unfold oD
 rw[ho]
 simp only
 by_cases hi:i<n0
 ·rw[if_pos hi]
  exact⟨hS,undef,.inr ⟨hw,rfl⟩,h _ (k.put d undef hd) hl nK⟩
 ·rw[if_neg hi]
  exact(YieldsIf.wpOp (S:=S) ho (.inr ⟨hw,rfl⟩) hS ⟨fun _=>hS,h _ (k.put d undef hd) hl nK⟩)
attribute [local irreducible] TL
theorem Cz{w:World}{S:bU}{x:D}{us:List Value}(h:Has eP x)(hl:us.length=29)(hr: ∀(q:Nat) u c,us[q]? =some u→x.cells[q]? =some c→cH w S u c):
  cH w S (.agg (us.drop 2).toArray) (Fx x)∧Has C8 (Fx x)∧us[0]? =some (.int .i64 (cD 0 x).aq)∧us[1]? =some (.int .i64 (cD 1 x).aq)∧ ∀u∈us,u.oneCell'=true:=by
 have hx:=h
 obtain⟨l,rfl,qY⟩:=eN.1 h
 have avN:l.length=29:=by rw[il qY,Ty.fa];rfl
 obtain⟨u0,RI⟩: ∃u,us[0]? =some u:=⟨_,aW (by omega)⟩
 obtain⟨u1,hu1⟩: ∃u,us[1]? =some u:=⟨_,aW (by omega)⟩
 obtain⟨x0,r0,e0,h0,Xd⟩:=aj.1 qY
 obtain⟨x1,r1,e1,h1,EZ⟩:=aj.1 Xd
 subst e1
 subst e0
 obtain⟨n0,rfl,_⟩:=h0
 obtain⟨n1,rfl,_⟩:=h1
 have g0:=(hr 0 u0 _ RI rfl).cX
 have g1:=(hr 1 u1 _ hu1 rfl).cX
 subst g0 g1
 refine⟨.agg _ _ (by rw[bF,hl];show 29-2=r1.length;simp only[bM]at avN;omega) ?_,eN.2 ⟨_,rfl,EZ⟩,RI,hu1,?_⟩
 ·intro q u c hu hc
  rw[aO]at hu
  have Hi:(D.agg (.int .i64 n0:: .int .i64 n1::r1)).cells[2+q]? =some c:=by
   show(D.int .i64 n0:: .int .i64 n1::r1)[2+q]? =some c
   rw[show 2+q=q+1+1 by omega]
   exact hc
  exact hr _ u c hu Hi
 ·intro u hu
  obtain⟨q,hq⟩:=aE hu
  have FU:q<us.length:=(aH.1 hq).1
  obtain⟨jY,kP⟩:=cN hx
  have R8:q<eP.cells.length:=by rw[nj];omega
  obtain⟨c,qZ,wP⟩:=kP q (eP.cells[q]'R8) (aW R8)
  exact(hr q u c hq qZ).ko wP (cn.1 (show eP.cells.all Ty.scalar=true from rfl) _ (aX R8))
theorem Re{l:List D}{n:Int}(h:0≤n):n.toNat<(lT l n).length:=by
 unfold lT
 rw[an,List.length_replicate]
 omega
section
variable{w0 w:World}{S0 S:bU}{og ow:Ow}{b b6 b9 i:Nat}{g:GS}{R:GR}{Q:Exit→Act→World→Prop}{a:Act}{vo xs:List Value}{j:Nat}{n:Int}{A6:Option Addr}{c6:Nat}{cs:List D}{x:D}
noncomputable def Il:Code:=.seq (.region 8 T8 false) (.seq D5 (.seq (.region 11 MD true) (.seq (.region 12 MC false) (.seq (.seq (.region 13 MB false) (.cond (.tmp 94) (.region 14 HX false) .skip)) (.region 15 DB true)))))
theorem take_one(hQ:QP Q)(gm:GM w S ow b (R.cells g.bad) R g)(lo:iH w S ow b6 75 vo)(N1:vo[6]? =some (.slice A6 cs.length c6))(pT:cH w S (.slice A6 cs.length c6) (.list cs))(RN:Has (.list eP) (.list cs))(hj:cs[j]? =some x)
  (h0:0≤(cD 0 x).aq) (hn:(cD 0 x).aq≤300000000000) (AU:g.told.length≤300000000001) (k:Kn 109 a [(8,.int .i64 j),(6,.pointer (some ⟨b6,0,none⟩)),(0,bp b),(1,.int .i64 i)])
  (jt: ∀a W bX v,Kn 109 a [(8,.int .i64 j),(6,.pointer (some ⟨b6,0,none⟩)),(0,bp b),(1,.int .i64 i)] →br LG ax w S ow W S bX→GM W S bX b ({R with told:=v}.cells (p5 x g).bad) {R with told:=v} (p5 x g)→(p5 x g).told.length≤300000000001→Q .normal a W):Il.wp Try.prog Q a w:=by
 have LH:=na RN x (ca hj)
 have lZ:j<cs.length:=(aH.1 hj).1
 generalize fY:(cD 0 x).aq=n at h0 hn
 unfold Il
 refine wp_seq (rg ax hQ am7 ?_)
 intro w1 e1
 have eZ:=gm.bu e1
 have RY:=lo.bu e1
 have j8:=(br.refl LG ax w S ow).ba gm.wf gm.wf (br.bu e1 ax ax S ow) (fun _ h=>h.elim)
 have s0:=SX.refl ax w1
 obtain⟨bx,ox,cx,ux,Xb,hSx,PH,hcx,R6,Hf,afp⟩:=Ii (pT.bw (br.bu e1 ax ax S ow)) hj LH
 have hbx:=eZ.wf.s _ _ hSx
 obtain⟨hcr,XP,jL,wW,Uo⟩:=Cz LH PH R6
 repeat (first|refine sm k fun a k=> ?_|refine ld k (RY.cell (fun h=>h) N1) fun a k=> ?_)
 rw[Xb]at k
 refine qE (el:=78) (sz:=29) k (by assumption) rfl (by decide) rfl rfl (by kernel_rfl) (by kernel_rfl) (by omega) (by omega) fun a k=> ?_
 rw[cE]at k
 refine lN (vs:=ux) k rfl PH (fun w' lu q v hv=>gf hbx (fun h=>h) (hcx q v hv) w' lu) fun a k=> ?_
 refine oO (nn:=29) k (by decide) rfl (by decide) (by kernel_rfl) (fun zs _=>SX.alloc _ _ _) fun zs yl a k=> ?_
 refine pX (vs:=ux) (cur:=zs.toArray) k (by decide) rfl (by rw[PH];kernel_rfl) rfl rfl rfl (heap_alloc_new w1 _) (by rw[cS];omega) Uo (fun h=>absurd rfl h) fun a k=> ?_
 refine aJ ?_
 rw[fill_eq yl PH]
 obtain⟨gI,jn,Jc⟩:=ql (T:=78) (zs:=zs) (us:=ux) eZ.wf
 have jB:=eZ.bw gI jn
 have h9:w.heap.size≤w1.heap.size:=j8.size
 have tE:=RY.bw gI (fun e=>by have:=RY.lt;rw[show b6=w1.heap.size from e]at this;omega)
 have sA:=j8.ba gm.wf eZ.wf gI (fun bb hb=>by rw[show bb=_ from hb];exact h9)
 have P6: ∀(q:Nat) u c,ux[q]? =some u→x.cells[q]? =some c→cH _ S u c:=fun q u c h1 h2=>(R6 q u c h1 h2).bw gI
 generalize hb9:w1.heap.size=b9 at k Jc h9 sA jB tE P6⊢
 generalize hW2:(w1.alloc _).setRow b9 _=w2 at Jc sA jB tE P6⊢
 have k:=k.sub (l:=[(9,.pointer (some ⟨b9,0,none⟩)),(8,.int .i64 j),(6,.pointer (some ⟨b6,0,none⟩)),(0,bp b),(1,.int .i64 i)]) ⟨rfl,rfl,rfl,rfl,rfl,trivial⟩
 clear gI jn hW2 hcr Xb hSx hcx afp hbx R6 s0 j8 RY eZ e1
 rw[fY]at jL
 refine wp_seq (Qv (fun c a d v w h=>hQ c a d v w h) jB Jc jL h0 hn AU k ?_)
 intro a w3 qo v3 k iQ iV aeV
 have EY:=Jc.bw iQ (fun h=>h)
 have tD:=tE.bw iQ (fun h=>h)
 have sB:=o5 gm.wf jB.wf sA iQ (fun _ h=>h.elim)
 have alf: ∀(q:Nat) u c,ux[q]? =some u→x.cells[q]? =some c→cH w3 S u c:=fun q u c h1 h2=>(P6 q u c h1 h2).bw iQ
 have bP:=Re (l:=g.told) h0
 have hN:((n.toNat:Nat):Int)=n:=Int.toNat_of_nonneg h0
 obtain⟨y,hy⟩: ∃y,(lT g.told n)[n.toNat]? =some y:=⟨_,aW bP⟩
 have hyd:(lT g.told n).getD n.toNat .top=y:=by rw[av,hy,bL]
 have hhy:Has eP y:=iV.told.all y (ca hy)
 clear P6 Jc jB tE sA iQ
 refine wp_seq (lR (n0:=8) ax mix (fun c a d v w h=>hQ c a d v w h) af2 (fun _=>by kernel_rfl) ?_)
 intro w4 e4
 have mh:=iV.bu e4
 have ui:=EY.bu e4
 have zU:=tD.bu e4
 have sC:=sB.ba gm.wf iV.wf (br.bu e4 ax ax S qo) (fun _ h=>h.elim)
 have s0:=SX.refl ax w4
 obtain⟨bt,Da,uy,yg,Aa,Jq,L4,aeT,hry⟩:=mh.told.elem hy
 rw[nj]at L4 aeT
 obtain⟨av7,awa,Z4,hy1,aoj⟩:=Cz hhy L4 hry
 repeat (first|refine sm k fun a k=> ?_|refine ld k (ui.cell (fun h=>h) jL) fun a k=> ?_|refine ld k (mh.cell (fun h=>h) rfl) fun a k=> ?_)
 rw[←hN]at k
 rw[yg]at k
 refine CH (el:=78) (sz:=29) k rfl rfl bP fun a k=> ?_
 refine lN (vs:=uy) k rfl L4 (fun w' lu q v hv=>gf Aa (fun h=>h) (aeT q v hv) w' lu) fun a k=> ?_
 refine oO (nn:=29) k (by decide) rfl (by decide) (by kernel_rfl) (fun zs _=>SX.alloc _ _ _) fun zs yl a k=> ?_
 refine pX (vs:=uy) (cur:=zs.toArray) k (by decide) rfl (by rw[L4];kernel_rfl) rfl rfl rfl (heap_alloc_new w4 _) (by rw[cS];omega) aoj (fun h=>absurd rfl h) fun a k=> ?_
 refine aJ ?_
 rw[fill_eq yl L4]
 obtain⟨mw,Jl,ly5⟩:=ql (T:=78) (zs:=zs) (us:=uy) mh.wf
 have my:=mh.bw mw Jl
 have RR:w.heap.size≤w4.heap.size:=sC.size
 have FQ:=zU.bw mw (fun e=>by have:=zU.lt;rw[show b6=w4.heap.size from e]at this;omega)
 have AS:=ui.bw mw (fun e=>by have:=ui.lt;rw[show b9=w4.heap.size from e]at this;omega)
 have sD:=sC.ba gm.wf mh.wf mw (fun bb hb=>by rw[show bb=_ from hb];exact RR)
 have Yj: ∀(q:Nat) u c,ux[q]? =some u→x.cells[q]? =some c→cH _ S u c:=fun q u c h1 h2=>((alf q u c h1 h2).bw (br.bu e4 ax ax S qo)).bw mw
 have Yi: ∀(q:Nat) u c,uy[q]? =some u→y.cells[q]? =some c→cH _ S u c:=fun q u c h1 h2=>(hry q u c h1 h2).bw mw
 generalize aBQ:w4.heap.size=b10 at k ly5 RR sD my FQ AS Yj Yi⊢
 generalize hW5:(w4.alloc _).setRow b10 _=w5 at ly5 sD my FQ AS Yj Yi⊢
 have k:=k.sub (l:=[(10,.pointer (some ⟨b10,0,none⟩)),(9,.pointer (some ⟨b9,0,none⟩)),(8,.int .i64 j),(6,.pointer (some ⟨b6,0,none⟩)),(0,bp b),(1,.int .i64 i)]) ⟨rfl,rfl,rfl,rfl,rfl,rfl,trivial⟩
 clear mw Jl hW5 yg Aa Jq aeT hry av7 s0 sC zU ui mh e4 alf sB tD EY iV
 refine wp_seq (rg ax hQ af1 ?_)
 intro w6 e6
 have wQ:=my.bu e6
 have RE:=AS.bu e6
 have lo6:=FQ.bu e6
 have ly6:=ly5.bu e6
 have sE:=sD.ba gm.wf my.wf (br.bu e6 ax ax S qo) (fun _ h=>h.elim)
 have s0:=SX.refl ax w6
 have ae1: ∀(q:Nat) u c,ux[q]? =some u→x.cells[q]? =some c→cH w6 S u c:=fun q u c h1 h2=>(Yj q u c h1 h2).bw (br.bu e6 ax ax S qo)
 have ale: ∀(q:Nat) u c,uy[q]? =some u→y.cells[q]? =some c→cH w6 S u c:=fun q u c h1 h2=>(Yi q u c h1 h2).bw (br.bu e6 ax ax S qo)
 repeat refine sm k fun a k=> ?_
 refine lN (vs:=ux.drop 2) k rfl (by rw[bF,PH]) (fun w' lu q v hv=>by
  rw[aO]at hv
  rw[ay]
  exact RE.cell (fun h=>h) hv w' lu) fun a k=> ?_
 repeat refine sm k fun a k=> ?_
 refine lN (vs:=uy.drop 2) k rfl (by rw[bF,L4]) (fun w' lu q v hv=>by
  rw[aO]at hv
  rw[ay]
  exact ly6.cell (fun h=>h) hv w' lu) fun a k=> ?_
 refine j3 (vs:=[.agg (ux.drop 2).toArray,.agg (uy.drop 2).toArray]) k (by decide) rfl (by decide) c31.enter rfl (wJ (dd:=[Fx x,Fx y]) (c:=Mf (Fx x) (Fx y)) c31 wQ.wf rfl (fun q v d hv hd=>by
  match q,hv,hd with
  |0,hv,hd=>injection hv with hv;injection hd with hd;subst hv hd;exact(Cz LH PH ae1).1
  |1,hv,hd=>injection hv with hv;injection hd with hd;subst hv hd;exact(Cz hhy L4 ale).1) (aj.2 ⟨_,_,rfl,XP,aj.2 ⟨_,_,rfl,awa,dr.2 rfl⟩⟩) trivial rfl) ?_
 rintro e w7 ⟨rfl,pR,Je⟩
 refine⟨_,rfl,fun _=>pR.I8 _,fun a k=> ?_⟩
 have s1:=pR.I8 ax
 repeat refine sm k fun a k=> ?_
 refine aJ ?_
 have LN:=wQ.bw pR Je
 have lx7:=RE.bw pR (fun h=>h)
 have lo7:=lo6.bw pR (fun h=>h)
 have ly7:=ly6.bw pR (fun h=>h)
 have sF:=sE.ba gm.wf wQ.wf pR (fun _ h=>h.elim)
 have avq: ∀(q:Nat) u c,ux[q]? =some u→x.cells[q]? =some c→cH w7 S u c:=fun q u c h1 h2=>(ae1 q u c h1 h2).bw pR
 generalize F8:Mf (Fx x) (Fx y)=same at k
 have k:=k.sub (l:=[(11,.bool same),(10,.pointer (some ⟨b10,0,none⟩)),(9,.pointer (some ⟨b9,0,none⟩)),(8,.int .i64 j),(6,.pointer (some ⟨b6,0,none⟩)),(0,bp b),(1,.int .i64 i)]) ⟨rfl,rfl,rfl,rfl,rfl,rfl,rfl,trivial⟩
 clear pR Je s1 s0 sE lo6 RE ly6 wQ e6 ae1 ale Yj Yi sD FQ AS ly5 my
 have last: ∀(a:Act) (W:World) (c:Bool),GM W S qo b ({R with told:=v3}.cells c) {R with told:=v3} {g with told:=lT g.told n,bad:=c}→iH W S qo b9 78 ux→(∀(q:Nat) u c,ux[q]? =some u→x.cells[q]? =some c→cH W S u c)→br LG ax w S ow W S qo→
   c=(g.bad||((cD 0 y).aq !=0&&((cD 1 y).aq !=(cD 1 x).aq|| !same)))→Kn 109 a [(9,.pointer (some ⟨b9,0,none⟩)),(8,.int .i64 j),(6,.pointer (some ⟨b6,0,none⟩)),(0,bp b),(1,.int .i64 i)] →(Code.region 15 DB true).wp Try.prog Q a W:=by
  intro a W c gm lx R6 st hc k
  refine lR (n0:=7) ax mix (fun c a d v w h=>hQ c a d v w h) afY (fun _=>by kernel_rfl) ?_
  intro w8 e8
  have r8:=gm.bu e8
  have G7:=lx.bu e8
  have uh:=st.ba ‹GM w S ow b (R.cells g.bad) R g›.wf gm.wf (br.bu e8 ax ax S qo) (fun _ h=>h.elim)
  have s0:=SX.refl ax w8
  obtain⟨bt,Da,cur,yg,kR,lz,Aa,Jq,CF,Lz,Cg⟩:=r8.told.set (i:=n.toNat) (d:=x) (us:=ux) r8.wf bP LH (by rw[nj];exact PH) (fun q u c h1 h2=>(R6 q u c h1 h2).bw (br.bu e8 ax ax S qo))
  rw[nj]at lz CF Lz Cg
  repeat (first|refine sm k fun a k=> ?_|refine ld k (r8.cell (fun h=>h) rfl) fun a k=> ?_)
  refine ld k (G7.cell (fun h=>h) jL) fun a k=> ?_
  refine lN (vs:=ux) k rfl PH (fun w' lu q v hv=>by rw[ay];exact G7.cell (fun h=>h) hv w' lu) fun a k=> ?_
  rw[←hN]at k
  rw[yg]at k
  refine CH (el:=78) (sz:=29) k rfl rfl bP fun a k=> ?_
  refine pX (vs:=ux) (cur:=cur) k (by decide) rfl (by rw[PH];kernel_rfl) rfl rfl rfl kR lz Uo (fun h=>absurd rfl h) fun a k=> ?_
  refine aJ ?_
  have Jy:=r8.Kk CF Lz Cg
  have Si:p5 x g={g with told:=(lT g.told n).set n.toNat x,bad:=c}:=by
   unfold p5;simp only;rw[fY,hyd,F8,hc]
  refine jt _ _ qo v3 (k.sub ⟨rfl,rfl,rfl,rfl,trivial⟩) (uh.gX ‹GM w S ow b (R.cells g.bad) R g›.wf r8.wf CF (.inl (by decide))) ?_ ?_
  ·rw[Si];exact Jy
  ·rw[Si];show((lT g.told n).set n.toNat x).length≤_;rw[bE];exact aeV
 refine wp_seq (wp_seq (rg ax hQ af0 ?_))
 intro w8 e8
 have r8:=LN.bu e8
 have G7:=lx7.bu e8
 have ly8:=ly7.bu e8
 have sG:=sF.ba gm.wf LN.wf (br.bu e8 ax ax S qo) (fun _ h=>h.elim)
 have ae0: ∀(q:Nat) u c,ux[q]? =some u→x.cells[q]? =some c→cH w8 S u c:=fun q u c h1 h2=>(avq q u c h1 h2).bw (br.bu e8 ax ax S qo)
 have s0:=SX.refl ax w8
 repeat (first|refine sm k fun a k=> ?_|refine ld k (ly8.cell (fun h=>h) Z4) fun a k=> ?_)
 have mark: ∀(a:Act),Kn 109 a [(9,.pointer (some ⟨b9,0,none⟩)),(8,.int .i64 j),(6,.pointer (some ⟨b6,0,none⟩)),(0,bp b),(1,.int .i64 i)] →(g.bad||((cD 0 y).aq !=0&&((cD 1 y).aq !=(cD 1 x).aq|| !same)))=true→(Code.region 14 HX false).wp Try.prog (Exit.then (Code.wp Try.prog (.region 15 DB true) Q) Q) a w8:=by
  intro a k hb
  refine rg ax hQ afZ ?_
  intro w9 e9
  have Jy:=r8.bu e9
  have W5:=G7.bu e9
  have Lw:=sG.ba gm.wf r8.wf (br.bu e9 ax ax S qo) (fun _ h=>h.elim)
  have s0:=SX.refl ax w9
  repeat refine sm k fun a k=> ?_
  refine mW (cur:={R with told:=v3}.cells g.bad) k (by decide) rfl (by kernel_rfl) rfl rfl rfl Jy.obj.heap (by show 10<11;omega) rfl (fun h=>absurd rfl h) fun a k=> ?_
  obtain⟨h1,h2⟩:=Jy.CD true
  exact aJ (last _ _ true h2 (W5.bw h1 (fun h=>h)) (fun q u c z1 z2=>((ae0 q u c z1 z2).bw (br.bu e9 ax ax S qo)).bw h1) (Lw.gX gm.wf Jy.wf h1 (.inl (by decide))) hb.symm (k.sub ⟨rfl,rfl,rfl,rfl,rfl,trivial⟩))
 by_cases hz:(cD 0 y).aq=0
 ·refine cm (c:=false) k rfl rfl (by rw[hz];rfl) fun a k=> ?_
  repeat refine sm k fun a k=> ?_
  refine Tu k (by assumption) rfl rfl (by decide) fun a k=> ?_
  refine Tu k (by assumption) rfl rfl (by decide) fun a k=> ?_
  repeat refine sm k fun a k=> ?_
  refine pk k rfl rfl fun a k=> ?_
  refine aJ (bz k rfl (wp_skip ?_))
  exact last _ _ g.bad r8 G7 ae0 sG (by rw[hz];cases g.bad<;>rfl) (k.sub ⟨rfl,rfl,rfl,rfl,rfl,trivial⟩)
 have NZ:((cD 0 y).aq !=0)=true:=by simpa using hz
 refine cm (c:=true) k rfl rfl (congrArg some NZ) fun a k=> ?_
 repeat (first|refine sm k fun a k=> ?_|refine ld k (G7.cell (fun h=>h) wW) fun a k=> ?_|refine ld k (ly8.cell (fun h=>h) hy1) fun a k=> ?_)
 by_cases hq:((cD 1 y).aq !=(cD 1 x).aq)=true
 ·refine cm (c:=true) k rfl rfl (congrArg some hq) fun a k=> ?_
  repeat refine sm k fun a k=> ?_
  refine pk k rfl rfl fun a k=> ?_
  refine pk k rfl rfl fun a k=> ?_
  refine aJ (bz k rfl (mark a (k.sub ⟨rfl,rfl,rfl,rfl,rfl,trivial⟩) ?_))
  rw[NZ,hq];cases g.bad<;>rfl
 have Hd:((cD 1 y).aq !=(cD 1 x).aq)=false:=by simpa using hq
 refine cm (c:=false) k rfl rfl (congrArg some Hd) fun a k=> ?_
 repeat refine sm k fun a k=> ?_
 refine uO k (by assumption) rfl (by decide) rfl fun a k=> ?_
 refine pk k rfl rfl fun a k=> ?_
 refine pk k rfl rfl fun a k=> ?_
 refine aJ (bz k rfl ?_)
 cases same with
 |true=>
  refine wp_skip (last _ _ g.bad r8 G7 ae0 sG (by rw[Hd];cases g.bad<;>simp) (k.sub ⟨rfl,rfl,rfl,rfl,rfl,trivial⟩))
 |false=>
  refine mark a (k.sub ⟨rfl,rfl,rfl,rfl,rfl,trivial⟩) ?_
  rw[NZ];cases g.bad<;>simp
end
def C6(o:D)(lost:Bool)(g:GS):GS:=if g.kI.length<400∧lost=false then{g with kI:=g.kI++(cD 5 o).aV} else g
def lJ(cs:List D)(g:GS):GS:=cs.foldl (fun g x=>p5 x g) g
def uJ(i:Nat)(o:D)(lost:Bool)(g:GS):GS:=ph i (lJ (cD 6 o).aV (C6 o lost (if(cD 0 o).gV then p6 i o g else g)))
structure XT(g g':GS):Prop where
 iC:g'.iC=g.iC
 dL:g'.dL=g.dL
 bJ:g'.bJ=g.bJ
 bR:g'.bR=g.bR
 saved:g'.saved.length=g.saved.length
theorem XT.trans{g g' g'':GS}(h:XT g g')(k:XT g' g''):XT g g'':=⟨k.iC.trans h.iC,k.dL.trans h.dL,k.bJ.trans h.bJ,k.bR.trans h.bR,k.saved.trans h.saved⟩
theorem XT.al4{g g':GS}(h:XT g g')(k:Fy g):Fy g':=by
 obtain⟨h1,h2,h3,h4,h5⟩:=h
 exact⟨by rw[h1];exact k.n5,by rw[h1,h2];exact k.dL,by rw[h1,h3];exact k.bJ,by rw[h1,h5];exact k.saved,by rw[h4];exact k.lead,by rw[h3];exact k.vl⟩
theorem WS(i:Nat)(o:D)(g:GS):XT g (p6 i o g):=⟨rfl,rfl,rfl,rfl,by unfold p6;simp⟩
theorem WR(x:D)(g:GS):XT g (p5 x g):=⟨rfl,rfl,rfl,rfl,rfl⟩
theorem GZ: ∀(l:List D) (g:GS),XT g (lJ l g)
 | [],g=>⟨rfl,rfl,rfl,rfl,rfl⟩
 |x::r,g=>(WR x g).trans (GZ r _)
theorem Lb{cs:List D}{j:Nat}{x:D}(h:cs[j]? =some x)(g:GS):lJ (cs.take (j+1)) g=p5 x (lJ (cs.take j) g):=by
 have hj:cs.take (j+1)=cs.take j++[x] :=by rw[dj,h];rfl
 unfold lJ
 rw[hj,List.foldl_append]
 rfl
theorem QW:mj.bytes≤1000:=by decide+kernel
theorem Q4{n:Nat}(h:n≤100000000000):oG mj n:=by
 refine⟨by simp only[maxLen];omega,?_⟩
 have:n*mj.bytes≤100000000000*1000:=Nat.mul_le_mul h QW
 omega
section
variable{w0 w:World}{S0 S:bU}{og ow:Ow}{b b6 b9 i:Nat}{g g':GS}{R:GR}{Q:Exit→Act→World→Prop}{a:Act}{vo xs:List Value}{j:Nat}{n:Int}{A6:Option Addr}{c6:Nat}{cs:List D}{x:D}
noncomputable def y8:Code:=.seq (.seq (.region 5 Ub false) (.block 0 (.loop (.seq (.seq (.region 6 Ua false) (.cond (.tmp 42) .skip (.exit 0))) (.seq (.block 1 Il) (.region 7 T9 false)))))) (.region 16 HW false)
def Kj(w:World)(S:bU)(ow:Ow)(b:Nat)(g':GS):Exit→Act→World→Prop:=bodyPost Try.prog Try.f14 (pZ w S ow b g')
theorem Gj(hQ:QP Q)(ra: ∀a w,Kj w0 S0 og b g' .normal a w→Q .normal a w)(gO:Wf w0 S0 og)(st:br LG ax w0 S0 og w S ow)(gm:GM w S ow b (R.cells g.bad) R g)(j6:R.la=R.lb)(me:R.va=R.vv)(hl:Fy g)(hi:i<g.iC.length)(cI:Ok (ka g i) 0)(lo:iH w S ow b6 75 vo)(N1:vo[6]? =some (.slice A6 cs.length c6))(pT:cH w S (.slice A6 cs.length c6) (.list cs))(RN:Has (.list eP) (.list cs))
  (kP: ∀x∈cs,0≤(cD 0 x).aq∧(cD 0 x).aq≤300000000000) (AU:g.told.length≤300000000001) (hg:g'=ph i (lJ cs g)) (k:Kn 109 a [(6,.pointer (some ⟨b6,0,none⟩)),(0,bp b),(1,.int .i64 i)]):y8.wp Try.prog Q a w:=by
 have jY:cs.length≤maxLen:=by
  obtain⟨l',h1,h2,_⟩:=bK.1 RN
  injection h1 with h1;subst h1;exact h2.1
 have He:maxLen≤9223372036854775807:=by decide
 unfold y8
 refine wp_seq (wp_seq (rg ax hQ ana ?_))
 intro w1 e1
 have eZ:=gm.bu e1
 have s0:=SX.refl ax w1
 repeat refine sm k fun a k=> ?_
 refine aJ ?_
 have j8:=(br.refl LG ax w S ow).ba gm.wf gm.wf (br.bu e1 ax ax S ow) (fun _ h=>h.elim)
 refine wp_block (wp_loop_ghost (fun mm a W=> ∃(j:Nat) (v:Value) (fE:Ow),mm=cs.length-j∧j≤cs.length∧Kn 109 a [(8,.int .i64 j),(6,.pointer (some ⟨b6,0,none⟩)),(0,bp b),(1,.int .i64 i)] ∧br LG ax w S ow W S fE∧
  GM W S fE b ({R with told:=v}.cells (lJ (cs.take j) g).bad) {R with told:=v} (lJ (cs.take j) g)∧(lJ (cs.take j) g).told.length≤300000000001) (cs.length-0)
  ⟨0,R.told,ow,rfl,bf _,k.sub ⟨rfl,rfl,rfl,rfl,trivial⟩,j8,eZ,AU⟩ ?_)
 clear k eZ j8 s0 e1 w1
 rintro mm a W ⟨j,v,fE,rfl,lZ,k,j8,eZ,htj⟩
 have RY:=lo.bw j8 (fun h=>h)
 refine wp_seq (wp_seq (rg ax hQ am9 ?_))
 intro w2 e2
 have jB:=eZ.bu e2
 have tE:=RY.bu e2
 have gI:=j8.ba gm.wf eZ.wf (br.bu e2 ax ax S fE) (fun _ h=>h.elim)
 have s0:=SX.refl ax w2
 repeat (first|refine sm k fun a k=> ?_|refine ld k (tE.cell (fun h=>h) N1) fun a k=> ?_)
 refine cm (c:=decide ((j:Int)<(cs.length:Int))) k rfl rfl rfl fun a k=> ?_
 refine aJ (bz k rfl ?_)
 have k:=k.sub (l:=[(8,.int .i64 j),(6,.pointer (some ⟨b6,0,none⟩)),(0,bp b),(1,.int .i64 i)]) ⟨rfl,rfl,rfl,rfl,trivial⟩
 by_cases bP:(j:Int)<(cs.length:Int)
 ·rw[if_pos (by simpa using bP)]
  refine wp_skip ?_
  obtain⟨x,hx⟩: ∃x,cs[j]? =some x:=⟨_,aW (by omega)⟩
  obtain⟨jL,wW⟩:=kP x (ca hx)
  have ht:=Lb hx g
  refine wp_seq (wp_block (take_one (fun c a d v w h=>hQ c a d v w h) jB tE N1 (pT.bw gI) RN hx jL wW htj k ?_))
  intro a w3 qo v3 k iQ iV aeV
  refine rg ax hQ am8 ?_
  intro w4 e4
  have s0:=SX.refl ax w4
  repeat refine sm k fun a k=> ?_
  refine lI (s:=((j+1:Nat):Int)) k (by assumption) rfl (by decide) rfl rfl (wrap64 (by omega) (by omega)) fun a k=> ?_
  repeat refine sm k fun a k=> ?_
  refine aJ ⟨cs.length-(j+1),by omega,j+1,v3,qo,rfl,by omega,k.sub ⟨rfl,rfl,rfl,rfl,trivial⟩,(o5 gm.wf jB.wf gI iQ (fun _ h=>h.elim)).ba gm.wf iV.wf (br.bu e4 ax ax S qo) (fun _ h=>h.elim),?_,?_⟩
  ·rw[ht];exact iV.bu e4
  ·rw[ht];exact aeV
 ·rw[if_neg (by simpa using bP)]
  refine wp_exit ?_
  have Jr:j=cs.length:=by omega
  subst Jr
  rw[fS]at jB
  show(Code.region 16 HW false).wp Try.prog Q a w2
  refine rg ax hQ afX ?_
  intro w3 e3
  have iV:=jB.bu e3
  have iQ:=(o5 gO gm.wf st gI (fun _ h=>h.elim)).ba gO jB.wf (br.bu e3 ax ax S fE) (fun _ h=>h.elim)
  have s0:=SX.refl ax w3
  repeat refine sm k fun a k=> ?_
  have Tm:=GZ cs g
  have hgr:nw w3 S fE b (lJ cs g):=⟨_,iV,j6,me⟩
  refine j3 (vs:=[bp b,.int .i64 i]) k (by decide) rfl (by decide) Pk rfl (Ev hgr (Tm.al4 hl) (by rw[Tm.iC];exact hi) (by unfold ka;rw[Tm.iC];exact cI)) ?_
  rintro e w4 ⟨S',bX,rfl,jX,LJ⟩
  refine⟨_,rfl,fun h=>absurd rfl h,fun a k=> ?_⟩
  refine aJ (ra _ _ (nU amm k ⟨S',bX,rfl,o5 gO iV.wf iQ jX (fun _ h=>h.elim),by rw[hg];exact LJ⟩).2)
noncomputable def Pb:Code:=.seq (.seq (.region 3 Ud false) (.cond (.tmp 27) (.region 4 Uc true) .skip)) y8
theorem Ki{A5:Option Addr}{c5:Nat}{ms:List D}{o:D}{lost:Bool}(hQ:QP Q)(ra: ∀a w,Kj w0 S0 og b g' .normal a w→Q .normal a w)(gO:Wf w0 S0 og)(st:br LG ax w0 S0 og w S ow)(gr:nw w S ow b g)(hl:Fy g)(hi:i<g.iC.length)(cI:Ok (ka g i) 0)(lo:iH w S ow b6 75 vo)(N1:vo[6]? =some (.slice A6 cs.length c6))(pT:cH w S (.slice A6 cs.length c6) (.list cs))(RN:Has (.list eP) (.list cs))
  (hvm:vo[5]? =some (.slice A5 ms.length c5)) (hrm:cH w S (.slice A5 ms.length c5) (.list ms)) (hhm:Has (.list mj) (.list ms)) (Xf:ms.length≤5000000000) (ho5:(cD 5 o).aV=ms)
  (kP: ∀x∈cs,0≤(cD 0 x).aq∧(cD 0 x).aq≤300000000000) (AU:g.told.length≤300000000001) (hg:g'=ph i (lJ cs (C6 o lost g))) (k:Kn 109 a [(3,.bool lost),(6,.pointer (some ⟨b6,0,none⟩)),(0,bp b),(1,.int .i64 i)]):Pb.wp Try.prog Q a w:=by
 obtain⟨R,gm,j6,me⟩:=gr
 unfold Pb
 refine wp_seq (wp_seq (rg ax hQ anc ?_))
 intro w1 e1
 have eZ:=gm.bu e1
 have RY:=lo.bu e1
 have j8:=st.ba gO gm.wf (br.bu e1 ax ax S ow) (fun _ h=>h.elim)
 have s0:=SX.refl ax w1
 have go: ∀(a:Act),C6 o lost g=g→Kn 109 a [(6,.pointer (some ⟨b6,0,none⟩)),(0,bp b),(1,.int .i64 i)] →y8.wp Try.prog Q a w1:=by
  intro a he k
  rw[he]at hg
  exact Gj hQ ra gO j8 eZ j6 me hl hi cI RY N1 (pT.bw (br.bu e1 ax ax S ow)) RN kP AU hg k
 obtain⟨A,cap,hv⟩:=eZ.kI.slice
 repeat (first|refine sm k fun a k=> ?_|refine ld k (eZ.cell (fun h=>h) rfl) fun a k=> ?_)
 rw[hv]at k
 repeat refine sm k fun a k=> ?_
 by_cases hc:decide ((g.kI.length:Int)<400)=true
 ·refine cm (c:=true) k rfl rfl (congrArg some hc) fun a k=> ?_
  repeat refine sm k fun a k=> ?_
  refine uO k (by assumption) rfl (by decide) rfl fun a k=> ?_
  refine pk k rfl rfl fun a k=> ?_
  refine aJ (bz k rfl ?_)
  cases lost with
  |true=>
   refine wp_skip (go a (by unfold C6;rw[if_neg (by simp)]) (k.sub ⟨rfl,rfl,rfl,trivial⟩))
  |false=>
   have k:=k.sub (l:=[(6,.pointer (some ⟨b6,0,none⟩)),(0,bp b),(1,.int .i64 i)]) ⟨rfl,rfl,rfl,trivial⟩
   refine lR (n0:=7) (fun bb=>ow bb=some 11) mix (fun c a d v w h=>hQ c a d v w h) anb (fun _=>by kernel_rfl) ?_
   intro w2 e2
   have jB:=eZ.bu e2
   have tE:=RY.bu e2
   have gI:=j8.ba gO eZ.wf (br.bu e2 ax ax S ow) (fun _ h=>h.elim)
   have s0:=SX.refl (fun bb=>ow bb=some 11) w2
   have vJ: ¬ow b=some 11:=by rw[jB.obj.ow];decide
   have PD: ¬ow b6=some 11:=by rw[tE.ow];intro e;cases e
   repeat (first|refine sm k fun a k=> ?_|refine ld k (tE.cell PD hvm) fun a k=> ?_|refine ld k (jB.cell vJ rfl) fun a k=> ?_)
   refine yq k (by decide) rfl (by decide) fun ty pos af=> ?_
   obtain⟨A',c',news,E7,hA,yo,zZ,BS⟩:=((hrm.bw (br.bu e1 ax ax S ow)).bw (br.bu e2 ax ax S ow)).source (fun d hd=>(cN (na hhm d hd)).1)
   injection E7 with hxA _ W8
   subst hxA W8
   obtain⟨v',w',fh,bX,iQ,tG,XJ⟩:=jB.kI.pv (P:=Try.prog) (tt:=56) (ys:=ms) (by kernel_rfl) rfl jB.wf ty A5 c5 news hA yo zZ (na hhm) BS (Q4 (by have:=of_decide_eq_true hc;omega))
   have s1:SX (fun bb=>ow bb=some 11) w2 w':=SX.jD (fun _ h=>h) iQ
   refine⟨v',w',k8 (k.op rfl) (k.op rfl) fh,fun _=>s1,fun a k=> ?_⟩
   have iV:=jB.OZ iQ tG XJ
   have tD:=tE.bw iQ (fun h=>h)
   have LR:=gI.gX gO jB.wf iQ (.inl (by decide))
   obtain⟨Av,cv,pn⟩:=XJ.slice
   repeat refine sm k fun a k=> ?_
   refine mW (cur:=R.cells g.bad) k (by decide) rfl (by kernel_rfl) rfl rfl (by rw[pn];rfl) iV.obj.heap (by show 4<11;omega) (by rw[pn];rfl) (fun h=>absurd rfl h) fun a k=> ?_
   refine aJ ?_
   obtain⟨jX,tU,ho4⟩:=iV.obj.set tG (us:=(R.cells g.bad).set 4 v')
   have mh:=iV.setObj jX tU ho4
   have zU:=tD.bw jX (fun h=>h)
   have atL:=LR.gX gO tG jX (.inl (by decide))
   have he:C6 o false g={g with kI:=g.kI++ms}:=by unfold C6;rw[if_pos ⟨by have:=of_decide_eq_true hc;omega,rfl⟩,ho5]
   rw[he]at hg
   exact Gj (R:={R with kI:=v'}) (g:={g with kI:=g.kI++ms}) hQ ra gO atL mh j6 me ⟨hl.n5,hl.dL,hl.bJ,hl.saved,hl.lead,hl.vl⟩ hi cI zU N1 ((((pT.bw (br.bu e1 ax ax S ow)).bw (br.bu e2 ax ax S ow)).bw iQ).bw jX) RN kP AU hg (k.sub ⟨rfl,rfl,rfl,trivial⟩)
 ·refine cm (c:=false) k rfl rfl (congrArg some (dF.2 hc)) fun a k=> ?_
  repeat refine sm k fun a k=> ?_
  refine pk k rfl rfl fun a k=> ?_
  refine aJ (bz k rfl (wp_skip ?_))
  exact go a (by unfold C6;rw[if_neg (by rintro⟨h1,_⟩;exact hc (decide_eq_true (by omega)))]) (k.sub ⟨rfl,rfl,rfl,trivial⟩)
end
theorem xQ{w:World}{S:bU}{ow:Ow}{b i:Nat}{g:GS}{vo:Value}{o:D}{lost:Bool}(h:nw w S ow b g)(hn:yj ow)(hl:Fy g)(hi:i<g.iC.length)(cI:Ok (ka g i) 0)(ho:cH w S vo o)(FT:Has JD o)(hsn:cD 4 o= .gW)(iY:(cD 7 (g.saved.getD i .top)).aV.length+(cD 3 o).aV.length≤300000000000)(Xf:(cD 5 o).aV.length≤5000000000)
  (kP: ∀x∈(cD 6 o).aV,0≤(cD 0 x).aq∧(cD 0 x).aq≤300000000000) (AU:g.told.length≤300000000001):
  Calls Try.prog 14 [bp b,.int .i64 i,vo,.bool lost].toArray w (pZ w S ow b (uJ i o lost g)):=by
 obtain⟨co,Xo,rfl,rfl,uE,Ys,qB,L8,kv⟩:=Mg ho FT rfl
 obtain⟨c0,c1,c2,c3,c4,c5,c6,c7,rfl⟩: ∃c0 c1 c2 c3 c4 c5 c6 c7,co=[c0,c1,c2,c3,c4,c5,c6,c7] :=by
  have Uz:co.length=8:=uE
  match co,Uz with
  | [c0,c1,c2,c3,c4,c5,c6,c7],_=>exact⟨c0,c1,c2,c3,c4,c5,c6,c7,rfl⟩
 obtain⟨d0,d1,d2,d3,d4,d5,d6,d7,rfl⟩: ∃c0 c1 c2 c3 c4 c5 c6 c7,Xo=[c0,c1,c2,c3,c4,c5,c6,c7] :=by
  have Uw:Xo.length=8:=Ys
  match Xo,Uw with
  | [c0,c1,c2,c3,c4,c5,c6,c7],_=>exact⟨c0,c1,c2,c3,c4,c5,c6,c7,rfl⟩
 obtain⟨x0,jL,hh0⟩:=dY L8 0 .bool (by rw[Ty.fa];rfl)
 injection jL with jL
 subst jL
 obtain⟨sv,rfl⟩:=hh0
 obtain rfl:=(qB 0 _ _ rfl rfl).iE
 obtain⟨x5,PE,hh5⟩:=dY L8 5 (.list mj) (by rw[Ty.fa];rfl)
 injection PE with PE
 subst PE
 obtain⟨x6,PD,hh6⟩:=dY L8 6 (.list eP) (by rw[Ty.fa];rfl)
 injection PD with PD
 subst PD
 have Tc:d5.aV.length≤5000000000:=Xf
 have Ag: ∀x∈d6.aV,0≤(cD 0 x).aq∧(cD 0 x).aq≤300000000000:=kP
 obtain⟨hd5,A5,q5,hc5⟩:=yR (qB 5 _ _ rfl rfl) hh5
 obtain⟨hd6,A6,q6,hc6⟩:=yR (qB 6 _ _ rfl rfl) hh6
 subst hc5 hc6
 have hr5:=qB 5 _ _ rfl rfl
 have RJ:=qB 6 _ _ rfl rfl
 generalize hms:d5.aV=ms at hd5 hr5 qB kv Tc ho
 generalize aBO:d6.aV=cs at hd6 RJ qB kv Ag ho
 subst hd5 hd6
 have iB:Wf w S ow:=by obtain⟨R,gm,_⟩:=h;exact gm.wf
 refine lU Try.func14 U3 ahl auW (by show 4≤109;omega) ?_
 intro a k
 have hQ:=kj (P:=Try.prog) (fn:=Try.f14) (R:=pZ w S ow b (uJ i (D.agg [.bool sv,d1,d2,d3,d4,.list ms,.list cs,d7]) lost g))
 refine wp_seq (rg ax hQ ang ?_)
 intro w1 e1
 refine uP (us:=[.bool sv,c1,c2,c3,c4,.slice A5 ms.length q5,.slice A6 cs.length q6,c7]) k (by decide) rfl (by decide) rfl rfl (fun h=>absurd rfl h) fun a k=> ?_
 refine aJ ?_
 obtain⟨R0,gm,j6,me⟩:=h
 have eZ:=gm.bu e1
 have sA:br LG ax w S ow w1 S ow:=br.bu e1 LG ax S ow
 obtain⟨gI,jn⟩:=br.alloc eZ.wf (.cells [.bool sv,c1,c2,c3,c4,.slice A5 ms.length q5,.slice A6 cs.length q6,c7].toArray 75)
 have tE:=iH.new eZ.wf 75 [.bool sv,c1,c2,c3,c4,.slice A5 ms.length q5,.slice A6 cs.length q6,c7]
 have jB:=eZ.bw gI jn
 have sB:=sA.ba gm.wf eZ.wf gI (fun _ h=>h.elim)
 have hb5:w1.heap.size=w.heap.size:=by rw[e1.heap]
 generalize hb6:w1.heap.size=b6 at k tE
 generalize w1.alloc _=w2 at tE jB sB gI jn⊢
 clear gI sA eZ e1
 have k:=k.sub (l:=[(3,.bool lost),(6,.pointer (some ⟨b6,0,none⟩)),(0,bp b),(1,.int .i64 i)]) ⟨rfl,rfl,rfl,rfl,trivial⟩
 refine wp_seq (wp_seq (rg ax hQ anf ?_))
 intro w3 e3
 have iV:=jB.bu e3
 have tD:=tE.bu e3
 have sC:=sB.ba gm.wf jB.wf (br.bu e3 ax ax S ow) (fun _ h=>h.elim)
 have s0:=SX.refl ax w3
 repeat (first|refine sm k fun a k=> ?_|refine ld k (tD.cell (fun h=>h) rfl) fun a k=> ?_)
 refine aJ (bz k rfl ?_)
 have k:=k.sub (l:=[(3,.bool lost),(6,.pointer (some ⟨b6,0,none⟩)),(0,bp b),(1,.int .i64 i)]) ⟨rfl,rfl,rfl,rfl,trivial⟩
 cases sv with
 |false=>
  refine wp_skip (Ki (cs:=cs) (ms:=ms) (o:=D.agg [.bool false,d1,d2,d3,d4,.list ms,.list cs,d7]) (lost:=lost) (g:=g) (b6:=b6) (i:=i) (vo:=[.bool false,c1,c2,c3,c4,.slice A5 ms.length q5,.slice A6 cs.length q6,c7]) hQ (fun a w h=>h) gm.wf sC ⟨R0,iV,j6,me⟩ hl hi cI tD rfl (RJ.bw sC) hh6 rfl (hr5.bw sC) hh5 Tc rfl Ag AU rfl (k.sub ⟨rfl,rfl,rfl,rfl,trivial⟩))
 |true=>
  refine rg ax hQ ane ?_
  intro w4 e4
  have mh:=iV.bu e4
  have zU:=tD.bu e4
  have sD:=sC.ba gm.wf iV.wf (br.bu e4 ax ax S ow) (fun _ h=>h.elim)
  have s0:=SX.refl ax w4
  repeat refine sm k fun a k=> ?_
  refine lN (vs:=[.bool true,c1,c2,c3,c4,.slice A5 ms.length q5,.slice A6 cs.length q6,c7]) k rfl rfl (fun w' lu q v hv=>by rw[ay];exact zU.cell (fun h=>h) hv w' lu) fun a k=> ?_
  refine j3 (vs:=[bp b,.int .i64 i,.agg [.bool true,c1,c2,c3,c4,.slice A5 ms.length q5,.slice A6 cs.length q6,c7].toArray]) k (by decide) rfl (by decide) ZD rfl (Nh ⟨R0,mh,j6,me⟩ hn (by rw[hl.saved];exact hi) (ho.bw sD) FT hsn iY) ?_
  rintro e w5 ⟨S5,ow5,rfl,mw,Js⟩
  refine⟨_,rfl,fun h=>absurd rfl h,fun a k=> ?_⟩
  refine aJ ?_
  have sE:=o5 gm.wf mh.wf sD mw (fun _ h=>h.elim)
  have FQ:=zU.bw mw (fun h=>h)
  have Tm:=WS i (D.agg [.bool true,d1,d2,d3,d4,.list ms,.list cs,d7]) g
  exact Ki (cs:=cs) (ms:=ms) (o:=D.agg [.bool true,d1,d2,d3,d4,.list ms,.list cs,d7]) (lost:=lost) (g:=p6 i (D.agg [.bool true,d1,d2,d3,d4,.list ms,.list cs,d7]) g) (b6:=b6) (i:=i) (vo:=[.bool true,c1,c2,c3,c4,.slice A5 ms.length q5,.slice A6 cs.length q6,c7]) hQ (fun a w h=>h) gm.wf sE Js (Tm.al4 hl) hi cI FQ rfl (RJ.bw sE) hh6 rfl (hr5.bw sE) hh5 Tc rfl Ag AU rfl (k.sub ⟨rfl,rfl,rfl,rfl,trivial⟩)
def uB:Ob:=⟨[true],[kb],[kb],false⟩
section
variable{w w':World}{S S':bU}{ow bX:Ow}{l b:Nat}{s:RS}
theorem Wm{i t:Int}(hw:Wf w S ow)(hi:oY .i64 i)(ht:oY .i64 t)(h:okB i t=true∧(i=0↔t=0))(qY:1000≤l):
  Calls Try.prog 22 #[.int .i64 i,.int .i64 t] w fun e w'=> ∃b S' bX,e= .returned (.pointer (some ⟨b,0,none⟩))∧br (kG l) ax w S ow w' S' bX∧Wf w' S' bX∧mP w' S' bX l uB b [[.int .i64 i,.int .i64 t,.list []]] ∧w.heap.size≤b:=by
 have pa:cF 22 [.int .i64 i,.int .i64 t] = .fx [.fx [],yk i t []] :=by show nu i t=_;rw[nu,if_pos h]
 refine(cnw.Dx _ rfl rfl w S (fun _=>0) (fun _=>.nilIface) [.int .i64 i,.int .i64 t] [.int .i64 i,.int .i64 t] [] ⟨hw.s,⟨.int _ _,.int _ _,trivial⟩,rfl,fun o rc cs ho=>by simp at ho,fun i j hi=>by simp at hi,fun j k b hj=>by simp[Ob.kU]at hj,fun j o b hj=>by simp[Ob.kU]at hj,fun bP=>by simp at bP⟩ (aj.2 ⟨_,_,rfl,⟨i,rfl,hi⟩,aj.2 ⟨_,_,rfl,⟨t,rfl,ht⟩,dr.2 rfl⟩⟩) ?_).mono ?_
 ·refine⟨trivial,?_⟩
  show((cF 22 [.int .i64 i,.int .i64 t]).aV.getD 0 .top).ic=false
  rw[pa];rfl
 rintro e w1 ⟨v,S',τ',βn,rfl,ho⟩
 obtain⟨d0,outs,hd,mM,fi,oH⟩:=ho.res
 have jN:Ob.new ⟨[false,false],[],[kb],true⟩=true:=rfl
 rw[jN]at fi
 simp only[if_true]at fi
 obtain⟨hv,hbn⟩:=fi
 have kO:cF 22 [.int .i64 i,.int .i64 t] = .fx (d0::outs.map .agg):=hd
 rw[pa]at kO
 injection kO with kO
 injection kO with _ kO
 have ae3:outs.length=1:=mM
 obtain⟨o1,rfl⟩: ∃o1,outs=[o1] :=by
  match outs,ae3 with
  | [o1],_=>exact⟨o1,rfl⟩
 have Xe:o1=[.int .i64 i,.int .i64 t,.list []] :=by
  injection kO with kO _
  injection kO with kO
  exact kO.symm
 subst Xe
 have fX:=oH 0 kb _ rfl rfl
 have FY:lF ⟨[false,false],[],[kb],true⟩ (fun _=>0) βn 0=βn:=rfl
 rw[FY]at fX
 have tV: ∀k,¬xB (⟨[false,false],[],[kb],true⟩:Ob) (fun _=>0) (fun _=>Value.nilIface) k:=by
  rintro k (⟨o,ho,_⟩|⟨j,hj,_⟩)
  ·simp at ho
  ·simp[Ob.kU]at hj
 have hmn: ∀k,xB uB (fun _=>βn) τ' k→w.heap.size≤k:=by
  rintro k (⟨o,ho,rfl⟩|⟨j,hj,hk⟩)
  ·exact hbn
  ·rcases ho.gS j k (by unfold mn;exact hj) hk with h1|h1
   ·exact h1
   ·exact absurd h1 (tV k)
 have iY:=ho.below.size
 classical
 refine⟨βn,S',fun k=>if xB uB (fun _=>βn) τ' k then some l else ow k,by rw[hv],⟨iY,ho.below.os,ho.below.tape,ho.below.output,fun k l' hk hl _=>ho.below.block k hk (tV k),fun k hk _ _=>ho.below.block k hk (tV k),ho.kJ,ho.keep,?_,?_,?_,?_⟩,⟨ho.lt,?_,?_⟩,⟨fun _=>βn,τ',rfl,⟨ho.lt,⟨rfl,trivial⟩,rfl,?_,?_,?_,?_,?_⟩,fun k hk=>if_pos hk⟩,hbn⟩
 ·intro k l' hk _
  show(if xB uB (fun _=>βn) τ' k then some l else ow k)=some l'
  rw[if_neg (fun hm=>by have:=hmn k hm;have:=hw.o k l' hk;omega)];exact hk
 ·intro k o hs
  rcases ho.new k o hs with h1|h1|h1
  ·exact .inl h1
  ·exact .inr (.inl h1)
  ·exact absurd h1 (tV k)
 ·intro k hk hn
  show(if xB uB (fun _=>βn) τ' k then some l else ow k)=none
  rw[if_neg (fun hm=>by have:=hmn k hm;omega)];exact hn
 ·intro k l' hk
  replace hk:(if xB uB (fun _=>βn) τ' k then some l else ow k)=some l':=hk
  split at hk
  ·injection hk with hk;exact .inr hk.symm
  ·exact .inl hk
 ·intro k l' hk
  replace hk:(if xB uB (fun _=>βn) τ' k then some l else ow k)=some l':=hk
  split at hk
  ·rename_i hm
   obtain⟨jZ,T,hh,h3,h4,h5,_⟩:=fX
   rcases hm with⟨o,ho,rfl⟩|⟨j,hj,Fa⟩
   ·exact(aK.1 hh).1
   ·have XL:j=0:=by
     have:uB.kU=[0] :=rfl
     rw[this]at hj;simpa using hj
    subst XL
    have hc:=h5 2 _ (jZ[2]'(by rw[h3];decide)) (.list []) rfl (aW _) rfl
    obtain⟨_,hO⟩:=hc
    obtain⟨xs,l2,_,a2,_⟩:=hO.own
    exact(a2.lt k Fa).2
  ·exact ar (hw.o k l' hk) iY
 ·intro k o l' hs hk
  replace hk:(if xB uB (fun _=>βn) τ' k then some l else ow k)=some l':=hk
  split at hk
  ·injection hk with hk;omega
  ·rcases ho.new k o hs with h1|h1|h1
   ·exact hw.d k o l' h1 hk
   ·have:=hw.o k l' hk;omega
   ·exact absurd h1 (tV k)
 ·intro o rc cs h1 h2
  match o,h1,h2 with
  |0,h1,h2=>
   injection h1 with h1;injection h2 with h2
   subst h1 h2
   exact fX
 ·intro i j hi hj _
  have Hg:i<1:=hi
  have BT:j<1:=hj
  omega
 ·intro j k b' hj hk h1 h3
  exact ho.own j k b' hj hk h1 h3
 ·intro j o b' hj mM h1
  exact ho.eV j 0 b' hj (by decide) h1
 ·intro bP
  exact absurd bP (by decide)
theorem Nx{cells:List D}(h:mP w S ow l uB b [cells])(S2:bU)(hS: ∀b o,S b o→S2 b o)(hl: ∀b o,ow b=some l→S2 b o):cH w S2 (.pointer (some ⟨b,0,none⟩)) (.ptr cells)∧Has L3 (.ptr cells):=by
 obtain⟨β,τ,hb,ly,yf⟩:=h
 obtain⟨v1,T1,b1,b2,b3,b4,b5⟩:=ly.cC 0 kb cells rfl rfl
 have hm1:ow (β 0)=some l:=yf _ (.inl ⟨0,by decide,rfl⟩)
 refine⟨?_,jH.2 ⟨_,rfl,(wA (ly.cC 0 kb cells rfl rfl)).2⟩⟩
 rw[←hb]
 refine .ptr (β 0) v1 cells (by rw[b2,b3]) (fun i _=>hl _ i hm1) (fun i v hv=>k9 b1 hv) ?_
 intro i v d hv hd
 have hi:i<kb.length:=by rw[←b2];exact(aH.1 hv).1
 have hr:kb[i]? =some (kb[i]'hi):=aW _
 refine ya (b4 i _ v d hr hv hd) hS ?_
 intro j T hj b' ju o'
 exact hl b' o' (yf b' (.inr ⟨j,dh.2 ⟨kb,by simp[uB],bH.2 ⟨_,ca hr,by rw[hj];rfl⟩⟩,ju⟩))
theorem Zm{bl:Nat}{jZ:List Value}{T:TypeId}(h:mP w S ow l uB bl [cL s])(hw:Wf w S ow)(lx:iH w S ow b T jZ)(qY:1000≤l)(zX:jZ.length=51)(LD:jZ[13]? =some (.pointer (some ⟨bl,0,none⟩)))
  (hd: ∀(i:Nat) r v d,nD[i]? =some r→jZ[i]? =some v→(cR s)[i]? =some d→(r.2=none→cH w S v d∧Has r.1 d)∧(∀jT,r.2=some jT→v= .slice none 0 0∧d= .list [])):
  ∃bX,(∀k,bX k=if k=b then some l else ow k)∧Wf w S bX∧mP w S bX l (ew 0) b [cR s,cL s] :=by
 obtain⟨β,τ,hb,ly,yf⟩:=h
 obtain⟨v1,T1,b1,b2,b3,b4,b5⟩:=ly.cC 0 kb (cL s) rfl rfl
 rw[hb]at b1 b5
 have hmb:ow bl=some l:=by rw[←hb];exact yf _ (.inl ⟨0,by decide,rfl⟩)
 have fY:b≠bl:=fun e=>by rw[e]at lx;rw[lx.ow]at hmb;cases hmb
 have aBJ:(ew 0).kU=[1,2,3,4,5,6,0] :=rfl
 have Sh:uB.kU=[0] :=rfl
 let τ':Nat→Value:=fun j=>if j=0 then τ 0 else .slice none 0 0
 let FN:Nat→Nat:=fun o=>if o=0 then b else bl
 have C0: ∀j b',(τ' j).ownBlock=some b'→j=0∧(τ 0).ownBlock=some b':=by
  intro j b' hh
  by_cases hj:j=0
  ·subst hj;exact⟨rfl,hh⟩
  ·have:τ' j= .slice none 0 0:=if_neg hj
   rw[this]at hh;cases hh
 have alu: ∀b',(τ 0).ownBlock=some b'→ow b'=some l:=fun b' hh=>yf b' (.inr ⟨0,by rw[Sh];simp,hh⟩)
 have Ta: ∀k,xB (ew 0) FN τ' k→k=b∨ow k=some l:=by
  rintro k (⟨o,ho,rfl⟩|⟨j,hj,hk⟩)
  ·by_cases h0:o=0
   ·exact .inl (if_pos h0)
   ·exact .inr (by rw[show FN o=bl from if_neg h0];exact hmb)
  ·exact .inr (alu k (C0 j k hk).2)
 refine⟨fun k=>if k=b then some l else ow k,fun _=>rfl,⟨hw.s,?_,?_⟩,⟨FN,τ',rfl,⟨hw.s,⟨rfl,trivial⟩,rfl,?_,?_,?_,?_,?_⟩,?_⟩⟩
 ·intro k l' hk
  replace hk:(if k=b then some l else ow k)=some l':=hk
  split at hk
  ·rename_i e;rw[e];exact lx.lt
  ·exact hw.o k l' hk
 ·intro k o l' hs hk
  replace hk:(if k=b then some l else ow k)=some l':=hk
  split at hk
  ·injection hk with hk;omega
  ·exact hw.d k o l' hs hk
 ·intro o rc cs ho hc
  match o,ho,hc with
  |0,ho,hc=>
   injection ho with ho;injection hc with hc
   subst ho hc
   refine⟨jZ,T,lx.heap,zX,rfl,?_,lx.s⟩
   intro i r v d hr hv z8
   obtain⟨h1,h2⟩:=hd i r v d hr hv z8
   obtain⟨t,ro⟩:=r
   cases ro with
   |none=>exact h1 rfl
   |some jT=>
    obtain⟨j,TT⟩:=jT
    obtain⟨rfl,rfl⟩:=h2 _ rfl
    have hj:j≠0:=by
     intro e
     subst e
     have iG:(nD.all fun r=>match r.2 with|some (j,_)=>j !=0&&decide (0<r.1.cells.length)|none=>true)=true:=by decide+kernel
     have:=cn.1 iG _ (ca hr)
     simp at this
    have iY:0<t.cells.length:=by
     have iG:(nD.all fun r=>match r.2 with|some (j,_)=>j !=0&&decide (0<r.1.cells.length)|none=>true)=true:=by decide+kernel
     have:=cn.1 iG _ (ca hr)
     simp only[bc,bQ]at this
     exact this.2
    have ym:τ' j= .slice none 0 0:=if_neg hj
    refine⟨ym.symm,?_⟩
    rw[ym]
    exact⟨⟨[],rfl,ft t,fun _ h=>by cases h⟩,iY,[],[],rfl,eR _ _ _ _,fun b hb=>(by cases hb),fun i d j v c h=>(by simp at h)⟩
  |1,ho,hc=>
   injection ho with ho;injection hc with hc
   subst ho hc
   refine⟨v1,T1,b1,b2,b3,?_,b5⟩
   intro i r v d hr hv z8
   have h1:=b4 i r v d hr hv z8
   obtain⟨t,ro⟩:=r
   cases ro with
   |none=>exact h1
   |some jT=>
    obtain⟨j,TT⟩:=jT
    have hj:j=0:=by
     have iG:(kb.all fun r=>match r.2 with|some (j,_)=>j==0|none=>true)=true:=by decide
     have:=cn.1 iG _ (ca hr)
     simpa using this
    subst hj
    exact h1
 ·intro i j hi hj he
  have Hg:i<2:=hi
  have BT:j<2:=hj
  have key: ∀o,o<2→(o=0∧FN o=b)∨(o=1∧FN o=bl):=by
   intro o ho
   by_cases h0:o=0
   ·exact .inl ⟨h0,if_pos h0⟩
   ·exact .inr ⟨by omega,if_neg h0⟩
  rcases key i Hg with⟨h1,h2⟩|⟨h1,h2⟩<;>rcases key j BT with⟨h3,h4⟩|⟨h3,h4⟩
  ·omega
  ·rw[h2,h4]at he;exact absurd he fY
  ·rw[h2,h4]at he;exact absurd he.symm fY
  ·omega
 ·intro j k b' hj hk h1 h2
  rw[(C0 j b' h1).1,(C0 k b' h2).1]
 ·intro j o b' hj ho h1
  have h2:=(C0 j b' h1).2
  have h3:=alu b' h2
  by_cases h0:o=0
  ·rw[show FN o=b from if_pos h0]
   intro e
   rw[e,lx.ow]at h3;cases h3
  ·rw[show FN o=bl from if_neg h0,←hb]
   exact ly.eV 0 0 b' (by rw[Sh];simp) (by decide) h2
 ·intro _ o c rc ho hc
  match o,ho with
  |0,ho=>
   injection ho with ho
   subst ho
   have awb:c=13:=by
    have jY:=(aH.1 hc).1
    have Yu:c<51:=jY
    have iG:((List.range 51).all fun j=>j==13|| !(nD[j]? ==some NY))=true:=by decide+kernel
    have:=cn.1 iG c (cW.2 Yu)
    rw[hc]at this
    simp only[beq_self_eq_true,Bool.not_true,Bool.or_false,beq_iff_eq]at this
    exact this
   subst awb
   exact k9 lx.heap LD
  |1,ho=>
   injection ho with ho
   subst ho
   have iG:(kb.all fun r=> !(r==NY))=true:=by decide
   have:=cn.1 iG _ (ca hc)
   simp at this
 ·intro k hk
  show(if k=b then some l else ow k)=some l
  rcases Ta k hk with h1|h1
  ·rw[if_pos h1]
  ·split
   ·rfl
   ·exact h1
end
end Go.Proofs.Ytjhmkaninmgilaa
namespace Go.dV
open Go Go.RowKit
def jh(ops:Array Oper)(p:List Nat):Array Oper:=(p.filterMap (ops[·]?)).toArray
def kZ(n:Nat)(p:List Nat)(k:Nat):Array Bool:=((List.range n).map fun j=>decide (j∈p.take k)).toArray
def JY(ops:Array Oper)(p:List Nat)(n0:Nat):Nat:=if n0=ops.size then ops.size else p.getD (ops.size-1) 0
def X2(ops:Array Oper)(p:List Nat)(n0:Nat):Bool:=
 Region.noSelect ops&&decide (p.length=ops.size)&&p.all (fun i=>decide (i<ops.size))&&ops.toList.all (·.guard.isNone)&&(List.range ops.size).all (fun j=>decide (j∈p))&&decide (n0≤ops.size)&&(List.range ops.size).all fun k=>
  match p[k]? with
  |none=>false
  |some i=>if k<n0 then Region.free .any ops (kZ ops.size p k) i&&(Region.ready .any ops (kZ ops.size p k)).contains i&&decide (i≠JY ops p n0)&&
    (decide (n0=ops.size)||match ops[JY ops p n0]? with|some oL=>oL.after.toList.any fun e=>Region.binds .any e&&e.on==i|none=>false)
   else Region.ready .any ops (kZ ops.size p k)==[i]
theorem rB{ops:Array Oper}: ∀{p:List Nat} (h: ∀i∈p,i<ops.size) (k:Nat),(p.filterMap (ops[·]?))[k]? =(p[k]?).bind (ops[·]?)
 | [],_,k=>by simp
 |i::p,h,k=>by
  have hi:ops[i]? =some (ops[i]'(h i bI)):=dC _
  rw[List.filterMap_cons,hi]
  cases k with
  |zero=>simp[hi]
  |succ k=>
   simp only[du]
   exact rB (fun j hj=>h j (aI _ hj)) k
theorem EA{n i k:Nat}{p:List Nat}(hi:p[k]? =some i):(kZ n p k).setIfInBounds i true=kZ n p (k+1):=by
 apply Array.ext
 ·simp[kZ]
 ·intro j h1 h2
  simp only[kZ,Array.size_setIfInBounds,cS,aw,gh]at h1
  rw[Array.getElem_setIfInBounds (by simpa [kZ]using h1)]
  have ht:p.take (k+1)=p.take k++[i] :=by rw[dj,hi];rfl
  by_cases yp:i=j
  ·subst yp;simp[kZ,ht]
  ·rw[if_neg yp]
   simp only[kZ,List.getElem_toArray,List.getElem_map,List.getElem_range,ht,aS,aA]
   congr 1
   exact propext ⟨fun h=>.inl h,fun h=>h.resolve_right (Ne.symm yp)⟩
theorem Le(n:Nat)(p:List Nat):Array.replicate n false=kZ n p 0:=by
 apply Array.ext
 ·simp[kZ]
 ·intro j h1 h2;simp[kZ]
section
variable{P:Program}{ops ops':Array Oper}{Q:Exit→Act→World→Prop}{S:World→Prop}
theorem YieldsIf.plain{o:Oper}{v:Value}{a:Act}(hg:o.guard=none)(h:YieldsIf P ops' S o v a):YieldsIf P ops S o v a:=by
 have hw: ∀y,Region.wanted o y=true:=fun y=>by unfold Region.wanted;rw[hg]
 rcases h with⟨_,h⟩|⟨h,_⟩
 ·exact .inl ⟨hw _,h⟩
 ·rw[hw]at h;cases h
theorem xP{o:Oper}{i k:Nat}{K:Act→World→Prop}{a:Act}{w:World}(hg:o.guard=none)(hk:ops'[k]? =some o)(hi:ops[i]? =some o)(h:wpOp P ops' Q k K a w):wpOp P ops Q i K a w:=by
 have hw: ∀y,Region.wanted o y=true:=fun y=>by unfold Region.wanted;rw[hg]
 unfold wpOp at h⊢
 rw[hk]at h
 rw[hi]
 simp only[hw,if_true]at h⊢
 exact h
theorem Qw{p:List Nat}{n0:Nat}(cI:X2 ops p n0=true)(hQ: ∀c a d v w,Q (.panic c) (a.put d v) w→Q (.panic c) a w):
  ∀(f k:Nat) (a:Act) (w:World),k+f=ops.size→oD P (jh ops p) Q S n0 f k a w→rf P ops Q S (JY ops p n0) f (kZ ops.size p k) a w:=by
 have yv:=cI
 unfold X2 at cI
 simp only[bc,bQ,cn,cW]at cI
 obtain⟨⟨⟨⟨⟨⟨E1,xw⟩,hpi⟩,E3⟩,Qd⟩,N4⟩,iG⟩:=cI
 have C4: ∀k:Nat,(jh ops p)[k]? =(p[k]?).bind (ops[·]?):=fun k=>by
  unfold jh
  rw[dq]
  exact rB hpi k
 intro f
 induction f with
 |zero=>
  intro k a w hkf h
  refine⟨?_,h⟩
  rw[fC]
  intro j hj
  obtain⟨h0,oj,xx,_⟩:=mem_ready.1 hj
  have lZ:j<ops.size:=(aK.1 xx).1
  have ht:p.take k=p:=eM (by omega)
  have:=Qd j lZ
  simp[kZ,lZ,ht,this]at h0
 |succ f ih=>
  intro k a w hkf h
  have hk:k<ops.size:=by omega
  have hc:=iG k hk
  have RK:p[k]? =some (p[k]'(by omega)):=aW _
  generalize p[k]'(by omega)=i at RK
  rw[RK]at hc
  simp only at hc
  have hi:i<ops.size:=hpi i (ca RK)
  have ho:ops[i]? =some ops[i] :=dC hi
  have hg:ops[i].guard=none:=by
   have:=E3 ops[i] (by simp)
   simpa using this
  have yw:(jh ops p)[k]? =some ops[i] :=by rw[C4,RK];exact ho
  unfold oD at h
  rw[yw]at h
  simp only at h
  by_cases bP:k<n0
  ·rw[if_pos bP]at h hc
   obtain⟨hS,v,hy,hr⟩:=h
   simp only[bc,bQ]at hc
   obtain⟨⟨⟨rM,rn⟩,fY⟩,mS⟩:=hc
   refine tl ho fY ?_ (Region.noSelect_spec E1) (fun c a w=>hQ c a _ _ w) f (kZ ops.size p k) a w (Region.free_spec ho rM) (by simpa using rn) (YieldsIf.plain (ops':=jh ops p) hg hy) hS ?_
   ·intro oL R9
    by_cases hz:n0=ops.size
    ·exfalso
     unfold JY at R9
     rw[if_pos hz]at R9
     simp at R9
    ·rw[R9]at mS
     simp only[fB,bQ,gH,bc,beq_iff_eq]at mS
     obtain⟨e,he,hb,XI⟩:=mS.resolve_left hz
     exact⟨e,by simpa using he,hb,XI⟩
   ·rw[EA RK]
    exact ih (k+1) _ w (by omega) hr
  ·rw[if_neg bP]at h hc
   have hr:Region.ready .any ops (kZ ops.size p k)=[i] :=by simpa using hc
   refine⟨fun h0=>(by rw[hr]at h0;cases h0),fun j hj=> ?_⟩
   rw[hr,aA]at hj
   subst hj
   refine wpOp_mono (fun a' w' h'=>⟨fun fY=>h'.1 (fun hf=>fY ?_),?_⟩) (xP hg yw ho h)
   ·rw[EA RK]
    exact ih (k+1) a' w' (by omega) h'.2
   ·unfold JY
    rw[if_neg (by omega),av,show ops.size-1=k by omega,RK];rfl
theorem amp{id n0:Nat}{p:List Nat}{L:List OK}(X:Nat→Prop)(hm:P.follows .mixedOrders=true)(hQ:QP Q)(hl:b8 (jh ops p)=L)(hd:X2 ops p n0=true){w:World}{a:Act}
  (h: ∀w1,Cn w w1→TL P (jh ops p) Q (SX X w1) n0 L L 0 a w1):(Code.region id ops true).wp P Q a w:=by
 have hd0:=hd
 unfold X2 at hd0
 simp only[bc,bQ,cn,cW]at hd0
 obtain⟨⟨⟨⟨⟨⟨E1,xw⟩,hpi⟩,E3⟩,Qd⟩,N4⟩,iG⟩:=hd0
 have hlen:L.length=ops.size:=by
  rw[←hl,←xw]
  unfold b8 jh
  rw[aw]
  have: ∀(q:List Nat),(∀i∈q,i<ops.size)→(q.filterMap (ops[·]?)).length=q.length:=by
   intro q
   induction q with
   |nil=>intro _;rfl
   |cons i q ih=>
    intro hq
    have hi:ops[i]? =some (ops[i]'(hq i bI)):=dC _
    rw[List.filterMap_cons,hi]
    simp only[bM]
    rw[ih (fun j hj=>hq j (aI _ hj))]
  exact this p hpi
 refine wp_region_any hm ?_
 have h1:=Qw hd hQ ops.size 0 a _ (by omega) (hlen▸h _ (Cn.drew w) hl rfl)
 rw[←Le]at h1
 exact qg _ _ _ _ h1
end
def clo(ops:Array Oper)(i:Nat):List Nat:=(List.range ops.size).foldl (fun acc j=>match ops[j]? with
 |some oj=>if decide (i<j)&&oj.after.toList.any (fun e=>Region.binds .any e&&(e.on==i||acc.contains e.on)) then acc++[j] else acc
 |none=>acc) []
def ad9(ops:Array Oper)(n0:Nat):Bool:=
 decide (n0≤ops.size)&&Region.noSelect ops&&(List.range ops.size).all fun i=>
  if i<n0 then Region.free .any ops (iT ops.size i) i&&(Region.ready .any ops (iT ops.size i)).contains i&&decide (i+1<ops.size)&&
   (clo ops i).contains (ops.size-1)&&(clo ops i).all (fun j=>decide (i<j)&&match ops[j]? with
    |some oj=>oj.after.toList.any fun e=>Region.binds .any e&&(e.on==i||(clo ops i).contains e.on)
    |none=>false)
  else Region.ready .any ops (iT ops.size i)==[i]
section
variable{P:Program}{ops:Array Oper}{Q:Exit→Act→World→Prop}{S:World→Prop}
theorem Fz{L i:Nat}{B:List Nat}{oi:Oper}{v:Value}(hi:ops[i]? =some oi)(hiL:i≠L)(hL:L∈B)(hB: ∀j∈B,∃oj,ops[j]? =some oj∧ ∃e∈oj.after,Region.binds .any e=true∧(e.on=i∨e.on∈B))(SP: ∀(j:Nat) (o:Oper) cs b,ops[j]? =some o→o.op≠ .select cs b)
  (hQ: ∀c a w,Q (.panic c) (a.put oi.dst v) w→Q (.panic c) a w):
  ∀(fuel:Nat) (bY:Array Bool) (a:Act) (w:World),
   (∀j oj,ops[j]? =some oj→j≠i→bY.getD j true=false→(∀e∈oj.after,Region.binds .any e=true→e.on≠i)→oi.apart ops oj=true)→(∀x∈B,bY.getD x true=false)→
   i∈Region.ready .any ops bY→YieldsIf P ops S oi v a→S w→
   rf P ops Q S L fuel (bY.setIfInBounds i true) (a.put oi.dst v) w→rf P ops Q S L (fuel+1) bY a w:=by
 intro fuel
 induction fuel with
 |zero=>
  intro bY a w _ _ hr hy hS H
  refine⟨fun h=>(by rw[h]at hr;cases hr),fun j hj=> ?_⟩
  by_cases FW:j=i
  ·subst FW;exact hy.wpOp hi hS ⟨fun _=>hS,H⟩
  ·have:=ready_mono hj FW
   rw[H.1]at this
   cases this
 |succ fuel ih=>
  intro bY a w rM hBl hr hy hS H
  refine⟨fun h=>(by rw[h]at hr;cases hr),fun j hj=> ?_⟩
  by_cases FW:j=i
  ·subst FW;exact hy.wpOp hi hS ⟨fun _=>hS,H⟩
  ·have h1:=H.2 j (ready_mono hj FW)
   obtain⟨Tf,oj,xx,iG⟩:=mem_ready.1 hj
   have uH: ∀e∈oj.after,Region.binds .any e=true→bY.getD e.on true=true:=fun e he hb=>by
    have h1:=iG e he hb
    rcases Nat.lt_or_ge e.on bY.size with h'|h'
    ·simp[h']at h1⊢;exact h1
    ·simp[Array.getElem?_eq_none h']at h1
   have avR:=(mem_ready.1 hr).1
   have mS: ∀e∈oj.after,Region.binds .any e=true→e.on≠i:=fun e he hb heq=>by
    have h1:=uH e he hb
    rw[heq,avR]at h1;cases h1
   have hjB:j∉B:=fun hjB=>by
    obtain⟨oj',Yl,e,he,hb,XI⟩:=hB j hjB
    rw[xx]at Yl
    injection Yl with Yl
    subst Yl
    rcases XI with h2|h2
    ·exact mS e he hb h2
    ·have h3:=uH e he hb
     rw[hBl _ h2]at h3;cases h3
   have hjL:j≠L:=fun e=>hjB (e▸hL)
   have h2:=wpOp_putIf xx (rM j oj xx FW Tf mS) (fun cs b=>SP i oi cs b hi) (fun cs b=>SP j oj cs b xx) hQ hy h1
   have MY: ∀k ok,ops[k]? =some ok→k≠i→(bY.setIfInBounds j true).getD k true=false→
     (∀e∈ok.after,Region.binds .any e=true→e.on≠i)→oi.apart ops ok=true:=fun k ok hk hki hun tV=>by
    refine rM k ok hk hki ?_ tV
    by_cases N6:j=k
    ·subst N6;exact Tf
    ·rw[getD_set_ne true N6]at hun;exact hun
   have awq: ∀x∈B,(bY.setIfInBounds j true).getD x true=false:=fun x hx=>by
    rw[getD_set_ne true (fun e:j=x=>hjB (by rw[e];exact hx))];exact hBl x hx
   refine wpOp_mono (fun a' w' h3=>⟨fun fY=>h3.2.1 fY,ih (bY.setIfInBounds j true) a' w' MY awq (ready_mono hr (Ne.symm FW)) h3.1 (h3.2.1 hjL) ?_⟩) h2
   rw[Array.setIfInBounds_comm _ _ FW]
   exact h3.2.2
theorem AA{n0:Nat}(cI:ad9 ops n0=true)(hQ: ∀c a d v w,Q (.panic c) (a.put d v) w→Q (.panic c) a w):
  ∀(f i:Nat) (a:Act) (w:World),i+f=ops.size→oD P ops Q S n0 f i a w→rf P ops Q S (ops.size-1) f (iT ops.size i) a w
 |0,i,a,w,hif,h=>by
  refine⟨?_,h⟩
  have:i=ops.size:=by omega
  subst this
  rw[fC]
  intro j hj
  obtain⟨h0,oj,xx,_⟩:=mem_ready.1 hj
  have lZ:j<ops.size:=(aK.1 xx).1
  simp[iT,lZ]at h0
 |f+1,i,a,w,hif,h=>by
  have yv:=cI
  unfold ad9 at cI
  simp only[bc,bQ,cn,cW]at cI
  obtain⟨⟨N4,E1⟩,iG⟩:=cI
  have hi:i<ops.size:=by omega
  have hc:=iG i hi
  unfold oD at h
  have ho:ops[i]? =some ops[i] :=dC hi
  rw[ho]at h
  simp only at h
  by_cases bP:i<n0
  ·rw[if_pos bP]at h hc
   obtain⟨hS,v,hy,hr⟩:=h
   simp only[bc,bQ,cn]at hc
   obtain⟨⟨⟨⟨rM,rn⟩,iJ⟩,mS⟩,alO⟩:=hc
   refine Fz (B:=clo ops i) ho (by omega) (by simpa using mS) ?_ (Region.noSelect_spec E1) (fun c a w=>hQ c a _ _ w) f (iT ops.size i) a w (Region.free_spec ho rM) ?_ (by simpa using rn) hy hS ?_
   ·intro j hj
    obtain⟨_,h2⟩:=alO j hj
    cases xx:ops[j]? with
    |none=>rw[xx]at h2;cases h2
    |some oj=>
     rw[xx]at h2
     simp only[gH,bc,fB,beq_iff_eq]at h2
     obtain⟨e,he,hb,XI⟩:=h2
     exact⟨oj,rfl,e,by simpa using he,hb,XI.imp id (fun h=>by simpa using h)⟩
   ·intro x hx
    obtain⟨h1,h2⟩:=alO x hx
    have nq:x<ops.size:=by
     cases xx:ops[x]? with
     |none=>rw[xx]at h2;cases h2
     |some oj=>exact(aK.1 xx).1
    simp[iT,nq]
    omega
   ·rw[tj hi]
    exact AA yv hQ f (i+1) _ w (by omega) hr
  ·rw[if_neg bP]at h hc
   have hr:Region.ready .any ops (iT ops.size i)=[i] :=by simpa using hc
   refine⟨fun h0=>(by rw[hr]at h0;cases h0),fun j hj=> ?_⟩
   rw[hr,aA]at hj
   subst hj
   refine wpOp_mono (fun a' w' h'=>⟨fun fY=>h'.1 (by omega),?_⟩) h
   rw[tj hi]
   exact AA yv hQ f (j+1) a' w' (by omega) h'.2
theorem amq{id n0:Nat}{L:List OK}(X:Nat→Prop)(hm:P.follows .mixedOrders=true)(hQ:QP Q)(hl:b8 ops=L)(hd:ad9 ops n0=true){w:World}{a:Act}
  (h: ∀w1,Cn w w1→TL P ops Q (SX X w1) n0 L L 0 a w1):(Code.region id ops true).wp P Q a w:=by
 have hlen:L.length=ops.size:=by rw[←hl];simp[b8]
 refine wp_region_any hm ?_
 have h1:=AA hd hQ ops.size 0 a _ (by omega) (hlen▸h _ (Cn.drew w) hl rfl)
 rw[←Br]at h1
 exact qg _ _ _ _ h1
end
theorem xK{P:Program}{ops:Array Oper}{Q:Exit→Act→World→Prop}{S:World→Prop}{n n0 i d j:Nat}{a:Act}{w:World}{m:List (Nat×Value)}{gd:Option (Nat×Bool)}{L r:List OK}{x:Operand}{vs:List Value}{v:Value}(k:Kn n a m)(hS:S w)(hg:tW L m gd=some true)(hd:d<n)(hx:oh m x=some (.tuple vs.toArray))(hv:vs[j]? =some v)
  (h: ∀a',Kn n a' ((d,v)::m)→TL P ops Q S n0 L r (i+1) a' w):TL P ops Q S n0 L ((some d,.extract x j,gd)::r) i a w:=by
 refine tX k hS hg hd (fun ty pos af w' _=> ?_) h
 have h1:=k.op hx
 unfold execOp
 simp only[h1,Instr.extract]
 simp[hv]
theorem UT{P:Program}{ops:Array Oper}{Q:Exit→Act→World→Prop}{S:World→Prop}{n n0 i d:Nat}{a:Act}{w:World}{m:List (Nat×Value)}{gd:Option (Nat×Bool)}{L r:List OK}{x y:Operand}{t t2:TypeId}{p:Option Addr}(k:Kn n a m)(hS:S w)(hg:tW L m gd=some true)(hd:d<n)(hx:oh m x=some (.pointer p))(hy:oh m y=some (.pointer none))(hu:ptB P t=true)
  (h: ∀a',Kn n a' ((d,.bool p.isNone)::m)→TL P ops Q S n0 L r (i+1) a' w):TL P ops Q S n0 L ((some d,.binOp .eql t x y t2,gd)::r) i a w:=by
 refine tX k hS hg hd (fun ty pos af w' _=> ?_) h
 have h1:=k.op hx
 have h2:=k.op hy
 obtain⟨el,hu⟩: ∃el,P.underlying t=some (.pointer el):=by
  unfold ptB at hu
  split at hu
  ·exact⟨_,by assumption⟩
  ·cases hu
 have h3:=rv (w:=w') hu p x y
 have rN:(execOp a.eval ⟨some d,.binOp .eql t x y t2,ty,pos,af,gd⟩)=(do let v←(do eqGuard .eql t x y (a.eval x) (a.eval y);binOp .eql t (a.eval x) (a.eval y):Sem Value);pure (.value v)):=by unfold execOp;rfl
 rw[rN,bA,h1,h2,h3]
 rfl
end Go.dV
namespace Go.Proofs.Ytjhmkaninmgilaa
open Go Go.RowKit Go.dV Go.Proofs
attribute [local irreducible] TL
def sq(id:Int)(fv fl:List D)(term vote:Int)(le:List D):RS:={dR with jG:=.gW,id:=id,fv:=fv,fl:=fl,term:=term,vote:=vote,le:=le}
section
variable{w w':World}{S S':bU}{ow bX:Ow}{l b:Nat}{s:RS}
theorem Pw{τ:Nat→Value}{v:Value}{d:D}{cs:List bD}(hex:(cs.all fun r=>match r.2 with|some (j,_)=> !(Fe j)|none=>true)=true)(h:iL w 0 S τ [(true,cs)] v d):
  ∃(us:List Value) (ds:List D),v= .agg us.toArray∧d= .agg ds∧us.length=cs.length∧ds.length=cs.length∧ ∀(i:Nat) r u y,cs[i]? =some r→us[i]? =some u→ds[i]? =some y→cH w S u y∧Has (JC r) y:=by
 rcases h with⟨c,hc,hq⟩|⟨hc,_⟩
 ·injection hc with hc
  subst hc
  unfold hH at hq
  rw[if_pos rfl]at hq
  obtain⟨us,ds,rfl,rfl,zP,wN,eW⟩:=hq
  refine⟨us,ds,rfl,rfl,zP,wN,fun i r u y hr hu hy=> ?_⟩
  have h1:=eW i r u y hr hu hy
  have h2:=cn.1 hex r (ca hr)
  obtain⟨t,ro⟩:=r
  cases ro with
  |none=>exact h1
  |some jT=>
   obtain⟨j,T⟩:=jT
   simp only[gj]at h2
   obtain⟨rfl,ho⟩:=h1
   rw[h2]at ho
   exact⟨ho.rep,ho.has⟩
 ·exact absurd rfl hc
theorem Q6{i t:Int}{le:List D}(h:mP w S ow l uB b [[.int .i64 i,.int .i64 t,.list le]])(hw:Wf w S ow)(hm:fN i t le=true):
  Calls Try.prog 25 #[.pointer (some ⟨b,0,none⟩)] w fun e w'=>e= .returned (.tuple [.int .i64 (gn i t le).1,.int .i64 (gn i t le).2].toArray)∧br ax ax w S ow w' S ow∧Wf w' S ow:=by
 obtain⟨hr,hh⟩:=Nx h (fun b o=>S b o∨ow b=some l) (fun _ _ h=>.inl h) (fun _ _ h=>.inr h)
 refine(c25.calls rfl w (fun b o=>S b o∨ow b=some l) [.pointer (some ⟨b,0,none⟩)] [.ptr [.int .i64 i,.int .i64 t,.list le]] (fun b o hs=>hs.elim (hw.s b o) (hw.o b l)) rfl ?_ (aj.2 ⟨_,_,rfl,hh,dr.2 rfl⟩) hm).mono ?_
 ·intro i v d hv hd
  match i,hv,hd with
  |0,hv,hd=>injection hv with hv;injection hd with hd;subst hv hd;exact hr
 ·rintro e w1 ⟨v,S',τ,rfl,hb,_,_,_,fi,_⟩
  have oZ:br ax ax w S ow w1 S ow∧Wf w1 S ow:=⟨⟨hb.size,hb.os,hb.tape,hb.output,fun b _ ju _ _=>hb.block b ju,fun b ju _ _=>hb.block b ju,fun _ _ h=>h,fun b o hs=>bg (hb.block b (hw.s b o hs)),fun _ _ h _=>h,fun _ _ h=>.inl h,fun _ _ h=>h,fun _ _ h=>.inl h⟩,
   ⟨fun b o hs=>ar (hw.s b o hs) hb.size,fun b l hl=>ar (hw.o b l hl) hb.size,hw.d⟩⟩
  refine⟨?_,oZ⟩
  rcases fi with⟨c,hc,hq⟩|⟨hc,vs,ds,rfl,hd,zX,wN,eW⟩
  ·cases hc
  ·have e:cF 25 [.ptr [.int .i64 i,.int .i64 t,.list le]] = .fx [.int .i64 (gn i t le).1,.int .i64 (gn i t le).2] :=rfl
   rw[e]at hd
   injection hd with hd
   subst hd
   have aeQ:vs.length=2:=zX
   match vs,aeQ with
   | [v0,v1],_=>
    have h0:=eW 0 _ _ _ rfl rfl rfl
    have h1:=eW 1 _ _ _ rfl rfl rfl
    unfold hH at h0 h1
    simp only[ak,if_false]at h0 h1
    obtain⟨x0,jL,h0⟩:=h0
    obtain⟨x1,wW,h1⟩:=h1
    injection jL with jL
    injection wW with wW
    subst jL wW
    have g0:=h0.1.cX
    have g1:=h1.1.cX
    subst g0 g1
    rfl
theorem Ll{i t pi pt:Int}{le es:List D}{ve:Value}(h:mP w S ow l uB b [[.int .i64 i,.int .i64 t,.list le]])(hw:Wf w S ow)(qY:1000≤l)(jA:dK (.dJ [I6,I6,.list eP,I6,I6,.list eP]) [.int .i64 pi,.int .i64 pt,.list es,.int .i64 i,.int .i64 t,.list le])(hr:cH w S ve (.list es))(hm:fN i t le=true)(h1:le.length<4294967296)(h2:es.length<4294967296):
  Calls Try.prog 23 [.pointer (some ⟨b,0,none⟩),.int .i64 pi,.int .i64 pt,ve].toArray w fun e w'=> ∃S' bX,e= .returned (.tuple [.int .i64 (lH i t le pi pt es).1,.bool (nI i t le pi pt es)].toArray)∧br (kG l) ax w S ow w' S' bX∧Wf w' S' bX∧mP w' S' bX l uB b [[.int .i64 i,.int .i64 t,.list (lH i t le pi pt es).2]] :=by
 refine(mP.call (ob:=⟨[true,false,false,false],[kb],[kb],false⟩) (ob0:=uB) (n:=3) (vs:=[.int .i64 pi,.int .i64 pt,ve]) (dd:=[.int .i64 pi,.int .i64 pt,.list es]) c23 rfl rfl rfl rfl rfl rfl (by decide) (.inr rfl) rfl qY h hw rfl rfl (fun q v d hv hd=>by
  match q,hv,hd with
  |0,hv,hd=>injection hv with hv;injection hd with hd;subst hv hd;exact .int _ _
  |1,hv,hd=>injection hv with hv;injection hd with hd;subst hv hd;exact .int _ _
  |2,hv,hd=>injection hv with hv;injection hd with hd;subst hv hd;exact hr) jA ⟨hm,h1,h2⟩).mono ?_
 rintro e w1 ⟨v,S',bX,τ,d0,outs,rfl,pa,mM,st,lY,fX,fi⟩
 have e:cF 23 [.int .i64 pi,.int .i64 pt,.list es,.int .i64 i,.int .i64 t,.list le] = .fx [.fx [.int .i64 (lH i t le pi pt es).1,.bool (nI i t le pi pt es)],.agg [.int .i64 i,.int .i64 t,.list (lH i t le pi pt es).2]] :=rfl
 have OE:cF 23 [.int .i64 pi,.int .i64 pt,.list es,.int .i64 i,.int .i64 t,.list le] = .fx (d0::outs.map .agg):=pa
 rw[e]at OE
 injection OE with OE
 injection OE with hd0 hph
 subst hd0
 have ae3:outs.length=1:=mM
 match outs,ae3 with
 | [o1],_=>
  injection hph with hph
  injection hph with hph
  subst hph
  refine⟨S',bX,?_,st,lY,fX⟩
  rcases fi with⟨c,hc,hq⟩|⟨hc,vs,ds,rfl,hd,zX,wN,eW⟩
  ·cases hc
  ·injection hd with hd
   subst hd
   have aeQ:vs.length=2:=zX
   match vs,aeQ with
   | [v0,v1],_=>
    have h0:=eW 0 _ _ _ rfl rfl rfl
    have h1:=eW 1 _ _ _ rfl rfl rfl
    unfold hH at h0 h1
    simp only[ak,if_false]at h0 h1
    obtain⟨x0,jL,h0⟩:=h0
    obtain⟨x1,wW,h1⟩:=h1
    injection jL with jL
    injection wW with wW
    subst jL wW
    have g0:=h0.1.cX
    have g1:=h1.1.iE
    subst g0 g1
    rfl
end
theorem ago:b8 (jh Vk [0,1,3,4,5,6,7,9,10,11,2,8,12,13,14])=[oM 96 0,
 oL 97 31 4,
 oF 99 65 5 0,
 oL 100 61 99,
 oM 101 8,
 oF 102 65 5 1,
 oL 103 63 102,
 oF 105 65 5 1,
 oF 106 63 105 0,
 oL 107 3 106,
 oC 98 26 #[(.tmp 97)] #[31],
 oC 104 27 #[(.tmp 103)] #[63],
 (some 108,.build 108 #[(1,.tmp 96),(2,.tmp 98),(3,.tmp 100),(4,.tmp 101),(5,.tmp 104),(6,.tmp 107)],none),
 (some 109,.box 108 (.tmp 108),none),
 oA 6 109] :=by kernel_rfl
section
variable{w w':World}{S S':bU}{ow bX:Ow}{l b:Nat}{s:RS}
theorem vi{i lo hi:Int}(hw:Wf w S ow)(h1:oY .i64 i)(h2:oY .i64 lo)(h3:oY .i64 hi)(h:ue i lo hi=true):Calls Try.prog 20 [.int .i64 i,.int .i64 lo,.int .i64 hi].toArray w fun e w'=>e= .returned (.bool true)∧br ax ax w S ow w' S ow∧Wf w' S ow:=
 wJ (dd:=[.int .i64 i,.int .i64 lo,.int .i64 hi]) c20 hw rfl (fun q v d hv hd=>by
  match q,hv,hd with
  |0,hv,hd=>injection hv with hv;injection hd with hd;subst hv hd;exact .int _ _
  |1,hv,hd=>injection hv with hv;injection hd with hd;subst hv hd;exact .int _ _
  |2,hv,hd=>injection hv with hv;injection hd with hd;subst hv hd;exact .int _ _) (aj.2 ⟨_,_,rfl,⟨_,rfl,h1⟩,aj.2 ⟨_,_,rfl,⟨_,rfl,h2⟩,aj.2 ⟨_,_,rfl,⟨_,rfl,h3⟩,dr.2 rfl⟩⟩⟩) trivial (congrArg D.bool h)
theorem afu{a b c d e f g h:D}(x:Has ml (.agg [a,b,c,d,e,f,g,h])):Has (.list eP) h:=by
 obtain⟨l,hl,hx⟩:=eN.1 x
 injection hl with hl
 subst hl
 obtain⟨y,hy,hh⟩:=dY hx 7 (.list eP) (by rw[Ty.fa];rfl)
 injection hy with hy
 subst hy
 exact hh
theorem QA:Has aaC (.agg [.int .i64 0,.int .i64 0,.list [],.list [],.list []]):=
 eN.2 ⟨_,rfl,aj.2 ⟨_,_,rfl,⟨0,rfl,by decide⟩,aj.2 ⟨_,_,rfl,⟨0,rfl,by decide⟩,aj.2 ⟨_,_,rfl,bK.2 ⟨[],rfl,ft _,fun _ h=>by cases h⟩,aj.2 ⟨_,_,rfl,bK.2 ⟨[],rfl,ft _,fun _ h=>by cases h⟩,aj.2 ⟨_,_,rfl,bK.2 ⟨[],rfl,ft _,fun _ h=>by cases h⟩,dr.2 rfl⟩⟩⟩⟩⟩⟩
theorem _root_.Go.dV.cH.Qn{vs:List Value}{ds:List D}(h:cH w S (.agg vs.toArray) (.agg ds))(i:Nat){u:Value}{y:D}(hu:vs[i]? =some u)(hy:ds[i]? =some y):cH w S u y:=by
 obtain⟨G4,hv,_,h2⟩:=h.Ip
 injection hv with hv
 have:vs=G4:=by simpa using congrArg Array.toList hv
 subst this
 exact h2 i _ _ hu hy
def Ts(p:bD→Value→D→Prop):List bD→List Value→List D→Prop
 |r::rs,v::vs,d::ds=>p r v d∧Ts p rs vs ds
 | [],[],[] =>True
 |_,_,_=>False
theorem KR{p:bD→Value→D→Prop}: ∀{rs:List bD} {vs:List Value} {ds:List D},Ts p rs vs ds→ ∀(i:Nat) r v d,rs[i]? =some r→vs[i]? =some v→ds[i]? =some d→p r v d
 |r::rs,v::vs,d::ds,h,0,_,_,_,h1,h2,h3=>by
  injection h1 with h1;injection h2 with h2;injection h3 with h3
  subst h1 h2 h3
  exact h.1
 |r::rs,v::vs,d::ds,h,i+1,_,_,_,h1,h2,h3=>KR h.2 i _ _ _ h1 h2 h3
 | [],_,_,_,_,_,_,_,h1,_,_=>by simp at h1
 |_::_,[],_,_,_,_,_,_,_,h2,_=>by simp at h2
 |_::_,_::_,[],_,_,_,_,_,_,_,h3=>by simp at h3
theorem Rz{p:bD→Value→D→Prop}{r:bD}{v:Value}{d:D}{rs:List bD}{vs:List Value}{ds:List D}(h1:p r v d)(h2:Ts p rs vs ds):Ts p (r::rs) (v::vs) (d::ds):=⟨h1,h2⟩
def Be(w:World)(S:bU)(r:bD)(v:Value)(d:D):Prop:=(r.2=none→cH w S v d∧Has r.1 d)∧ ∀jT,r.2=some jT→v= .slice none 0 0∧d= .list []
theorem CB{n:Int}(h:oY .i64 n):Be w S (I6,none) (.int .i64 n) (.int .i64 n):=⟨fun _=>⟨.int _ _,n,rfl,h⟩,fun _ h=>by cases h⟩
theorem ZQ{c:Bool}:Be w S (.bool,none) (.bool c) (.bool c):=⟨fun _=>⟨.bool _,c,rfl⟩,fun _ h=>by cases h⟩
theorem yV{t:Ty}{v:Value}{d:D}(h:cH w S v d∧Has t d):Be w S (t,none) v d:=⟨fun _=>h,fun _ h=>by cases h⟩
theorem ZO{t:Ty}{jT:Nat×TypeId}:Be w S (t,some jT) (.slice none 0 0) (.list []):=⟨fun h=>(by cases h),fun _ _=>⟨rfl,rfl⟩⟩
theorem ZM{t:Ty}:Be w S (.list t,none) (.slice none 0 0) (.list []):=⟨fun _=>⟨.nil _ _,[],rfl,ft _,fun _ h=>by cases h⟩,fun _ h=>by cases h⟩
theorem ZN{ts:List Ty}:Be w S (.ptr (.dJ ts),none) (.pointer none) .gW:=⟨fun _=>⟨.gW,.inl rfl⟩,fun _ h=>by cases h⟩
theorem ZP{b:Nat}:Be w S (.box .nil,none) (.pointer (some ⟨b,0,none⟩)) (.ptr []):=⟨fun _=>⟨.ptr b [] [] rfl (fun _ h=>by cases h) (fun _ _ h=>by simp at h) (fun _ _ _ h=>by simp at h),[],rfl,dr.2 rfl⟩,fun _ h=>by cases h⟩
def P2(id term vote:Int)(bl:Nat)(k0 k1 m2 m3 m4:Value):List Value:=[.bool false,.int .i64 0,.int .i64 0,.slice none 0 0,.pointer none,.slice none 0 0,.slice none 0 0,.slice none 0 0,.int .i64 id,k0,k1,.int .i64 term,.int .i64 vote,.pointer (some ⟨bl,0,none⟩),.int .i64 0,.int .i64 0,m2,m3,m4,.int .i64 0,.int .i64 0,.int .i64 0,.int .i64 0,.int .i64 0,.slice none 0 0] ++List.replicate 18 (.int .i64 0)++[.int .i64 0,.slice none 0 0,.int .i64 0,.int .i64 0,.int .i64 0,.int .i64 0,.int .i64 0,.slice none 0 0]
theorem Ny{id term vote:Int}{bl:Nat}{k0 k1 m2 m3 m4:Value}{fv fl le:List D}(h1:oY .i64 id)(h2:oY .i64 term)(h3:oY .i64 vote)(RM:cH w S k0 (.list fv)∧Has (.list I6) (.list fv))(hk1:cH w S k1 (.list fl)∧Has (.list I6) (.list fl))(hm2:cH w S m2 (.list [])∧Has (.list I6) (.list []))(hm3:cH w S m3 (.list [])∧Has (.list I6) (.list []))(hm4:cH w S m4 (.list [])∧Has (.list (.int .u8)) (.list [])):
  Ts (Be w S) nD (P2 id term vote bl k0 k1 m2 m3 m4) (cR (sq id fv fl term vote le)):=by
 have z:oY .i64 0:=by decide
 iterate 51 refine Rz (by first|exact ZQ|exact CB z|exact ZO|exact ZN|exact ZP|exact CB h1|exact CB h2|exact CB h3|exact yV RM|exact yV hk1|exact yV hm2|exact yV hm3|exact yV hm4|exact ZM) ?_
 trivial
theorem Gw{id term vote:Int}{fv fl es:List D}{c0 c1 s4 s5 s6 s7:Value}(hw:Wf w S ow)(qY:1000≤l)(fD:ue id 1 5=true)(Yr:oY .i64 id)(hc:cH w S (.agg [c0,c1].toArray) (.agg [.list fv,.list fl]))(htc:Has pj (.agg [.list fv,.list fl]))(hm:gC (.agg [.list fv,.list fl])=true)
  (hs:cH w S (.agg [.int .i64 term,.int .i64 vote,.int .i64 0,.int .i64 0,s4,s5,s6,s7].toArray) (.agg [.int .i64 term,.int .i64 vote,.int .i64 0,.int .i64 0,.list [],.list [],.list [],.list es])) (rH:Has ml (.agg [.int .i64 term,.int .i64 vote,.int .i64 0,.int .i64 0,.list [],.list [],.list [],.list es]))
  (ht:ue term 0 MX=true) (hv:ue vote 0 MX=true) (Hx:nI 0 0 [] 0 0 es=true) (E8:fm es=true) (bP:fA 0 (lH 0 0 [] 0 0 es).2≤term) (rI:es.length<4294967296) (Yn:fN 0 0 (lH 0 0 [] 0 0 es).2=true):
  Calls Try.prog 11 [.int .i64 id,.agg [c0,c1].toArray,.agg [.int .i64 term,.int .i64 vote,.int .i64 0,.int .i64 0,s4,s5,s6,s7].toArray].toArray w fun e w'=> ∃b S' bX,e= .returned (.pointer (some ⟨b,0,none⟩))∧br (kG l) ax w S ow w' S' bX∧Wf w' S' bX∧mP w' S' bX l (ew 0) b [cR (sq id fv fl term vote (lH 0 0 [] 0 0 es).2),cL (sq id fv fl term vote (lH 0 0 [] 0 0 es).2)] ∧w.heap.size≤b:=by
 have hkt:oY .i64 term:=by simp only[ue,bc,bQ]at ht;have He:MX=1099511627776:=rfl;exact⟨by have:i64.min= -9223372036854775808:=rfl;omega,by have:i64.max=9223372036854775807:=rfl;omega⟩
 have hkv:oY .i64 vote:=by simp only[ue,bc,bQ]at hv;have He:MX=1099511627776:=rfl;exact⟨by have:i64.min= -9223372036854775808:=rfl;omega,by have:i64.max=9223372036854775807:=rfl;omega⟩
 have RM:oY .i64 0:=by decide
 have hk1:oY .i64 1:=by decide
 have hk5:oY .i64 5:=by decide
 have hkm:oY .i64 1099511627776:=by decide
 obtain⟨_,A7,q7,h7⟩:=yR (hs.Qn 7 rfl rfl) (afu rH)
 have h7':s7= .slice A7 es.length q7:=h7
 subst h7'
 refine lU Try.func11 U5 ahn auY (by show 3≤110;omega) ?_
 intro a k
 have hQ:=kj (P:=Try.prog) (fn:=Try.f11) (R:=fun e w'=> ∃b S' bX,e= .returned (.pointer (some ⟨b,0,none⟩))∧br (kG l) ax w S ow w' S' bX∧Wf w' S' bX∧mP w' S' bX l (ew 0) b [cR (sq id fv fl term vote (lH 0 0 [] 0 0 es).2),cL (sq id fv fl term vote (lH 0 0 [] 0 0 es).2)] ∧w.heap.size≤b)
 refine wp_seq (rg ax hQ anA ?_)
 intro w1 e1
 refine uP (us:=[c0,c1]) k (by decide) rfl (by decide) rfl rfl (fun _=>SX.alloc _ _ _) fun a k=> ?_
 have sa:=SX.alloc ax w1 (.cells [c0,c1].toArray 31)
 refine uP (us:=[.int .i64 term,.int .i64 vote,.int .i64 0,.int .i64 0,s4,s5,s6,.slice A7 es.length q7]) k (by decide) rfl (by decide) rfl rfl (fun _=>sa.trans (SX.alloc _ _ _)) fun a k=> ?_
 have sb:=sa.trans (SX.alloc ax _ (.cells [.int .i64 term,.int .i64 vote,.int .i64 0,.int .i64 0,s4,s5,s6,.slice A7 es.length q7].toArray 65))
 refine sm k fun a k=> ?_
 refine aJ ?_
 have lY:Wf w1 S ow:=⟨fun b o hs=>by rw[e1.heap];exact hw.s b o hs,fun b l hl=>by rw[e1.heap];exact hw.o b l hl,hw.d⟩
 have sA:br (kG l) ax w S ow w1 S ow:=br.bu e1 _ ax S ow
 obtain⟨gI,jn⟩:=br.alloc lY (.cells [c0,c1].toArray 31)
 have tE:=iH.new lY 31 [c0,c1]
 obtain⟨iQ,tG⟩:=br.alloc jn (.cells [.int .i64 term,.int .i64 vote,.int .i64 0,.int .i64 0,s4,s5,s6,.slice A7 es.length q7].toArray 65)
 have EY:=iH.new jn 65 [.int .i64 term,.int .i64 vote,.int .i64 0,.int .i64 0,s4,s5,s6,.slice A7 es.length q7]
 have tD:=tE.bw iQ (fun h=>h)
 have sC:=(sA.ba hw lY gI (fun _ h=>h.elim)).ba hw jn iQ (fun _ h=>h.elim)
 generalize hb4:w1.heap.size=b4 at k tE tD
 generalize hb5:(w1.alloc (.cells [c0,c1].toArray 31)).heap.size=b5 at k EY
 generalize (w1.alloc (.cells [c0,c1].toArray 31)).alloc _=w3 at EY tD sC tG⊢
 clear gI iQ jn tE sa sb sA lY e1
 have k:=k.sub (l:=[(6,.pointer none),(5,.pointer (some ⟨b5,0,none⟩)),(4,.pointer (some ⟨b4,0,none⟩)),(0,.int .i64 id)]) ⟨rfl,rfl,rfl,rfl,trivial⟩
 refine wp_seq (rg ax hQ anz ?_)
 intro w4 e4
 have tU:Wf w4 S ow:=⟨fun b o hs=>by rw[e4.heap];exact tG.s b o hs,fun b l hl=>by rw[e4.heap];exact tG.o b l hl,tG.d⟩
 have zU:=tD.bu e4
 have ui:=EY.bu e4
 have sD:=sC.ba hw tG (br.bu e4 ax ax S ow) (fun _ h=>h.elim)
 have s0:=SX.refl ax w4
 repeat refine sm k fun a k=> ?_
 refine j3 (vs:=[.int .i64 id,.int .i64 1,.int .i64 5]) k (by decide) rfl (by decide) c20.enter rfl (vi tU Yr hk1 hk5 fD) ?_
 rintro e w5 ⟨rfl,mw,Jl⟩
 refine⟨_,rfl,fun _=>mw.I8 _,fun a k=> ?_⟩
 have s5:=mw.I8 ax
 have sE:=sD.ba hw tU mw (fun _ h=>h.elim)
 repeat refine sm k fun a k=> ?_
 refine lN (vs:=[c0,c1]) k rfl rfl (fun w' lu q v hv=>by rw[ay];exact zU.cell (fun h=>h) hv w' lu) fun a k=> ?_
 refine j3 (vs:=[.agg [c0,c1].toArray]) k (by decide) rfl (by decide) c21.enter rfl (wJ (dd:=[.agg [.list fv,.list fl]]) (c:=true) c21 Jl rfl (fun q v d hv hd=>by
  match q,hv,hd with
  |0,hv,hd=>injection hv with hv;injection hd with hd;subst hv hd;exact hc.bw sE) (aj.2 ⟨_,_,rfl,htc,dr.2 rfl⟩) trivial (congrArg D.bool hm)) ?_
 rintro e w6 ⟨rfl,mL,zM⟩
 have s6':=s5.trans (mL.I8 ax)
 refine⟨_,rfl,fun _=>s6',fun a k=> ?_⟩
 have sF:=sE.ba hw Jl mL (fun _ h=>h.elim)
 refine pk k rfl rfl fun a k=> ?_
 repeat (first|refine sm k fun a k=> ?_|refine ld k (ui.cell (fun h=>h) rfl) fun a k=> ?_)
 refine j3 (vs:=[.int .i64 term,.int .i64 0,.int .i64 1099511627776]) k (by decide) rfl (by decide) c20.enter rfl (vi zM hkt RM hkm ht) ?_
 rintro e w7 ⟨rfl,pR,Je⟩
 have s7':=s6'.trans (pR.I8 ax)
 refine⟨_,rfl,fun _=>s7',fun a k=> ?_⟩
 have sG:=sF.ba hw zM pR (fun _ h=>h.elim)
 refine pk k rfl rfl fun a k=> ?_
 repeat (first|refine sm k fun a k=> ?_|refine ld k (ui.cell (fun h=>h) rfl) fun a k=> ?_)
 refine j3 (vs:=[.int .i64 vote,.int .i64 0,.int .i64 1099511627776]) k (by decide) rfl (by decide) c20.enter rfl (vi Je hkv RM hkm hv) ?_
 rintro e w8 ⟨rfl,uh,N0⟩
 have s8':=s7'.trans (uh.I8 ax)
 refine⟨_,rfl,fun _=>s8',fun a k=> ?_⟩
 have sH:=sG.ba hw Je uh (fun _ h=>h.elim)
 refine pk k rfl rfl fun a k=> ?_
 repeat refine sm k fun a k=> ?_
 refine aJ ?_
 have lo8:=(((zU.bw mw (fun h=>h)).bw mL (fun h=>h)).bw pR (fun h=>h)).bw uh (fun h=>h)
 have G7:=(((ui.bw mw (fun h=>h)).bw mL (fun h=>h)).bw pR (fun h=>h)).bw uh (fun h=>h)
 have k:=k.sub (l:=[(7,.bool true),(6,.pointer none),(5,.pointer (some ⟨b5,0,none⟩)),(4,.pointer (some ⟨b4,0,none⟩)),(0,.int .i64 id)]) ⟨rfl,rfl,rfl,rfl,rfl,trivial⟩
 clear mw mL pR uh sC sD sE sF sG s0 s5 s6' s7' s8' tD zU EY ui e4 tG tU Jl zM Je
 refine wp_seq (rg (fun bb=>ow bb=some l) hQ anx ?_)
 intro w9 e9
 have Xa:Wf w9 S ow:=⟨fun b o hs=>by rw[e9.heap];exact N0.s b o hs,fun b l hl=>by rw[e9.heap];exact N0.o b l hl,N0.d⟩
 have lo9:=lo8.bu e9
 have W5:=G7.bu e9
 have sI:=sH.ba hw N0 (br.bu e9 ax ax S ow) (fun _ h=>h.elim)
 have s0:=SX.refl (fun bb=>ow bb=some l) w9
 have PE: ¬ow b5=some l:=by rw[W5.ow];intro h;cases h
 repeat (first|refine sm k fun a k=> ?_|refine ld k (W5.cell PE rfl) fun a k=> ?_)
 refine j3 (vs:=[.int .i64 0,.int .i64 0]) k (by decide) rfl (by decide) cnw.enter rfl (Wm (l:=l) Xa RM RM ⟨by decide,by decide⟩ qY) ?_
 rintro e wa ⟨bl,Sa,Jb,rfl,FO,rD,SY,FX⟩
 have sa:SX (fun bb=>ow bb=some l) w9 wa:=SX.jD (fun _ h=>h) FO
 refine⟨_,rfl,fun _=>sa,fun a k=> ?_⟩
 repeat refine sm k fun a k=> ?_
 refine aJ ?_
 have loa:=lo9.bw FO (fun h=>h)
 have lxa:=W5.bw FO (fun h=>h)
 have sJ:=sI.gX hw Xa FO rfl
 have hca:=hc.bw sJ
 have vK:=hs.bw sJ
 have iY:=sI.size
 have k:=k.sub (l:=[(8,.pointer (some ⟨bl,0,none⟩)),(7,.bool true),(6,.pointer none),(5,.pointer (some ⟨b5,0,none⟩)),(4,.pointer (some ⟨b4,0,none⟩)),(0,.int .i64 id)]) ⟨rfl,rfl,rfl,rfl,rfl,rfl,trivial⟩
 clear sa s0 FO sI lo9 W5 lo8 G7 e9 Xa sH N0
 refine wp_seq (wp_seq (rg ax hQ anw ?_))
 intro wb eb
 have LA:Wf wb Sa Jb:=⟨fun b o hs=>by rw[eb.heap];exact rD.s b o hs,fun b l hl=>by rw[eb.heap];exact rD.o b l hl,rD.d⟩
 have Jk:=loa.bu eb
 have lxb:=lxa.bu eb
 have Lv:br ax ax wa Sa Jb wb Sa Jb:=br.bu eb ax ax Sa Jb
 have sK:=sJ.ba hw rD Lv (fun _ h=>h.elim)
 have C2:=SY.bw rD LA Lv (fun h=>h) rfl
 have s0:=SX.refl ax wb
 repeat refine sm k fun a k=> ?_
 refine uO k (by assumption) rfl (by decide) rfl fun a k=> ?_
 repeat refine sm k fun a k=> ?_
 refine UT k (by assumption) rfl (by decide) rfl rfl (by kernel_rfl) fun a k=> ?_
 refine pk k rfl rfl fun a k=> ?_
 repeat (first|refine sm k fun a k=> ?_|refine ld k (lxb.cell (fun h=>h) rfl) fun a k=> ?_)
 refine cm (c:=false) k rfl rfl rfl fun a k=> ?_
 repeat refine sm k fun a k=> ?_
 iterate 6 refine Tu k (by assumption) rfl rfl (by decide) fun a k=> ?_
 repeat refine sm k fun a k=> ?_
 refine pk k rfl rfl fun a k=> ?_
 refine pk k rfl rfl fun a k=> ?_
 refine aJ (bz k rfl (wp_skip ?_))
 have k:=k.sub (l:=[(8,.pointer (some ⟨bl,0,none⟩)),(6,.pointer none),(5,.pointer (some ⟨b5,0,none⟩)),(4,.pointer (some ⟨b4,0,none⟩)),(0,.int .i64 id)]) ⟨rfl,rfl,rfl,rfl,rfl,trivial⟩
 have LM:=hc.bw sK
 have R5:=hs.bw sK
 have Fb:cH wb Sa (.slice A7 es.length q7) (.list es):=R5.Qn 7 rfl rfl
 clear Lv s0 lxa loa eb SY rD hca vK
 refine wp_seq (wp_seq (rg (fun bb=>Jb bb=some l) hQ anv ?_))
 intro wc ec
 have PG:Wf wc Sa Jb:=⟨fun b o hs=>by rw[ec.heap];exact LA.s b o hs,fun b l hl=>by rw[ec.heap];exact LA.o b l hl,LA.d⟩
 have loc:=Jk.bu ec
 have lxc:=lxb.bu ec
 have RC:br ax ax wb Sa Jb wc Sa Jb:=br.bu ec ax ax Sa Jb
 have sL:=sK.ba hw LA RC (fun _ h=>h.elim)
 have ae7:=C2.bw LA PG RC (fun h=>h) rfl
 have s0:=SX.refl (fun bb=>Jb bb=some l) wc
 have PE: ¬Jb b5=some l:=by rw[lxc.ow];intro h;cases h
 repeat (first|refine sm k fun a k=> ?_|refine ld k (lxc.cell PE rfl) fun a k=> ?_)
 refine j3 (vs:=[.pointer (some ⟨bl,0,none⟩),.int .i64 0,.int .i64 0,.slice A7 es.length q7]) k (by decide) rfl (by decide) c23.enter rfl (Ll (i:=0) (t:=0) (le:=[]) (es:=es) ae7 PG qY (aj.2 ⟨_,_,rfl,⟨0,rfl,RM⟩,aj.2 ⟨_,_,rfl,⟨0,rfl,RM⟩,aj.2 ⟨_,_,rfl,afu rH,aj.2 ⟨_,_,rfl,⟨0,rfl,RM⟩,aj.2 ⟨_,_,rfl,⟨0,rfl,RM⟩,aj.2 ⟨_,_,rfl,bK.2 ⟨[],rfl,ft _,fun _ h=>by cases h⟩,dr.2 rfl⟩⟩⟩⟩⟩⟩) (Fb.bw RC) (by decide) (by decide) rI) ?_
 rintro e wd ⟨Sd,Ln,rfl,Xs,PF,ae6⟩
 have sd:SX (fun bb=>Jb bb=some l) wc wd:=SX.jD (fun _ h=>h) Xs
 refine⟨_,rfl,fun _=>sd,fun a k=> ?_⟩
 rw[Hx]at k
 refine sm k fun a k=> ?_
 refine xK (j:=0) k (by assumption) rfl (by decide) rfl rfl fun a k=> ?_
 refine xK (j:=1) k (by assumption) rfl (by decide) rfl rfl fun a k=> ?_
 repeat refine sm k fun a k=> ?_
 refine aJ ?_
 have lod:=loc.bw Xs (fun h=>h)
 have lxd:=lxc.bw Xs (fun h=>h)
 have sM:=sL.gX hw PG Xs rfl
 have k:=k.sub (l:=[(10,.bool true),(8,.pointer (some ⟨bl,0,none⟩)),(6,.pointer none),(5,.pointer (some ⟨b5,0,none⟩)),(4,.pointer (some ⟨b4,0,none⟩)),(0,.int .i64 id)]) ⟨rfl,rfl,rfl,rfl,rfl,rfl,trivial⟩
 generalize hle:(lH 0 0 [] 0 0 es).2=le at ae6 bP Yn hQ⊢
 clear Xs s0 sd PE ae7 RC sL loc lxc PG ec C2 LA Jk lxb sK LM R5 Fb
 refine wp_seq (rg ax hQ anu ?_)
 intro we ee
 have hwe:Wf we Sd Ln:=⟨fun b o hs=>by rw[ee.heap];exact PF.s b o hs,fun b l hl=>by rw[ee.heap];exact PF.o b l hl,PF.d⟩
 have loe:=lod.bu ee
 have lxe:=lxd.bu ee
 have WY:br ax ax wd Sd Ln we Sd Ln:=br.bu ee ax ax Sd Ln
 have sN:=sM.ba hw PF WY (fun _ h=>h.elim)
 have alm:=ae6.bw PF hwe WY (fun h=>h) rfl
 have s0:=SX.refl ax we
 repeat refine sm k fun a k=> ?_
 refine uO k (by assumption) rfl (by decide) rfl fun a k=> ?_
 repeat (first|refine sm k fun a k=> ?_|refine ld k (lxe.cell (fun h=>h) rfl) fun a k=> ?_)
 refine j3 (vs:=[.slice A7 es.length q7]) k (by decide) rfl (by decide) c24.enter rfl (wJ (dd:=[.list es]) (c:=true) c24 hwe rfl (fun q v d hv hd=>by
  match q,hv,hd with
  |0,hv,hd=>injection hv with hv;injection hd with hd;subst hv hd;exact(hs.bw sN).Qn 7 rfl rfl) (aj.2 ⟨_,_,rfl,afu rH,dr.2 rfl⟩) trivial (congrArg D.bool E8)) ?_
 rintro e wf ⟨rfl,Py,iB⟩
 have sf:=Py.I8 ax
 refine⟨_,rfl,fun _=>sf,fun a k=> ?_⟩
 refine uO k (by assumption) rfl (by decide) rfl fun a k=> ?_
 refine pk k rfl rfl fun a k=> ?_
 refine aJ (bz k rfl (wp_skip ?_))
 have lof:=loe.bw Py (fun h=>h)
 have lxf:=lxe.bw Py (fun h=>h)
 have alk:=alm.bw hwe iB Py (fun h=>h) rfl
 have sO:=sN.ba hw hwe Py (fun _ h=>h.elim)
 have k:=k.sub (l:=[(8,.pointer (some ⟨bl,0,none⟩)),(6,.pointer none),(5,.pointer (some ⟨b5,0,none⟩)),(4,.pointer (some ⟨b4,0,none⟩)),(0,.int .i64 id)]) ⟨rfl,rfl,rfl,rfl,rfl,trivial⟩
 clear Py sf alm s0 sN WY loe lxe hwe ee lod lxd sM PF ae6
 refine wp_seq (wp_seq (rg ax hQ ant ?_))
 intro wg eg
 have hwg:Wf wg Sd Ln:=⟨fun b o hs=>by rw[eg.heap];exact iB.s b o hs,fun b l hl=>by rw[eg.heap];exact iB.o b l hl,iB.d⟩
 have stg:br ax ax wf Sd Ln wg Sd Ln:=br.bu eg ax ax Sd Ln
 have sP:=sO.ba hw iB stg (fun _ h=>h.elim)
 have ae5:=alk.bw iB hwg stg (fun h=>h) rfl
 have s0:=SX.refl ax wg
 repeat refine sm k fun a k=> ?_
 refine j3 (vs:=[.pointer (some ⟨bl,0,none⟩)]) k (by decide) rfl (by decide) c25.enter rfl (Q6 ae5 hwg Yn) ?_
 rintro e wh ⟨rfl,sth,hwh⟩
 have sh:=sth.I8 ax
 refine⟨_,rfl,fun _=>sh,fun a k=> ?_⟩
 refine sm k fun a k=> ?_
 refine xK (j:=0) k (by assumption) rfl (by decide) rfl rfl fun a k=> ?_
 refine xK (j:=1) k (by assumption) rfl (by decide) rfl rfl fun a k=> ?_
 repeat refine sm k fun a k=> ?_
 refine aJ ?_
 have loh:=(lof.bu eg).bw sth (fun h=>h)
 have lxh:=(lxf.bu eg).bw sth (fun h=>h)
 have alj:=ae5.bw hwg hwh sth (fun h=>h) rfl
 have sQ:=sP.ba hw hwg sth (fun _ h=>h.elim)
 have k:=k.sub (l:=[(12,.int .i64 (gn 0 0 le).2),(8,.pointer (some ⟨bl,0,none⟩)),(6,.pointer none),(5,.pointer (some ⟨b5,0,none⟩)),(4,.pointer (some ⟨b4,0,none⟩)),(0,.int .i64 id)]) ⟨rfl,rfl,rfl,rfl,rfl,rfl,trivial⟩
 clear sth sh ae5 s0 sP stg hwg eg lof lxf sO iB alk
 refine wp_seq (rg ax hQ ans ?_)
 intro wi ei
 have Z9:Wf wi Sd Ln:=⟨fun b o hs=>by rw[ei.heap];exact hwh.s b o hs,fun b l hl=>by rw[ei.heap];exact hwh.o b l hl,hwh.d⟩
 have loi:=loh.bu ei
 have lxi:=lxh.bu ei
 have sti:br ax ax wh Sd Ln wi Sd Ln:=br.bu ei ax ax Sd Ln
 have sR:=sQ.ba hw hwh sti (fun _ h=>h.elim)
 have avA:=alj.bw hwh Z9 sti (fun h=>h) rfl
 have s0:=SX.refl ax wi
 repeat (first|refine sm k fun a k=> ?_|refine ld k (lxi.cell (fun h=>h) rfl) fun a k=> ?_)
 refine cm (c:=false) k rfl rfl (VP (by show¬fA 0 le>term;omega)) fun a k=> ?_
 refine aJ (bz k rfl (wp_skip ?_))
 have k:=k.sub (l:=[(8,.pointer (some ⟨bl,0,none⟩)),(5,.pointer (some ⟨b5,0,none⟩)),(4,.pointer (some ⟨b4,0,none⟩)),(0,.int .i64 id)]) ⟨rfl,rfl,rfl,rfl,trivial⟩
 clear s0 sti sQ alj lxh loh hwh ei
 refine wp_seq (amp (n0:=10) ax mix (by intro c a d v w h;exact hQ c a d v w h) ago (by kernel_rfl) ?_)
 intro wj ej
 have hwj:Wf wj Sd Ln:=⟨fun b o hs=>by rw[ej.heap];exact Z9.s b o hs,fun b l hl=>by rw[ej.heap];exact Z9.o b l hl,Z9.d⟩
 have loj:=loi.bu ej
 have Z1:=lxi.bu ej
 have stj:br ax ax wi Sd Ln wj Sd Ln:=br.bu ej ax ax Sd Ln
 have sS:=sR.ba hw Z9 stj (fun _ h=>h.elim)
 have nM:=avA.bw Z9 hwj stj (fun h=>h) rfl
 have s0:=SX.refl ax wj
 repeat refine sm k fun a k=> ?_
 refine lN (vs:=[c0,c1]) k rfl rfl (fun w' lu q v hv=>by rw[ay];exact loj.cell (fun h=>h) hv w' lu) fun a k=> ?_
 repeat refine sm k fun a k=> ?_
 refine lN (vs:=[.int .i64 term,.int .i64 vote]) k rfl rfl (fun w' lu q v hv=>by
  match q,hv with
  |0,hv=>injection hv with hv;subst hv;exact Z1.cell (fun h=>h) (j:=0) rfl w' lu
  |1,hv=>injection hv with hv;subst hv;exact Z1.cell (fun h=>h) (j:=1) rfl w' lu) fun a k=> ?_
 repeat refine sm k fun a k=> ?_
 refine lN (vs:=[.int .i64 0,.int .i64 0,s4,s5,s6]) k rfl rfl (fun w' lu q v hv=>by
  match q,hv with
  |0,hv=>injection hv with hv;subst hv;exact Z1.cell (fun h=>h) (j:=2) rfl w' lu
  |1,hv=>injection hv with hv;subst hv;exact Z1.cell (fun h=>h) (j:=3) rfl w' lu
  |2,hv=>injection hv with hv;subst hv;exact Z1.cell (fun h=>h) (j:=4) rfl w' lu
  |3,hv=>injection hv with hv;subst hv;exact Z1.cell (fun h=>h) (j:=5) rfl w' lu
  |4,hv=>injection hv with hv;subst hv;exact Z1.cell (fun h=>h) (j:=6) rfl w' lu) fun a k=> ?_
 repeat (first|refine sm k fun a k=> ?_|refine ld k (Z1.cell (fun h=>h) rfl) fun a k=> ?_)
 refine j3 (vs:=[.agg [c0,c1].toArray]) k (by decide) rfl (by decide) c26.enter rfl (Gt (dd:=[.agg [.list fv,.list fl]]) c26 rfl hwj rfl (fun q v d hv hd=>by
  match q,hv,hd with
  |0,hv,hd=>injection hv with hv;injection hd with hd;subst hv hd;exact hc.bw sS) (aj.2 ⟨_,_,rfl,htc,dr.2 rfl⟩) trivial) ?_
 rintro e wk ⟨vc,Sk,τk,rfl,gk,hwk,aoa⟩
 obtain⟨uc,dc,rfl,hdc,avl,aBM,qt⟩:=Pw rfl aoa
 have sk:=gk.I8 ax
 refine⟨_,rfl,fun _=>sk,fun a k=> ?_⟩
 have sT:=sS.ba hw hwj gk (fun _ h=>h.elim)
 refine j3 (vs:=[.agg [.int .i64 0,.int .i64 0,s4,s5,s6].toArray]) k (by decide) rfl (by decide) c27.enter rfl (Gt (dd:=[.agg [.int .i64 0,.int .i64 0,.list [],.list [],.list []]]) c27 rfl hwk rfl (fun q v d hv hd=>by
  match q,hv,hd with
  |0,hv,hd=>
   injection hv with hv;injection hd with hd;subst hv hd
   exact .agg _ _ rfl (fun q u y hu hy=>by
    match q,hu,hy with
    |0,hu,hy=>injection hu with hu;injection hy with hy;subst hu hy;exact .int _ _
    |1,hu,hy=>injection hu with hu;injection hy with hy;subst hu hy;exact .int _ _
    |2,hu,hy=>injection hu with hu;injection hy with hy;subst hu hy;exact(hs.bw sT).Qn 4 rfl rfl
    |3,hu,hy=>injection hu with hu;injection hy with hy;subst hu hy;exact(hs.bw sT).Qn 5 rfl rfl
    |4,hu,hy=>injection hu with hu;injection hy with hy;subst hu hy;exact(hs.bw sT).Qn 6 rfl rfl)) (aj.2 ⟨_,_,rfl,QA,dr.2 rfl⟩) trivial) ?_
 rintro e wl ⟨vs,Sl,τl,rfl,stl,W9,an9⟩
 obtain⟨us,ds,rfl,qC,SM,aBK,kP⟩:=Pw rfl an9
 have sl:=sk.trans (stl.I8 ax)
 refine⟨_,rfl,fun _=>sl,fun a k=> ?_⟩
 have sU:=sT.ba hw hwk stl (fun _ h=>h.elim)
 have av5:dc=[.list fv,.list fl] :=by
  have e:cF 26 [.agg [.list fv,.list fl]] = .agg [.list fv,.list fl] :=rfl
  rw[e]at hdc;injection hdc with hdc;exact hdc.symm
 have av3:ds=[.int .i64 0,.int .i64 0,.list [],.list [],.list []] :=by
  have e:cF 27 [.agg [.int .i64 0,.int .i64 0,.list [],.list [],.list []]] = .agg [.int .i64 0,.int .i64 0,.list [],.list [],.list []] :=rfl
  rw[e]at qC;injection qC with qC;exact qC.symm
 subst av5 av3
 have an7:uc.length=2:=avl
 have an6:us.length=5:=SM
 obtain⟨k0,k1,zQ⟩: ∃k0 k1,uc=[k0,k1] :=by
  match uc,an7 with
  | [k0,k1],_=>exact⟨k0,k1,rfl⟩
 obtain⟨m0,m1,m2,m3,m4,PI⟩: ∃m0 m1 m2 m3 m4,us=[m0,m1,m2,m3,m4] :=by
  match us,an6 with
  | [m0,m1,m2,m3,m4],_=>exact⟨m0,m1,m2,m3,m4,rfl⟩
 rw[zQ]at k qt
 rw[PI]at k kP
 have q0:=qt 0 _ _ _ rfl rfl rfl
 have q1:=qt 1 _ _ _ rfl rfl rfl
 have z0:=(kP 0 _ _ _ rfl rfl rfl).1.cX
 have z1:=(kP 1 _ _ _ rfl rfl rfl).1.cX
 have z2:=kP 2 _ _ _ rfl rfl rfl
 have z3:=kP 3 _ _ _ rfl rfl rfl
 have z4:=kP 4 _ _ _ rfl rfl rfl
 rw[z0,z1]at k
 refine p9 (ps:=[(1,.int .i64 id),(2,.agg [k0,k1].toArray),(3,.agg [.int .i64 term,.int .i64 vote].toArray),(4,.pointer (some ⟨bl,0,none⟩)),(5,.agg [.int .i64 0,.int .i64 0,m2,m3,m4].toArray),(6,.int .i64 0)]) (vs:=P2 id term vote bl k0 k1 m2 m3 m4) k (by assumption) rfl (by decide) rfl (by kernel_rfl) fun a k=> ?_
 refine uP (us:=P2 id term vote bl k0 k1 m2 m3 m4) k (by decide) rfl (by decide) rfl rfl (fun _=>sl.trans (SX.alloc _ _ _)) fun a k=> ?_
 have sn:=sl.trans (SX.alloc ax wl (.cells (P2 id term vote bl k0 k1 m2 m3 m4).toArray 108))
 refine sm k fun a k=> ?_
 refine aJ ?_
 obtain⟨ZX,hwm⟩:=br.alloc W9 (.cells (P2 id term vote bl k0 k1 m2 m3 m4).toArray 108)
 have lom:=iH.new W9 108 (P2 id term vote bl k0 k1 m2 m3 m4)
 have avz:=(nM.bw hwj hwk gk (fun h=>h) rfl).bw hwk W9 stl (fun h=>h) rfl
 have SW:=avz.bw W9 hwm ZX (fun h=>h) rfl
 have sV:=sU.ba hw W9 ZX (fun _ h=>h.elim)
 have hbn:w.heap.size≤wl.heap.size:=sU.size
 generalize hbN:wl.heap.size=bN at k lom hbn
 have iY:=ZX.size
 obtain⟨bX,how,lu,qu⟩:=Zm (s:=sq id fv fl term vote le) SW hwm lom qY rfl rfl (KR (Ny (bl:=bl) Yr hkt hkv ⟨(q0.1.bw stl).bw ZX,q0.2⟩ ⟨(q1.1.bw stl).bw ZX,q1.2⟩ ⟨z2.1.bw ZX,z2.2⟩ ⟨z3.1.bw ZX,z3.2⟩ ⟨z4.1.bw ZX,z4.2⟩))
 have stn:br (kG l) ax w S ow _ Sl bX:=⟨sV.size,sV.os,sV.tape,sV.output,sV.CJ,sV.free,sV.kJ,sV.cell,fun b' l' h1 h2=>by
   rw[how]
   have h3:=sV.keep b' l' h1 h2
   split
   ·rename_i e
    have:=hw.o b' l' h1
    omega
   ·exact h3,sV.new,fun b' h1 h2=>by
   rw[how,if_neg (by omega)]
   exact sV.rQ b' h1 h2,fun b' l' h1=>by
   rw[how]at h1
   split at h1
   ·injection h1 with h1;exact .inr h1.symm
   ·exact sV.jD b' l' h1⟩
 exact wp_ret (uX amo k rfl ⟨bN,Sl,bX,rfl,stn,lu,qu,hbn⟩).1
end
def RT(n:Nat):List D:=(List.range n).map fun i=>.int .i64 ((i+1:Nat):Int)
theorem WA(n:Nat):RT (n+1)=RT n++[.int .i64 ((n+1:Nat):Int)] :=by unfold RT;rw[List.range_succ,cz];rfl
theorem Pf(n:Nat):(RT n).length=n:=by unfold RT;simp
def Ds:D:=.agg [.int .i64 0,.int .i64 0,.int .i64 0,.int .i64 0,.list [],.list [],.list [],.list []]
def Sx(n i:Nat):RS:=sq ((i+1:Nat):Int) (RT n) [] 0 0 []
def gB(n j:Nat):GS:=⟨RT n,[],(List.range j).map (Sx n),List.replicate j Ds,[],[],[],List.replicate j (.int .i64 0),[],List.replicate j [],false⟩
theorem Zv(n j:Nat):gB n (j+1)={gB n j with iC:=(gB n j).iC++[Sx n j],saved:=(gB n j).saved++[Ds],bJ:=(gB n j).bJ++[[]],dL:=(gB n j).dL++[.int .i64 0]}:=by
 unfold gB
 simp only[List.range_succ,cz,cZ,List.map_nil,List.replicate_succ']
def jJ:Value:=.slice none 0 0
def R0(v:Value):GR:=⟨v,jJ,jJ,jJ,jJ,jJ,jJ,jJ,jJ,jJ,[],[],[],[]⟩
theorem Es:Has ml Ds:=
 eN.2 ⟨_,rfl,aj.2 ⟨_,_,rfl,⟨0,rfl,by decide⟩,aj.2 ⟨_,_,rfl,⟨0,rfl,by decide⟩,aj.2 ⟨_,_,rfl,⟨0,rfl,by decide⟩,aj.2 ⟨_,_,rfl,⟨0,rfl,by decide⟩,aj.2 ⟨_,_,rfl,bK.2 ⟨[],rfl,ft _,fun _ h=>by cases h⟩,aj.2 ⟨_,_,rfl,bK.2 ⟨[],rfl,ft _,fun _ h=>by cases h⟩,aj.2 ⟨_,_,rfl,bK.2 ⟨[],rfl,ft _,fun _ h=>by cases h⟩,aj.2 ⟨_,_,rfl,bK.2 ⟨[],rfl,ft _,fun _ h=>by cases h⟩,dr.2 rfl⟩⟩⟩⟩⟩⟩⟩⟩⟩
section
variable{w w':World}{S S':bU}{ow bX:Ow}{b i n:Nat}{vs:List Value}{R:GR}{g:GS}{X:Nat→Prop}
theorem GM.Sx{j:Nat}(h:GM w S ow b vs R g)(st:br (kG (1000+j)) X w S ow w' S' bX)(hw:Wf w' S' bX)(hj:g.iC.length≤j)(hv:g.bJ.length≤5):GM w' S' bX b vs R g:=
 ⟨hw,h.obj.bw st cB,h.fv.bw st,h.fl.bw st,h.arr.bw h.wf st cB,h.vI,fun i s hi=>let ⟨bs,h1,h2,h3⟩:=h.iC i s hi;⟨bs,h1,h2.bw h.wf hw st (by have:=(aH.1 hi).1;simp only[kG];omega) rfl,h3⟩,h.saved.bw h.wf st cB,h.kI.bw h.wf st cB,h.told.bw h.wf st cB,h.bR.bw h.wf st cB,h.dL.bw h.wf st cB,h.read.bw h.wf st cB,h.EW.bw h.wf st cB,h.AQ,fun i l hi=>let ⟨v,h1,h2⟩:=h.q8 i l hi;⟨v,h1,h2.bw h.wf st (by have:=(aH.1 hi).1;simp only[kG];omega)⟩⟩
theorem GM.ahq{bs:Nat}{s:RS}(h:GM w S ow b vs R g)(ho:mP w S ow (1000+g.iC.length) (ew 0) bs [cR s,cL s]):GM w S ow b vs {R with lb:=R.lb++[bs]} {g with iC:=g.iC++[s]}:=
 ⟨h.wf,h.obj,h.fv,h.fl,h.arr,by simp[h.vI],fun i s' hi=>by
  simp only at hi⊢
  rw[dG]at hi
  split at hi
  ·rename_i bP
   obtain⟨b2,h1,h2,h3⟩:=h.iC i s' hi
   exact⟨b2,by rw[dG,if_pos (by rw[h.vI];exact bP)];exact h1,h2,h3⟩
  ·have hz:i=g.iC.length:=by
    have:=(aH.1 hi).1
    simp at this;omega
   subst hz
   simp at hi
   subst hi
   exact⟨bs,by rw[dG,if_neg (by rw[h.vI];omega),h.vI];simp,ho,iz ho⟩,h.saved,h.kI,h.told,h.bR,h.dL,h.read,h.EW,h.AQ,h.q8⟩
theorem GM.ZV(h:GM w S ow b vs R g)(hv:g.bJ.length≤5):GM w S ow b vs {R with vv:=R.vv++[jJ]} {g with bJ:=g.bJ++[[]]}:=
 ⟨h.wf,h.obj,h.fv,h.fl,h.arr,h.vI,h.iC,h.saved,h.kI,h.told,h.bR,h.dL,h.read,h.EW,by simp[h.AQ],fun i l hi=>by
  simp only at hi⊢
  rw[dG]at hi
  split at hi
  ·rename_i bP
   obtain⟨v,h1,h2⟩:=h.q8 i l hi
   exact⟨v,by rw[dG,if_pos (by rw[h.AQ];exact bP)];exact h1,h2⟩
  ·have hz:i=g.bJ.length:=by
    have:=(aH.1 hi).1
    simp at this;omega
   subst hz
   simp at hi
   subst hi
   exact⟨jJ,by rw[dG,if_neg (by rw[h.AQ];omega),h.AQ];simp,dW.nil (by decide) (by omega)⟩⟩
theorem GM.begin{v:Value}{xs:List D}(hw:Wf w S ow)(ob:Ai w ow 0 b 59 ((R0 v).cells false))(hv:cH w S v (.list xs)):GM w S ow b ((R0 v).cells false) (R0 v) ⟨xs,[],[],[],[],[],[],[],[],[],false⟩:=
 ⟨hw,ob,hv,.nil _ _,lC.nil (by omega),rfl,fun i s h=>by simp at h,dW.nil (by decide) (by omega),dW.nil (by decide) (by omega),dW.nil (by decide) (by omega),dW.nil (by decide) (by omega),dW.nil (by decide) (by omega),dW.nil (by decide) (by omega),lC.nil (by omega),rfl,fun i l h=>by simp at h⟩
end
def pQ(w:World)(S:bU)(n:Nat):Exit→Act→World→Prop:=bodyPost Try.prog Try.f9 (fun e w'=> ∃b S' bX,e= .returned (bp b)∧br LG ax w S (fun _=>none) w' S' bX∧nw w' S' bX b (gB n n))
theorem K8{n:Nat}(h:n≤10):oG ml n:=by
 have hb:ml.bytes≤1000:=by decide
 refine⟨by simp only[maxLen];omega,?_⟩
 have:n*ml.bytes≤10*1000:=Nat.mul_le_mul h hb
 omega
theorem Wz{n:Nat}(h:n≤5):Has pj (.agg [.list (RT n),.list []]):=
 eN.2 ⟨_,rfl,aj.2 ⟨_,_,rfl,bK.2 ⟨_,rfl,pN (by rw[Pf];omega),fun x hx=>by
  unfold RT at hx
  obtain⟨i,hi,rfl⟩:=bB.1 hx
  have:=cW.1 hi
  exact⟨_,rfl,⟨by have:i64.min= -9223372036854775808:=rfl;omega,by have:i64.max=9223372036854775807:=rfl;omega⟩⟩⟩,aj.2 ⟨_,_,rfl,bK.2 ⟨[],rfl,ft _,fun _ h=>by cases h⟩,dr.2 rfl⟩⟩⟩
theorem Wl{n:Nat}(h1:1≤n)(h5:n≤5):gC (.agg [.list (RT n),.list []])=true:=by
 obtain rfl|rfl|rfl|rfl|rfl:n=1∨n=2∨n=3∨n=4∨n=5:=by omega
 all_goals decide
section
variable{w:World}{S:bU}{ow:Ow}{b j n:Nat}{R:GR}{Q:Exit→Act→World→Prop}{a:Act}
noncomputable def Iv:Code:=.seq (.region 13 TG false) (.seq (.region 14 TF true) (.seq (.region 15 TE false) (.region 16 TD false)))
def zV:List Value:=[.int .i64 0,.int .i64 0,.int .i64 0,.int .i64 0,jJ,jJ,jJ,jJ]
theorem Rx(hQ:QP Q)(gm:GM w S ow b (R.cells false) R (gB n j))(j6:R.la=R.lb)(me:R.va=R.vv)(hj:j<n)(hn:n≤5)(k:Kn 97 a [(8,.int .i64 ((j+1:Nat):Int)),(5,bp b),(0,.int .i64 n)])
  (jt: ∀a W S' bX R',Kn 97 a [(8,.int .i64 ((j+1:Nat):Int)),(5,bp b),(0,.int .i64 n)] →br LG ax w S ow W S' bX→GM W S' bX b (R'.cells false) R' (gB n (j+1))→R'.la=R'.lb→R'.va=R'.vv→Q .normal a W):Iv.wp Try.prog Q a w:=by
 unfold Iv
 have iB:=gm.wf
 have Hc:(gB n j).iC.length=j:=by unfold gB;simp
 have zX:(gB n j).bJ.length=j:=by unfold gB;simp
 refine wp_seq (rg (fun bb=>ow bb=some 10) hQ amx ?_)
 intro w1 e1
 have eZ:=gm.bu e1
 have j8:=(br.refl LG ax w S ow).ba iB iB (br.bu e1 ax ax S ow) (fun _ h=>h.elim)
 have s0:=SX.refl (fun bb=>ow bb=some 10) w1
 have vJ: ¬ow b=some 10:=by rw[eZ.obj.ow];decide
 repeat (first|refine sm k fun a k=> ?_|refine ld k (eZ.cell vJ rfl) fun a k=> ?_)
 refine p9 (ps:=[]) (vs:=zV) k (by assumption) rfl (by decide) rfl (by kernel_rfl) fun a k=> ?_
 refine qK (kk:=8) (T:=65) k (by decide) rfl (by decide) rfl (by kernel_rfl) rfl (fun _=>SX.alloc _ _ _) fun a k=> ?_
 obtain⟨vK,rD⟩:=br.alloc eZ.wf (.cells (Value.agg zV.toArray).cells 65)
 have Jw:=eZ.bw vK rD
 refine yq k (by decide) rfl (by decide) fun ty pos af=> ?_
 obtain⟨v',w',fh,bX,JI,tG,ho4⟩:=Jw.saved.Qm (P:=Try.prog) (tt:=55) (by kernel_rfl) rfl rD ty w1.heap.size (d:=Ds) Es (us:=zV) rfl (heap_alloc_new w1 _) (by
  intro q u c hu hc
  match q,hu,hc with
  |0,hu,hc=>injection hu with hu;injection hc with hc;subst hu hc;exact .int _ _
  |1,hu,hc=>injection hu with hu;injection hc with hc;subst hu hc;exact .int _ _
  |2,hu,hc=>injection hu with hu;injection hc with hc;subst hu hc;exact .int _ _
  |3,hu,hc=>injection hu with hu;injection hc with hc;subst hu hc;exact .int _ _
  |4,hu,hc=>injection hu with hu;injection hc with hc;subst hu hc;exact .nil _ _
  |5,hu,hc=>injection hu with hu;injection hc with hc;subst hu hc;exact .nil _ _
  |6,hu,hc=>injection hu with hu;injection hc with hc;subst hu hc;exact .nil _ _
  |7,hu,hc=>injection hu with hu;injection hc with hc;subst hu hc;exact .nil _ _) (K8 (by unfold gB;simp;omega))
 have s1:SX (fun bb=>ow bb=some 10) w1 w':=(SX.alloc _ _ _).trans (SX.jD (fun _ h=>h) JI)
 refine⟨v',w',k8 (k.op rfl) (k.op rfl) fh,fun _=>s1,fun a k=> ?_⟩
 have iV:=Jw.Gm JI tG ho4
 obtain⟨Av,cv,pn⟩:=ho4.slice
 repeat refine sm k fun a k=> ?_
 refine mW (cur:=R.cells false) k (by decide) rfl (by kernel_rfl) rfl rfl (by rw[pn];rfl) iV.obj.heap (by show 3<11;omega) (by rw[pn];rfl) (fun h=>absurd rfl h) fun a k=> ?_
 refine aJ ?_
 obtain⟨jX,tU,Xu⟩:=iV.obj.set tG (us:=(R.cells false).set (0+3) v')
 have mh:=iV.setObj jX tU Xu
 have BF:=((j8.ba iB eZ.wf vK (fun _ h=>h.elim)).gX iB rD JI (.inl (by decide))).gX iB tG jX (.inl (by decide))
 have k:=k.sub (l:=[(8,.int .i64 ((j+1:Nat):Int)),(5,bp b),(0,.int .i64 n)]) ⟨rfl,rfl,rfl,trivial⟩
 generalize hR1:({R with saved:=v'}:GR)=R1 at mh
 have Te:R1.la=R1.lb:=by rw[←hR1];exact j6
 have Yh:R1.va=R1.vv:=by rw[←hR1];exact me
 have qZ:(R.cells false).set (0+3) v'=R1.cells false:=by rw[←hR1];rfl
 rw[qZ]at mh
 clear jX JI vK j8 iV Jw eZ s1 s0 e1 ho4 fh hR1 gm Xu
 rw[qZ]at BF tU⊢
 generalize w'.setRow _ _=w4 at mh BF tU⊢
 refine wp_seq (lR (n0:=11) (fun bb=>bX bb=some (1000+j)∨bX bb=some 1) mix (fun c a d v w h=>hQ c a d v w h) amw (fun _=>by kernel_rfl) ?_)
 intro w5 e5
 have my:=mh.bu e5
 have mw:=BF.ba iB tU (br.bu e5 ax ax S bX) (fun _ h=>h.elim)
 have s0:=SX.refl (fun bb=>bX bb=some (1000+j)∨bX bb=some 1) w5
 have vJ: ¬(bX b=some (1000+j)∨bX b=some 1):=by
  rw[my.obj.ow]
  rintro(h|h)<;>injection h with h<;>omega
 repeat refine sm k fun a k=> ?_
 refine ld k (my.cell vJ (j:=2) rfl) fun a k=> ?_
 repeat refine sm k fun a k=> ?_
 refine lN (vs:=[R1.fv,R1.fl]) k rfl rfl (fun w' lu q v hv=>by
  match q,hv with
  |0,hv=>injection hv with hv;subst hv;exact my.cell vJ (j:=0) rfl w' lu
  |1,hv=>injection hv with hv;subst hv;exact my.cell vJ (j:=1) rfl w' lu) fun a k=> ?_
 refine p9 (ps:=[]) (vs:=zV) k (by assumption) rfl (by decide) rfl (by kernel_rfl) fun a k=> ?_
 have avU:ue ((j+1:Nat):Int) 1 5=true:=by simp only[ue,bc,bQ];omega
 have Yr:oY .i64 ((j+1:Nat):Int):=⟨by have:i64.min= -9223372036854775808:=rfl;omega,by have:i64.max=9223372036854775807:=rfl;omega⟩
 have haf:(lH 0 0 [] 0 0 []).2=[] :=rfl
 have jN:=Gw (l:=1000+j) (id:=((j+1:Nat):Int)) (term:=0) (vote:=0) (fv:=RT n) (fl:=[]) (es:=[]) (c0:=R1.fv) (c1:=R1.fl) (s4:=jJ) (s5:=jJ) (s6:=jJ) (s7:=jJ) my.wf (by omega) avU Yr
  (.agg [R1.fv,R1.fl] _ rfl (fun q u y hu hy=>by
   match q,hu,hy with
   |0,hu,hy=>injection hu with hu;injection hy with hy;subst hu hy;exact my.fv
   |1,hu,hy=>injection hu with hu;injection hy with hy;subst hu hy;exact my.fl)) (Wz hn) (Wl (by omega) hn)
  (.agg [.int .i64 0,.int .i64 0,.int .i64 0,.int .i64 0,jJ,jJ,jJ,jJ] _ rfl (fun q u c hu hc=>by
   match q,hu,hc with
   |0,hu,hc=>injection hu with hu;injection hc with hc;subst hu hc;exact .int _ _
   |1,hu,hc=>injection hu with hu;injection hc with hc;subst hu hc;exact .int _ _
   |2,hu,hc=>injection hu with hu;injection hc with hc;subst hu hc;exact .int _ _
   |3,hu,hc=>injection hu with hu;injection hc with hc;subst hu hc;exact .int _ _
   |4,hu,hc=>injection hu with hu;injection hc with hc;subst hu hc;exact .nil _ _
   |5,hu,hc=>injection hu with hu;injection hc with hc;subst hu hc;exact .nil _ _
   |6,hu,hc=>injection hu with hu;injection hc with hc;subst hu hc;exact .nil _ _
   |7,hu,hc=>injection hu with hu;injection hc with hc;subst hu hc;exact .nil _ _)) Es (by decide) (by decide) (by decide) (by decide) (by rw[haf];decide) (by decide) (by rw[haf];decide)
 rw[haf]at jN
 refine j3 (vs:=[.int .i64 ((j+1:Nat):Int),.agg [R1.fv,R1.fl].toArray,.agg zV.toArray]) k (by decide) rfl (by decide) Pm rfl jN ?_
 rintro e w6 ⟨bs,S6,ow6,rfl,mL,zM,alq,Cj⟩
 have s6:SX (fun bb=>bX bb=some (1000+j)∨bX bb=some 1) w5 w6:=SX.jD (fun _ h=>.inl h) mL
 refine⟨_,rfl,fun _=>s6,fun a k=> ?_⟩
 have wQ:=my.Sx mL zM (by show(gB n j).iC.length≤j;omega) (by show(gB n j).bJ.length≤5;omega)
 have EX:=mw.gX iB my.wf mL (.inr (by omega))
 refine qK (kk:=1) (T:=52) k (by decide) rfl (by decide) rfl (by kernel_rfl) rfl (fun _=>s6.trans (SX.alloc _ _ _)) fun a k=> ?_
 obtain⟨vK,rD⟩:=br.alloc zM (.cells (bp bs).cells 52)
 have Jw:=wQ.bw vK rD
 have SY:=alq.bw zM rD vK (fun h=>h) rfl
 have qY:R1.la.length=j:=by rw[Te];exact wQ.vI.trans Hc
 refine yq k (by decide) rfl (by decide) fun ty pos af=> ?_
 obtain⟨v7,w7,fh,Ly,pR,Je,ho7⟩:=Jw.arr.pv (P:=Try.prog) (tt:=54) (u:=bp bs) (by kernel_rfl) rD ty ⟨w6.heap.size,0,none⟩ 1 (k9 (vs:=[bp bs]) (heap_alloc_new w6 _) rfl) rfl (by rw[aw,qY];omega)
 have s7:SX (fun bb=>bX bb=some (1000+j)∨bX bb=some 1) w5 w7:=(s6.trans (SX.alloc _ _ _)).trans (SX.jD (fun bb h=>(mL.jD bb 1 h).elim .inr (fun e=>by simp only[kG]at e;omega)) pR)
 refine⟨v7,w7,k8 (k.op rfl) (k.op rfl) fh,fun _=>s7,fun a k=> ?_⟩
 have ae8:lC w7 Ly 1 52 v7 ((R1.la++[bs]).map bp):=by rw[cz];exact ho7
 have LN:=Jw.U8 pR Je ae8
 have alp:=SY.bw rD Je pR cB rfl
 obtain⟨Av7,cv7,hv7⟩:=ae8.slice
 repeat refine sm k fun a k=> ?_
 refine mW (cur:=R1.cells false) k (by decide) rfl (by kernel_rfl) rfl rfl (by rw[hv7];rfl) LN.obj.heap (by show 2<11;omega) (by rw[hv7];rfl) (fun h=>absurd rfl h) fun a k=> ?_
 refine aJ ?_
 obtain⟨uh,N0,ob8⟩:=LN.obj.set Je (us:=(R1.cells false).set (0+2) v7)
 have r8:=LN.setObj uh N0 ob8
 have alo:=alp.bw Je N0 uh cB rfl
 have Jy:=r8.ahq (bs:=bs) (s:=Sx n j) (by
  have e:1000+({gB n j with saved:=(gB n j).saved++[Ds]}:GS).iC.length=1000+j:=by show 1000+(gB n j).iC.length=1000+j;rw[Hc]
  rw[e];exact alo)
 have G6:=((EX.ba iB zM vK (fun _ h=>h.elim)).gX iB rD pR (.inl (by decide))).gX iB Je uh (.inl (by decide))
 have k:=k.sub (l:=[(8,.int .i64 ((j+1:Nat):Int)),(5,bp b),(0,.int .i64 n)]) ⟨rfl,rfl,rfl,trivial⟩
 generalize hR2:({R1 with l:=v7,la:=R1.la++[bs],lb:=R1.lb++[bs]}:GR)=R2 at Jy
 have avL:R2.la=R2.lb:=by rw[←hR2];show R1.la++[bs] =R1.lb++[bs];rw[Te]
 have ak6:R2.va=R2.vv:=by rw[←hR2];exact Yh
 have wP:(R1.cells false).set (0+2) v7=R2.cells false:=by rw[←hR2];rfl
 rw[wP]at Jy
 clear uh pR vK EX mL mw r8 LN Jw wQ my mh s6 s7 s0 e5 ho7 ae8 fh hR2 alq SY alp alo ob8 BF jN
 rw[wP]at G6 N0⊢
 generalize w7.setRow _ _=w8 at Jy G6 N0⊢
 refine wp_seq (rg (fun bb=>Ly bb=some 2) hQ amv ?_)
 intro w9 e9
 have Jw:=Jy.bu e9
 have yk:=G6.ba iB N0 (br.bu e9 ax ax S6 Ly) (fun _ h=>h.elim)
 have s0:=SX.refl (fun bb=>Ly bb=some 2) w9
 have vJ: ¬Ly b=some 2:=by rw[Jw.obj.ow];decide
 repeat (first|refine sm k fun a k=> ?_|refine ld k (Jw.cell vJ rfl) fun a k=> ?_)
 refine qK (kk:=1) (T:=29) k (by decide) rfl (by decide) rfl (by kernel_rfl) rfl (fun _=>SX.alloc _ _ _) fun a k=> ?_
 obtain⟨vK,rD⟩:=br.alloc Jw.wf (.cells jJ.cells 29)
 have Xl:=Jw.bw vK rD
 have zN:R2.va.length=j:=by rw[ak6];exact Xl.AQ.trans zX
 refine yq k (by decide) rfl (by decide) fun ty pos af=> ?_
 obtain⟨va,wa,fh,Jb,FO,LA,hoa⟩:=Xl.EW.pv (P:=Try.prog) (tt:=57) (u:=jJ) (by kernel_rfl) rD ty ⟨w9.heap.size,0,none⟩ 1 (k9 (vs:=[jJ]) (heap_alloc_new w9 _) rfl) rfl (by rw[zN];omega)
 have s1:SX (fun bb=>Ly bb=some 2) w9 wa:=(SX.alloc _ _ _).trans (SX.jD (fun _ h=>h) FO)
 refine⟨va,wa,k8 (k.op rfl) (k.op rfl) fh,fun _=>s1,fun a k=> ?_⟩
 have gmc:=Xl.U6 FO LA hoa
 obtain⟨Ava,cva,ak7⟩:=hoa.slice
 repeat refine sm k fun a k=> ?_
 refine mW (cur:=R2.cells false) k (by decide) rfl (by kernel_rfl) rfl rfl (by rw[ak7];rfl) gmc.obj.heap (by show 7<11;omega) (by rw[ak7];rfl) (fun h=>absurd rfl h) fun a k=> ?_
 refine aJ ?_
 obtain⟨Lv,PG,obb⟩:=gmc.obj.set LA (us:=(R2.cells false).set (0+7) va)
 have gmd:=(gmc.setObj Lv PG obb).ZV (by show(gB n j).bJ.length≤5;omega)
 have ZY:=((yk.ba iB Jw.wf vK (fun _ h=>h.elim)).gX iB rD FO (.inl (by decide))).gX iB LA Lv (.inl (by decide))
 have k:=k.sub (l:=[(8,.int .i64 ((j+1:Nat):Int)),(5,bp b),(0,.int .i64 n)]) ⟨rfl,rfl,rfl,trivial⟩
 generalize Sq:({R2 with bJ:=va,va:=R2.va++[jJ],vv:=R2.vv++[jJ]}:GR)=R3 at gmd
 have Td:R3.la=R3.lb:=by rw[←Sq];exact avL
 have Hq:R3.va=R3.vv:=by rw[←Sq];show R2.va++[jJ] =R2.vv++[jJ];rw[ak6]
 have hc3:(R2.cells false).set (0+7) va=R3.cells false:=by rw[←Sq];rfl
 rw[hc3]at gmd
 clear Lv FO vK yk gmc Xl Jw Jy s1 s0 e9 hoa fh Sq obb G6
 rw[hc3]at ZY PG⊢
 generalize wa.setRow _ _=wc at gmd ZY PG⊢
 refine rg (fun bb=>Jb bb=some 14) hQ amu ?_
 intro wd ed
 have gme:=gmd.bu ed
 have stF:=ZY.ba iB PG (br.bu ed ax ax S6 Jb) (fun _ h=>h.elim)
 have s0:=SX.refl (fun bb=>Jb bb=some 14) wd
 have vJ: ¬Jb b=some 14:=by rw[gme.obj.ow];decide
 repeat (first|refine sm k fun a k=> ?_|refine ld k (gme.cell vJ rfl) fun a k=> ?_)
 refine qK (kk:=1) (T:=3) k (by decide) rfl (by decide) rfl (by kernel_rfl) rfl (fun _=>SX.alloc _ _ _) fun a k=> ?_
 obtain⟨vK,aeP⟩:=br.alloc gme.wf (.cells (Value.int .i64 0).cells 3)
 have gmf:=gme.bw vK aeP
 refine yq k (by decide) rfl (by decide) fun ty pos af=> ?_
 obtain⟨vf,wf,fh,owf,Py,aeN,hof⟩:=gmf.dL.Qm (P:=Try.prog) (tt:=29) (by kernel_rfl) rfl aeP ty wd.heap.size (d:=.int .i64 0) ⟨0,rfl,by decide⟩ (us:=[.int .i64 0]) rfl (heap_alloc_new wd _) (by
   intro j u c hu hc
   match j,hu,hc with
   |0,hu,hc=>injection hu with hu;injection hc with hc;subst hu hc;exact .int _ _) (pN (by unfold gB;simp;omega))
 have s1:SX (fun bb=>Jb bb=some 14) wd wf:=(SX.alloc _ _ _).trans (SX.jD (fun _ h=>h) Py)
 refine⟨vf,wf,k8 (k.op rfl) (k.op rfl) fh,fun _=>s1,fun a k=> ?_⟩
 have gmg:=gmf.Gl Py aeN hof
 obtain⟨Avf,cvf,hvf⟩:=hof.slice
 repeat refine sm k fun a k=> ?_
 refine mW (cur:=R3.cells false) k (by decide) rfl (by kernel_rfl) rfl rfl (by rw[hvf];rfl) gmg.obj.heap (by show 8<11;omega) (by rw[hvf];rfl) (fun h=>absurd rfl h) fun a k=> ?_
 refine aJ ?_
 obtain⟨stg,hwg,obg⟩:=gmg.obj.set aeN (us:=(R3.cells false).set (0+8) vf)
 have gmh:=gmg.setObj stg hwg obg
 refine jt _ _ S6 owf {R3 with dL:=vf} (k.sub ⟨rfl,rfl,rfl,trivial⟩) (((stF.ba iB gme.wf vK (fun _ h=>h.elim)).gX iB aeP Py (.inl (by decide))).gX iB aeN stg (.inl (by decide))) ?_ Td Hq
 rw[Zv]
 exact gmh
end
section
variable{w w0:World}{S S0:bU}{ow:Ow}{b n:Nat}{R:GR}{v:Value}{Q:Exit→Act→World→Prop}{a:Act}
theorem _root_.Go.dV.Wf.bu{w1:World}(h:Wf w S ow)(e:Cn w w1):Wf w1 S ow:=⟨fun b o hs=>by rw[e.heap];exact h.s b o hs,fun b l hl=>by rw[e.heap];exact h.o b l hl,h.d⟩
noncomputable def afy:Code:=.seq (.seq (.region 10 TJ false) (.block 4 (.loop (.seq (.seq (.region 11 TI false) (.cond (.tmp 49) .skip (.exit 4))) (.seq (.block 5 Iv) (.region 12 TH false)))))) (.seq (.region 17 TC false) .ret)
theorem Rw(h5:n≤5)(gO:Wf w0 S0 (fun _=>none))(st:br LG ax w0 S0 (fun _=>none) w S ow)(gm:GM w S ow b (R.cells false) R (gB n 0))(j6:R.la=R.lb)(me:R.va=R.vv)(k:Kn 97 a [(5,bp b),(0,.int .i64 n)]):
  afy.wp Try.prog (pQ w0 S0 n) a w:=by
 have hQ:QP (pQ w0 S0 n):=kj
 unfold afy
 refine wp_seq (wp_seq (rg ax hQ amA ?_))
 intro w1 e1
 have eZ:=gm.bu e1
 have s0:=SX.refl ax w1
 repeat refine sm k fun a k=> ?_
 refine aJ ?_
 have j8:=st.ba gO gm.wf (br.bu e1 ax ax S ow) (fun _ h=>h.elim)
 refine wp_block (wp_loop_ghost (fun mm a W=> ∃(j:Nat) (S1:bU) (fE:Ow) (R1:GR),mm=n-j∧j≤n∧Kn 97 a [(8,.int .i64 ((j+1:Nat):Int)),(5,bp b),(0,.int .i64 n)] ∧br LG ax w0 S0 (fun _=>none) W S1 fE∧
  GM W S1 fE b (R1.cells false) R1 (gB n j)∧R1.la=R1.lb∧R1.va=R1.vv) (n-0)
  ⟨0,S,ow,R,rfl,bf _,k.sub ⟨rfl,rfl,rfl,trivial⟩,j8,eZ,j6,me⟩ ?_)
 clear k eZ j8 s0 e1 w1
 rintro mm a W ⟨j,S1,fE,R1,rfl,hjn,k,j8,eZ,Te,Yh⟩
 refine wp_seq (wp_seq (rg ax hQ amz ?_))
 intro w2 e2
 have jB:=eZ.bu e2
 have gI:=j8.ba gO eZ.wf (br.bu e2 ax ax S1 fE) (fun _ h=>h.elim)
 have s0:=SX.refl ax w2
 repeat refine sm k fun a k=> ?_
 refine cm (c:=decide (((j+1:Nat):Int)≤(n:Int))) k rfl rfl rfl fun a k=> ?_
 refine aJ (bz k rfl ?_)
 have k:=k.sub (l:=[(8,.int .i64 ((j+1:Nat):Int)),(5,bp b),(0,.int .i64 n)]) ⟨rfl,rfl,rfl,trivial⟩
 by_cases bP:((j+1:Nat):Int)≤(n:Int)
 ·rw[if_pos (by simpa using bP)]
  refine wp_skip ?_
  refine wp_seq (wp_block (Rx (fun c a d v w h=>hQ c a d v w h) jB Te Yh (by omega) h5 k ?_))
  intro a w3 S3 qo R3 k iQ iV Td Hq
  refine rg ax hQ amy ?_
  intro w4 e4
  have s0:=SX.refl ax w4
  repeat refine sm k fun a k=> ?_
  refine lI (s:=((j+1+1:Nat):Int)) k (by assumption) rfl (by decide) rfl rfl (wrap64 (by omega) (by omega)) fun a k=> ?_
  repeat refine sm k fun a k=> ?_
  refine aJ ⟨n-(j+1),by omega,j+1,S3,qo,R3,rfl,by omega,k.sub ⟨rfl,rfl,rfl,trivial⟩,(o5 gO jB.wf gI iQ (fun _ h=>h.elim)).ba gO iV.wf (br.bu e4 ax ax S3 qo) (fun _ h=>h.elim),iV.bu e4,Td,Hq⟩
 ·rw[if_neg (by simpa using bP)]
  refine wp_exit ?_
  have Jr:j=n:=by omega
  subst Jr
  refine wp_seq (rg ax hQ amt ?_)
  intro w3 e3
  have s0:=SX.refl ax w3
  repeat refine sm k fun a k=> ?_
  refine aJ (wp_ret (uX at2 k rfl ⟨b,S1,fE,rfl,gI.ba gO jB.wf (br.bu e3 ax ax S1 fE) (fun _ h=>h.elim),R1,jB.bu e3,Te,Yh⟩).1)
noncomputable def amc:Code:=.seq (.seq (.region 6 aev false) (.block 2 (.loop (.seq (.seq (.region 7 aeu false) (.cond (.tmp 32) .skip (.exit 2))) (.seq (.block 3 (.region 9 akM false)) (.region 8 akN false)))))) afy
theorem Ry(h5:n≤5)(gO:Wf w0 S0 (fun _=>none))(st:br LG ax w0 S0 (fun _=>none) w S ow)(gm:GM w S ow b (R.cells false) R (gB n 0))(j6:R.la=R.lb)(me:R.va=R.vv)(k:Kn 97 a [(5,bp b),(1,.int .i64 n),(0,.int .i64 n)]):
  amc.wp Try.prog (pQ w0 S0 n) a w:=by
 have hQ:QP (pQ w0 S0 n):=kj
 unfold amc
 refine wp_seq (wp_seq (rg ax hQ at7 ?_))
 intro w1 e1
 have eZ:=gm.bu e1
 have j8:=st.ba gO gm.wf (br.bu e1 ax ax S ow) (fun _ h=>h.elim)
 have s0:=SX.refl ax w1
 repeat refine sm k fun a k=> ?_
 refine lI (s:=((n+1:Nat):Int)) k (by assumption) rfl (by decide) rfl rfl (wrap64 (by omega) (by omega)) fun a k=> ?_
 repeat refine sm k fun a k=> ?_
 refine aJ ?_
 have k:=k.sub (l:=[(7,.int .i64 ((n+1:Nat):Int)),(5,bp b),(0,.int .i64 n)]) ⟨rfl,rfl,rfl,trivial⟩
 refine wp_block (wp_loop_ghost (fun mm a' W=>W=w1∧Kn 97 a' [(7,.int .i64 ((n+1:Nat):Int)),(5,bp b),(0,.int .i64 n)]) 0 ⟨rfl,k⟩ ?_)
 clear k s0
 rintro mm a W ⟨rfl,k⟩
 refine wp_seq (wp_seq (rg ax hQ at6 ?_))
 intro w2 e2
 have jB:=eZ.bu e2
 have gI:=j8.ba gO eZ.wf (br.bu e2 ax ax S ow) (fun _ h=>h.elim)
 have s0:=SX.refl ax w2
 repeat refine sm k fun a k=> ?_
 refine cm (c:=false) k rfl rfl (congrArg some (decide_eq_false (by omega))) fun a k=> ?_
 refine aJ (bz k rfl (wp_exit ?_))
 exact Rw h5 gO gI jB j6 me (k.sub ⟨rfl,rfl,trivial⟩)
end
theorem By{w:World}{S:bU}{n:Nat}(hw:Wf w S (fun _=>none))(h1:1≤n)(h5:n≤5):Calls Try.prog 9 [.int .i64 n,.int .i64 n].toArray w fun e w'=> ∃b S' bX,e= .returned (bp b)∧br LG ax w S (fun _=>none) w' S' bX∧nw w' S' bX b (gB n n):=by
 refine lU Try.func9 aaA ao3 nt9 (by show 2≤97;omega) ?_
 intro a k
 have hQ:QP (pQ w S n):=kj
 show Code.wp Try.prog _ (pQ w S n) a w
 refine wp_seq (rg ax hQ aud ?_)
 intro w1 e1
 have s0:=SX.refl ax w1
 repeat refine sm k fun a k=> ?_
 refine aJ ?_
 have lY:=hw.bu e1
 have BF:br LG ax w S (fun _=>none) w1 S (fun _=>none):=br.bu e1 LG ax S _
 refine wp_seq (rg ax hQ auc ?_)
 intro w2 e2
 have jn:=lY.bu e2
 have EX:=BF.ba hw lY (br.bu e2 ax ax S _) (fun _ h=>h.elim)
 have s0:=SX.refl ax w2
 refine p9 (ps:=[]) (vs:=(R0 jJ).cells false) k (by assumption) rfl (by decide) rfl (by kernel_rfl) fun a k=> ?_
 refine uP (us:=(R0 jJ).cells false) k (by decide) rfl (by decide) rfl rfl (fun _=>SX.alloc _ _ _) fun a k=> ?_
 have s1:=SX.alloc ax w2 (.cells ((R0 jJ).cells false).toArray 59)
 repeat refine sm k fun a k=> ?_
 refine aJ ?_
 obtain⟨iQ,tG⟩:=br.alloc jn (.cells ((R0 jJ).cells false).toArray 59)
 have tD:=iH.new jn 59 ((R0 jJ).cells false)
 have G6:=EX.ba hw jn iQ (fun _ h=>h.elim)
 have hbn:w.heap.size≤w2.heap.size:=EX.size
 generalize hbN:w2.heap.size=b at k tD hbn
 generalize w2.alloc _=w3 at tD iQ tG G6⊢
 have tU:Wf w3 S (fun k=>if k=b then some 0 else none):=by
  refine⟨tG.s,?_,?_⟩
  ·intro k l hl
   split at hl
   ·rename_i e;rw[e];exact tD.lt
   ·cases hl
  ·intro k o l hs hl
   split at hl
   ·rename_i e;rw[e]at hs;exact absurd hs (tD.s o)
   ·cases hl
 have yk:br LG ax w S (fun _=>none) w3 S (fun k=>if k=b then some 0 else none):=by
  refine⟨G6.size,G6.os,G6.tape,G6.output,fun _ _ _ h _=> ?_,G6.free,G6.kJ,G6.cell,fun _ _ h=> ?_,G6.new,fun k hk _=>if_neg (by omega),?_⟩
  ·cases h
  ·cases h
  ·intro k l hl
   split at hl
   ·injection hl with hl;subst hl;exact .inr (.inl (by omega))
   ·cases hl
 have Xu:Ai w3 (fun k=>if k=b then some 0 else none) 0 b 59 ((R0 jJ).cells false):=⟨tD.heap,if_pos rfl,by omega⟩
 generalize (fun k=>if k=b then some 0 else none:Ow)=Jj at tU yk Xu
 have k:=k.sub (l:=[(5,bp b),(1,.int .i64 n),(0,.int .i64 n)]) ⟨rfl,rfl,rfl,trivial⟩
 clear iQ tG tD G6 s1 s0 EX jn e2 BF lY e1
 refine wp_seq (wp_seq (rg ax hQ aub ?_))
 intro w5 e5
 have s0:=SX.refl ax w5
 repeat refine sm k fun a k=> ?_
 refine aJ ?_
 have ZY:=yk.ba hw tU (br.bu e5 ax ax S Jj) (fun _ h=>h.elim)
 have ob5:=Xu.bw (br.bu e5 ax ax S Jj) (fun h=>h)
 refine wp_block (wp_loop_ghost (fun mm a W=> ∃(i:Nat) (fE:Ow) (v:Value),mm=n-i∧i≤n∧Kn 97 a [(6,.int .i64 ((i+1:Nat):Int)),(5,bp b),(1,.int .i64 n),(0,.int .i64 n)] ∧br LG ax w S (fun _=>none) W S fE∧Wf W S fE∧
  Ai W fE 0 b 59 ((R0 v).cells false)∧dW W S fE 20 3 I6 v (RT i)) (n-0)
  ⟨0,Jj,jJ,rfl,bf _,k.sub ⟨rfl,rfl,rfl,rfl,trivial⟩,ZY,tU.bu e5,ob5,dW.nil (by decide) (by omega)⟩ ?_)
 clear k ZY ob5 s0 e5 w5 Xu yk tU Jj
 rintro mm a W ⟨i,fE,v,rfl,ly,k,j8,lY,ob1,Xe⟩
 refine wp_seq (wp_seq (rg ax hQ aua ?_))
 intro w2 e2
 have jn:=lY.bu e2
 have gI:=j8.ba hw lY (br.bu e2 ax ax S fE) (fun _ h=>h.elim)
 have ob2:=ob1.bw (br.bu e2 ax ax S fE) (fun h=>h)
 have zR:=Xe.bw lY (br.bu e2 ax ax S fE) (fun h=>h)
 have s0:=SX.refl ax w2
 repeat refine sm k fun a k=> ?_
 refine cm (c:=decide (((i+1:Nat):Int)≤(n:Int))) k rfl rfl rfl fun a k=> ?_
 refine aJ (bz k rfl ?_)
 have k:=k.sub (l:=[(6,.int .i64 ((i+1:Nat):Int)),(5,bp b),(1,.int .i64 n),(0,.int .i64 n)]) ⟨rfl,rfl,rfl,rfl,trivial⟩
 by_cases bP:((i+1:Nat):Int)≤(n:Int)
 ·rw[if_pos (by simpa using bP)]
  refine wp_skip ?_
  refine wp_seq (wp_block (rg (fun bb=>fE bb=some 20) hQ at8 ?_))
  intro w3 e3
  have tG:=jn.bu e3
  have iQ:=gI.ba hw jn (br.bu e3 ax ax S fE) (fun _ h=>h.elim)
  have ob3:=ob2.bw (br.bu e3 ax ax S fE) (fun h=>h)
  have XJ:=zR.bw jn (br.bu e3 ax ax S fE) (fun h=>h)
  have s0:=SX.refl (fun bb=>fE bb=some 20) w3
  have vJ: ¬fE b=some 20:=by rw[ob3.ow];decide
  have eW: ∀w',SX (fun bb=>fE bb=some 20) w3 w'→w'.cell? ⟨b,0,none⟩=some v:=gf ob3.lt vJ (k9 (j:=0) ob3.heap rfl)
  repeat (first|refine sm k fun a k=> ?_|refine ld k (eW) fun a k=> ?_)
  refine qK (kk:=1) (T:=3) k (by decide) rfl (by decide) rfl (by kernel_rfl) rfl (fun _=>SX.alloc _ _ _) fun a k=> ?_
  obtain⟨vK,rD⟩:=br.alloc tG (.cells (Value.int .i64 ((i+1:Nat):Int)).cells 3)
  have hoa:=XJ.bw tG vK (fun h=>h)
  have oba:=ob3.bw vK (fun h=>h)
  have PM:oY .i64 ((i+1:Nat):Int):=⟨by have:i64.min= -9223372036854775808:=rfl;omega,by have:i64.max=9223372036854775807:=rfl;omega⟩
  refine yq k (by decide) rfl (by decide) fun ty pos af=> ?_
  obtain⟨v',w',fh,bX,Lv,LA,fX⟩:=hoa.Qm (P:=Try.prog) (tt:=29) (by kernel_rfl) rfl rD ty w3.heap.size (d:=.int .i64 ((i+1:Nat):Int)) ⟨_,rfl,PM⟩ (us:=[.int .i64 ((i+1:Nat):Int)]) rfl (heap_alloc_new w3 _) (by
   intro j u c hu hc
   match j,hu,hc with
   |0,hu,hc=>injection hu with hu;injection hc with hc;subst hu hc;exact .int _ _) (pN (by rw[Pf];omega))
  have s1:SX (fun bb=>fE bb=some 20) w3 w':=(SX.alloc _ _ _).trans (SX.jD (fun _ h=>h) Lv)
  refine⟨v',w',k8 (k.op rfl) (k.op rfl) fh,fun _=>s1,fun a k=> ?_⟩
  have obb:=oba.bw Lv cB
  obtain⟨Av,cv,pn⟩:=fX.slice
  repeat refine sm k fun a k=> ?_
  refine mW (cur:=(R0 v).cells false) k (by decide) rfl (by kernel_rfl) rfl rfl (by rw[pn];rfl) obb.heap (by show 0<11;omega) (by rw[pn];rfl) (fun h=>absurd rfl h) fun a k=> ?_
  refine aJ ?_
  obtain⟨RC,PG,obc⟩:=obb.set LA (us:=((R0 v).cells false).set (0+0+0) v')
  have hoc:=fX.bw LA RC cB
  have stF:=((iQ.ba hw tG vK (fun _ h=>h.elim)).gX hw rD Lv (.inl (by decide))).gX hw LA RC (.inl (by decide))
  have k:=k.sub (l:=[(6,.int .i64 ((i+1:Nat):Int)),(5,bp b),(1,.int .i64 n),(0,.int .i64 n)]) ⟨rfl,rfl,rfl,rfl,trivial⟩
  refine rg ax hQ at9 ?_
  intro w4 e4
  have s0:=SX.refl ax w4
  repeat refine sm k fun a k=> ?_
  refine lI (s:=((i+1+1:Nat):Int)) k (by assumption) rfl (by decide) rfl rfl (wrap64 (by omega) (by omega)) fun a k=> ?_
  repeat refine sm k fun a k=> ?_
  refine aJ ⟨n-(i+1),by omega,i+1,bX,v',rfl,by omega,k.sub ⟨rfl,rfl,rfl,rfl,trivial⟩,stF.ba hw PG (br.bu e4 ax ax S bX) (fun _ h=>h.elim),PG.bu e4,obc.bw (br.bu e4 ax ax S bX) (fun h=>h),?_⟩
  rw[WA]
  exact hoc.bw PG (br.bu e4 ax ax S bX) (fun h=>h)
 ·rw[if_neg (by simpa using bP)]
  refine wp_exit ?_
  have Jr:i=n:=by omega
  subst Jr
  obtain⟨S',bX,Py,iB,hrf,_⟩:=zR.freeze jn
  have obf:=ob2.bw Py cB
  exact Ry h5 hw (gI.gX hw jn Py (.inl (by decide))) (GM.begin iB obf hrf) rfl rfl (k.sub ⟨rfl,rfl,rfl,trivial⟩)
def okS(s:RS)(k:Nat):Bool:=fN s.li s.lt s.le&&decide (1≤s.id)&&decide (s.id≤5)&&decide (s.le.length+k≤4194304)&&decide (s.msgs.length+k≤4294967296)&&decide (s.dS.length+k≤4294967296)&&decide (s.cb.length+k*4194304≤274877906944)&&
 decide (s.bJ.length+k≤4294967296)&&gC (.agg [.list s.fv,.list s.fl])&&(decide (s.li≤0)||gC (.agg [.list s.sv,.list s.sl]))&&fm s.le&&decide (0≤s.term)&&decide (s.term≤MX)&&s.reads.isEmpty
theorem Ap{s:RS}{k:Nat}(h:okS s k=true):Ok s k:=by
 simp only[okS,bc,bQ,fB,List.isEmpty_iff]at h
 obtain⟨⟨⟨⟨⟨⟨⟨⟨⟨⟨⟨⟨⟨h1,h2⟩,h3⟩,h4⟩,h5⟩,h6⟩,h7⟩,h8⟩,h9⟩,RR⟩,XS⟩,h12⟩,RQ⟩,h14⟩:=h
 exact⟨h1,h2,h3,h4,h5,h6,by unfold G;exact h7,h8,h9,fun hp=>RR.resolve_left (by omega),XS,h12,RQ,h14⟩
def okG(g:GS):Bool:=decide (g.iC.length≤5)&&decide (g.dL.length=g.iC.length)&&decide (g.bJ.length=g.iC.length)&&decide (g.saved.length=g.iC.length)&&decide (g.bR.length≤2000000)&&g.bJ.all fun l=>decide (l.length≤2000000)
theorem agq{g:GS}(h:okG g=true):Fy g:=by
 simp only[okG,bc,bQ,cn]at h
 obtain⟨⟨⟨⟨⟨h1,h2⟩,h3⟩,h4⟩,h5⟩,h6⟩:=h
 exact⟨h1,h2,h3,h4,h5,h6⟩
def isNil:D→Bool
 |.gW=>true
 |_=>false
theorem Wr{d:D}(h:isNil d=true):d= .gW:=by
 cases d<;>first|rfl|cases h
def okT(i:Nat)(o:D)(g:GS):Bool:=okG g&&decide (i<g.iC.length)&&okS (ka g i) 0&&isNil (cD 4 o)&&decide ((cD 7 (g.saved.getD i .top)).aV.length+(cD 3 o).aV.length≤300000000000)&&decide ((cD 5 o).aV.length≤5000000000)&&
 ((cD 6 o).aV.all fun x=>decide (0≤(cD 0 x).aq)&&decide ((cD 0 x).aq≤300000000000))&&decide (g.told.length≤300000000001)
section
variable{w:World}{S:bU}{ow:Ow}{b i:Nat}{g:GS}{Q:Exit→Act→World→Prop}{a:Act}
theorem Ie{vo:Value}{o:D}{lost:Bool}(h:nw w S ow b g)(hn:yj ow)(ho:cH w S vo o)(FT:Has JD o)(cI:okT i o g=true):
  Calls Try.prog 14 [bp b,.int .i64 i,vo,.bool lost].toArray w (pZ w S ow b (uJ i o lost g)):=by
 simp only[okT,bc,bQ,cn]at cI
 obtain⟨⟨⟨⟨⟨⟨⟨h1,h2⟩,h3⟩,h4⟩,h5⟩,h6⟩,h7⟩,h8⟩:=cI
 exact xQ h hn (agq h1) h2 (Ap h3) ho FT (Wr h4) h5 h6 h7 h8
def o6(i:Nat)(s:RS)(g:GS):GS:={g with iC:=g.iC.set i s}
def qH(i:Nat)(x:Int)(g:GS):GS:=uJ i (fW x (ka g i)).1 false (o6 i (fW x (ka g i)).2 g)
def Ao(i:Nat)(x:Int)(g:GS):Bool:=decide (i<g.iC.length)&&decide (g.bJ.length≤5)&&okS (ka g i) 20&&okT i (fW x (ka g i)).1 (o6 i (fW x (ka g i)).2 g)
def G5(m:D):Nat:=((cD 2 m).aq-1).toNat
def inG(m:D)(g:GS):Bool:=decide (1≤(cD 2 m).aq)&&decide ((cD 2 m).aq≤g.iC.length)
def yx(m:D)(g:GS):GS:=if inG m g then uJ (G5 m) (pg m (ka g (G5 m))).1 false (o6 (G5 m) (pg m (ka g (G5 m))).2 g) else g
def Ou(m:D)(g:GS):Bool:= !inG m g||(decide (g.bJ.length≤5)&&decide (g.iC.length≤5)&&okS (ka g (G5 m)) (20+(cD 12 m).aV.length)&&decide ((cD 12 m).aV.length≤2147483648)&&okT (G5 m) (pg m (ka g (G5 m))).1 (o6 (G5 m) (pg m (ka g (G5 m))).2 g))
def Yv(g:GS):GS:=g.kI.foldl (fun g m=>yx m g) {g with kI:=[]}
def AY:List D→GS→Bool
 | [],_=>true
 |m::r,g=>Ou m g&&AY r (yx m g)
theorem y9(hi:i<g.iC.length):g.iC[i]? =some (ka g i):=by
 unfold ka
 rw[av,aW hi];rfl
theorem NB{j:Int}(hQ:QP Q)(h:nw w S ow b g)(hn:yj ow)(cI:Ao 0 0 g=true)(k:Kn 54 a [(2,.int .i64 j),(1,bp b)])
  (jt: ∀a W S' bX,Kn 54 a [(2,.int .i64 j),(1,bp b)] →br LG ax w S ow W S' bX→nw W S' bX b (qH 0 0 g)→Q .normal a W):(Code.region 5 Ui false).wp Try.prog Q a w:=by
 obtain⟨R,gm,j6,me⟩:=h
 simp only[Ao,bc,bQ]at cI
 obtain⟨⟨⟨hi,N2⟩,BX⟩,wU⟩:=cI
 refine rg (fun bb=>ow bb=some 1000) hQ anl ?_
 intro w1 e1
 have eZ:=gm.bu e1
 have j8:=(br.refl LG ax w S ow).ba gm.wf gm.wf (br.bu e1 ax ax S ow) (fun _ h=>h.elim)
 have s0:=SX.refl (fun bb=>ow bb=some 1000) w1
 have vJ: ¬ow b=some 1000:=by rw[eZ.obj.ow];decide
 obtain⟨bs,Cj,fX,jA⟩:=eZ.iC 0 _ (y9 hi)
 obtain⟨bl,cap,E5,FX,mM,jY⟩:=eZ.arr.elem (i:=0) (u:=bp bs) (by rw[j6,ah,Cj];rfl)
 have FZ:(R.la.map bp).length=g.iC.length:=by rw[aw,j6];exact eZ.vI
 have nq: ¬ow bl=some 1000:=by rw[mM];decide
 repeat (first|refine sm k fun a k=> ?_|refine ld k (eZ.cell vJ rfl) fun a k=> ?_)
 rw[E5]at k
 refine Mm (el:=52) (sz:=1) (s:=0) k (by assumption) rfl (by decide) rfl rfl (by kernel_rfl) (by kernel_rfl) (by rw[FZ];exact hi) fun a k=> ?_
 refine qD (v:=bp bs) k (by assumption) rfl (by decide) rfl (by kernel_rfl) (by kernel_rfl) (gf FX nq (by rw[cd];exact jY)) fun a k=> ?_
 refine j3 (vs:=[bp bs,.int .i64 0]) k (by decide) rfl (by decide) c15.enter rfl (Az fX eZ.wf (by omega) (by decide) (Ap BX)) ?_
 rintro e w2 ⟨v,S2,tC,rfl,gI,jn,BY,nK,N3⟩
 refine⟨_,rfl,fun _=>SX.jD (fun _ h=>h) gI,fun a k=> ?_⟩
 have jB:=eZ.Dr (i:=0) gI jn hi Cj BY (iz BY) N2
 have iQ:=j8.gX gm.wf eZ.wf gI (.inr (by omega))
 have hn2:yj tC:=hn.bw gI (fun l hl=>by simp only[kG]at hl;subst hl;exact .inr (by omega))
 refine j3 (vs:=[bp b,.int .i64 ((0:Nat):Int),v,.bool false]) k (by decide) rfl (by decide) yT rfl (Ie (g:=o6 0 (fW 0 (ka g 0)).2 g) ⟨_,jB,j6,me⟩ hn2 nK N3 wU) ?_
 rintro e w4 ⟨S4,Jj,rfl,jX,LJ⟩
 refine⟨_,rfl,fun h=>absurd rfl h,fun a k=> ?_⟩
 exact aJ (jt _ _ S4 Jj (k.sub ⟨rfl,rfl,trivial⟩) (o5 gm.wf jn iQ jX (fun _ h=>h.elim)) LJ)
end
end Go.Proofs.Ytjhmkaninmgilaa
namespace Go.Proofs.Ytjhmkaninmgilaa
open Go Go.RowKit Go.dV Go.Proofs
def ib(s:RS)(es:List D):GS:=⟨[.int .i64 1],[],[s],[.agg [.int .i64 1,.int .i64 1,.int .i64 0,.int .i64 0,.list [],.list [],.list [],.list es]],[],kS::es,[.int .i64 0,.int .i64 1],[.int .i64 1],[],[[.int .i64 0,.int .i64 1]],false⟩
theorem Rs(a:D):Mf a a=true:=by simp[Mf]
theorem D1{s:RS}{es:List D}(hT:s.term=1)(hv:s.vote=1):ph 0 (ib s es)=ib s es:=by
 unfold ph
 dsimp only
 rw[show ka (ib s es) 0=s from rfl,if_neg (by rw[hT];exact(by decide: ¬((1:Int)<sr [.int .i64 1] 0∨(5000:Int)<1)))]
 have hg:rq 0 s {ib s es with dL:=(ib s es).dL.set 0 (.int .i64 s.term)}=ib s es:=by
  unfold rq
  rw[hT,hv]
  rfl
 rw[hg]
 split
 ·unfold Dp
  rw[hT]
  rfl
 ·rfl
theorem Kh{es:List D}{e:D}{g:GS}(Hf:(cD 0 e).aq=es.length+1)(hg:g.told=kS::es):p5 e g={g with told:=kS::(es++[e])}:=by
 have h1:(kS::es).length=es.length+1:=rfl
 have hf:lT g.told (cD 0 e).aq=(kS::es)++[kS] :=by
  unfold lT
  rw[hg,Hf,h1,show((es.length:Int)+1+1-((es.length+1:Nat):Int)).toNat=1 by omega]
  rfl
 have hn:(cD 0 e).aq.toNat=(kS::es).length:=by rw[Hf,h1];omega
 unfold p5
 dsimp only
 rw[hf,hn]
 have hy:((kS::es)++[kS]).getD (kS::es).length .top=kS:=by
  rw[av,aF (bn _),Nat.sub_self];rfl
 have hs:((kS::es)++[kS]).set (kS::es).length e=kS::(es++[e]):=by
  rw[List.set_append_right _ _ (bn _),Nat.sub_self];rfl
 rw[hy,hs]
 have hz:((cD 0 kS).aq !=0)=false:=rfl
 rw[hz,Bool.false_and,Bool.or_false]
theorem Qs{e:D}{i:Nat}{g:GS}(h:g.told[i]? =some e)(Hf:(cD 0 e).aq=i):p5 e g=g:=by
 have iJ:=(aH.1 h).1
 have hf:lT g.told (cD 0 e).aq=g.told:=by
  unfold lT
  rw[Hf,show((i:Int)+1-(g.told.length:Int)).toNat=0 by omega]
  simp
 unfold p5
 dsimp only
 rw[hf,Hf,cE]
 have hy:g.told.getD i .top=e:=by rw[av,h];rfl
 have hs:g.told.set i e=g.told:=by
  obtain⟨bP,he⟩:=aH.1 h
  rw[←he];exact List.set_getElem_self ..
 rw[hy,hs,Rs]
 simp
theorem El: ∀(cs:List D) (k:Nat) (g:GS),(∀(i:Nat) e,cs[i]? =some e→g.told[k+i]? =some e∧(cD 0 e).aq=((k+i:Nat):Int))→lJ cs g=g
 | [],_,_,_=>rfl
 |x::r,k,g,h=>by
  show lJ r (p5 x g)=g
  obtain⟨h1,h2⟩:=h 0 x rfl
  rw[Qs h1 h2]
  exact El r (k+1) g (fun i e he=>by
   have:=h (i+1) e he
   rw[show k+1+i=k+(i+1) by omega];exact this)
def xc(es:List D):Prop:= ∀(i:Nat) e,es[i]? =some e→(cD 0 e).aq=(i:Int)+1
theorem GB{es:List D}{T:Int}{x:D}(h:xc es):xc (es++[nE es T x]):=by
 intro i e he
 by_cases hi:i<es.length
 ·rw[aB hi]at he;exact h i e he
 ·rw[aF (by omega)]at he
  have PN:i=es.length:=by
   have:=(aH.1 he).1
   simp at this;omega
  subst PN
  rw[Nat.sub_self]at he
  injection he with he
  subst he
  show(0:Int)+es.length+1=_
  omega
theorem Wp{es:List D}{f:Int}(h:xc es)(hf:(es.length:Int)<f):p4 es f=es:=by
 unfold p4
 refine List.filter_eq_self.2 fun e he=> ?_
 obtain⟨i,hi⟩:=aE he
 have h1:=(aH.1 hi).1
 have:=h i e hi
 rw[bQ];omega
theorem Rc{s:RS}{es:List D}{x:D}(h:One s es)(hn:yu es)(Af:xc es)(hlen:es.length<4194304)(hT:s.term=1)(hv:s.vote=1)(hl:fA 0 es=1)(hc:s.aZ=es.length)(hr:s.role=2)(hi:Idle s)(wW:(cD 0 x).aq≠1)(r7:(cD 0 x).aq≠2):
  uJ 0 (cG x s).1.2.2 false (o6 0 (cG x s).2 (ib s es))=ib (cG x s).2 (es++[nE es 1 (aN 27 x [])]):=by
 rw[vp h hn hlen hT (by decide) (by decide) hl hc hr wW r7]
 generalize he:nE es 1 (aN 27 x [])=e
 have Hf:(cD 0 e).aq=es.length+1:=by rw[←he];show(0:Int)+es.length+1=_;omega
 dsimp only
 generalize uf:(fj ({s with save:=true,li:=0,lt:=0,le:=es++[e],dS:=s.dS++[e],cb:=s.cb++[e],aZ:=(es.length:Int)+1}:RS)).2=s'
 have ho:(fj ({s with save:=true,li:=0,lt:=0,le:=es++[e],dS:=s.dS++[e],cb:=s.cb++[e],aZ:=(es.length:Int)+1}:RS)).1=D.agg [.bool true,.int .i64 1,.int .i64 1,.list [e],.gW,.list [],.list [e],.list s.iZ] :=by
  unfold fj
  dsimp only
  rw[hT,hv,hi.Yw,hi.snap,hi.msgs,hi.com]
  rfl
 rw[ho]
 have hT':s'.term=1:=by subst uf;exact hT
 have pn:s'.vote=1:=by subst uf;exact hv
 generalize XH:D.agg [.bool true,.int .i64 1,.int .i64 1,.list [e],.gW,.list [],.list [e],.list s.iZ] =o
 have h1:p6 0 o (o6 0 s' (ib s es))={ib s' es with saved:=[.agg [.int .i64 1,.int .i64 1,.int .i64 0,.int .i64 0,.list [],.list [],.list [],.list (es++[e])]]}:=by
  unfold p6
  have hk:Cq ((o6 0 s' (ib s es)).saved.getD 0 .top) o=es++[e] :=by
   subst XH
   show(if([e] :List D)=[] then es else p4 es (cD 0 e).aq++[e])=_
   rw[if_neg (by simp),Hf,Wp Af (by omega)]
  dsimp only
  rw[hk]
  subst XH
  rfl
 unfold uJ
 rw[show(cD 0 o).gV=true by subst XH;rfl,if_pos rfl,h1,show(cD 6 o).aV=[e] by subst XH;rfl]
 have h2: ∀g:GS,g.kI=[] →C6 o false g=g:=by
  intro g hg
  unfold C6
  rw[if_pos ⟨by rw[hg];decide,rfl⟩,show(cD 5 o).aV=[] by subst XH;rfl,cQ]
 rw[h2 _ rfl]
 show ph 0 (p5 e _)=_
 rw[Kh (es:=es) Hf rfl]
 exact D1 hT' pn
section
variable{w:World}{S:bU}{ow:Ow}{l b:Nat}{s:RS}
theorem QK{x:D}{u:Value}(h:mP w S ow l (ew 0) b [cR s,cL s])(hw:Wf w S ow)(qY:1000≤l)(hx:Has C8 x)(hr:cH w S u x)(cI:Ok s 20):
  Calls Try.prog 16 #[.pointer (some ⟨b,0,none⟩),u] w fun e w'=> ∃ve vo S' bX,e= .returned (.tuple [ve,.int .i64 (cG x s).1.2.1,vo].toArray)∧br (kG l) ax w S ow w' S' bX∧Wf w' S' bX∧mP w' S' bX l (ew 0) b [cR (cG x s).2,cL (cG x s).2] ∧
   (cH w' S' ve (cG x s).1.1∧Has eP (cG x s).1.1)∧cH w' S' vo (cG x s).1.2.2∧Has JD (cG x s).1.2.2:=by
 have jA:dK (.dJ s16.params) ([x] ++[cR s,cL s].flatten):=aj.2 ⟨_,_,rfl,hx,iz h⟩
 refine(h.call (ob0:=ew 0) (vs:=[u]) (n:=1) c16 rfl rfl rfl rfl rfl rfl (by decide) (.inl (by decide)) rfl qY hw rfl rfl ?_ jA cI).mono ?_
 ·intro i v d hv hd
  match i,hv,hd with
  |0,hv,hd=>injection hv with hv;injection hd with hd;subst hv hd;exact hr
 ·rintro e w1 ⟨v,S',bX,τ,d0,outs,rfl,pa,mM,oZ,lu,fX,fi⟩
  replace pa:D.fx [.fx [(cG x s).1.1,.int .i64 (cG x s).1.2.1,(cG x s).1.2.2],.agg (cR (cG x s).2),.agg (cL (cG x s).2)] = .fx (d0::outs.map .agg):=pa
  injection pa with pa
  have SR:outs.length=2:=mM
  match outs,SR with
  | [o1,o2],_=>
   simp only[cZ,List.map_nil,eJ,D.agg.injEq,and_true]at pa
   obtain⟨rfl,rfl,rfl⟩:=pa
   rcases fi with⟨c,hc,_⟩|⟨_,us,ds,rfl,qC,zP,wN,Dn⟩
   ·have h9:(3:Nat)=1:=congrArg List.length hc
    cases h9
   injection qC with qC
   subst qC
   have avk:us.length=3:=zP
   match us,avk with
   | [u0,u1,u2],_=>
    have h0:=vQ (ts:=eP.cells) (τ:=τ) (.inl ⟨_,rfl,Dn 0 _ _ _ rfl rfl rfl⟩)
    have h2:=vQ (ts:=akL) (τ:=τ) (.inl ⟨_,rfl,Dn 2 _ _ _ rfl rfl rfl⟩)
    have h1:=Dn 1 _ _ _ rfl rfl rfl
    unfold hH at h1
    simp only[ak,if_false]at h1
    obtain⟨y,hy,qZ⟩:=h1
    injection hy with hy
    subst hy
    have e1:u1= .int .i64 (cG x s).1.2.1:=qZ.1.cX
    subst e1
    exact⟨u0,u2,S',bX,rfl,oZ,lu,fX,h0,h2⟩
end
attribute [local irreducible] TL
theorem D2:mj.cells.length=46:=rfl
section
variable{w w0:World}{S S0:bU}{ow og:Ow}{b i j:Nat}{g:GS}{R:GR}{Q:Exit→Act→World→Prop}{a:Act}
theorem wx{x n:Int}(hw:Wf w S ow)(h1:oY .i64 x)(h2:oY .i64 n)(hn:n≠0):Calls Try.prog 8 [.int .i64 x,.int .i64 n].toArray w fun e w'=>e= .returned (.int .i64 (yD x n))∧br ax ax w S ow w' S ow∧Wf w' S ow:=by
 refine(c8.calls rfl w S [.int .i64 x,.int .i64 n] [.int .i64 x,.int .i64 n] hw.s rfl (fun q v d hv hd=>by
  match q,hv,hd with
  |0,hv,hd=>injection hv with hv;injection hd with hd;subst hv hd;exact .int _ _
  |1,hv,hd=>injection hv with hv;injection hd with hd;subst hv hd;exact .int _ _) (aj.2 ⟨_,_,rfl,⟨_,rfl,h1⟩,aj.2 ⟨_,_,rfl,⟨_,rfl,h2⟩,dr.2 rfl⟩⟩) hn).mono ?_
 rintro e w1 ⟨v,S',τ,rfl,hb,_,_,_,fi,_⟩
 have oZ:br ax ax w S ow w1 S ow∧Wf w1 S ow:=⟨⟨hb.size,hb.os,hb.tape,hb.output,fun b _ ju _ _=>hb.block b ju,fun b ju _ _=>hb.block b ju,fun _ _ h=>h,fun b o hs=>bg (hb.block b (hw.s b o hs)),fun _ _ h _=>h,fun _ _ h=>.inl h,fun _ _ h=>h,fun _ _ h=>.inl h⟩,
  ⟨fun b o hs=>ar (hw.s b o hs) hb.size,fun b l hl=>ar (hw.o b l hl) hb.size,hw.d⟩⟩
 refine⟨?_,oZ⟩
 have e:cF 8 [.int .i64 x,.int .i64 n] = .int .i64 (yD x n):=rfl
 rw[e]at fi
 rcases fi with⟨c',hc,hq⟩|⟨hc,_⟩
 ·injection hc with hc
  subst hc
  unfold hH at hq
  simp only[ak,if_false]at hq
  obtain⟨y,hy,eW⟩:=hq
  injection hy with hy
  subst hy
  rw[eW.1.cX]
 ·exact absurd rfl hc
theorem O1{A:Option Addr}{cap:Nat}{ms:List D}{m:D}(h:cH w S (.slice A ms.length cap) (.list ms))(hj:ms[j]? =some m)(hm:Has mj m)(hu: ∀bb off,A=some ⟨bb,off,none⟩→ow bb=none):
  ∃(bm:Nat) (us:List Value) (off:Nat),A=some ⟨bm,off,none⟩∧ow bm=none∧S bm (off+j*46)∧us.length=46∧(∀(q:Nat) u,us[q]? =some u→w.cell? ⟨bm,off+j*46+q,none⟩=some u)∧(∀(q:Nat) u c,us[q]? =some u→m.cells[q]? =some c→cH w S u c)∧us[2]? =some (.int .i64 (cD 2 m).aq):=by
 obtain⟨bm,off,HB,us,hv,hs,zP,zQ,Hb⟩:=h.OR hj hm (by rw[D2];omega)
 rw[D2]at hs zP zQ
 injection hv with hA _ _
 subst hA
 refine⟨bm,us,off,rfl,hu bm off rfl,hs,zP,zQ,Hb,?_⟩
 obtain⟨u2,hu2⟩: ∃u,us[2]? =some u:=⟨_,aW (by omega)⟩
 obtain⟨l,rfl,qY⟩:=eN.1 hm
 obtain⟨x2,r7,hh2⟩:=dY qY 2 I6 (by rw[Ty.fa];rfl)
 obtain⟨n,rfl,hn⟩:=hh2
 have hc:cD 2 (D.agg l)= .int .i64 n:=by show l.getD 2 .top=_;rw[av,r7];rfl
 rw[hu2,hc,(Hb 2 u2 _ hu2 r7).cX]
 rfl
theorem Zx{l:Nat}{T:TypeId}{t:Ty}{A:Option Addr}{n cap:Nat}{xs:List D}(h:dW w S ow l T t (.slice A n cap) xs)(hw:Wf w S ow):
  ∃S' bX,br (kG l) ax w S ow w S' bX∧Wf w S' bX∧cH w S' (.slice A n cap) (.list xs)∧ ∀bb off,A=some ⟨bb,off,none⟩→bX bb=none:=by
 obtain⟨S',bX,st,lu,hr,tV⟩:=h.freeze hw
 refine⟨S',bX,st,lu,hr,fun bb off hA=> ?_⟩
 obtain⟨vs,h1,_⟩:=h.own
 have avK:ow bb=some l:=by
  rcases h1.2 with⟨he,_⟩|⟨g,HB,cur,he,_⟩
  ·rw[hA]at he;cases he
  ·rw[hA]at he
   injection he with he _ _
   injection he with he
   injection he with Ci Xk
   subst Ci Xk
   exact h.jD bb (by rw[hA];rfl)
 cases hx:bX bb with
 |none=>rfl
 |some l'=>
  exfalso
  rcases st.jD bb l' hx with h2|h2
  ·rw[avK]at h2
   injection h2 with h2
   subst h2
   exact tV bb hx
  ·simp only[kG]at h2
   subst h2
   exact tV bb hx
theorem US{P:Program}{ops:Array Oper}{S:World→Prop}{n n0 i d:Nat}{m:List (Nat×Value)}{gd:Option (Nat×Bool)}{L r:List OK}{x y:Operand}{t t2:TypeId}{kk:IntKind}{p q s:Int}(k:Kn n a m)(hS:S w)(hg:tW L m gd=some true)(hd:d<n)(hx:oh m x=some (.int kk p))(hy:oh m y=some (.int kk q))
  (hc:kk.wrap (p-q)=s) (h: ∀a',Kn n a' ((d,.int kk s)::m)→TL P ops Q S n0 L r (i+1) a' w):TL P ops Q S n0 L ((some d,.binOp .sub t x y t2,gd)::r) i a w:=by
 subst hc
 refine tX k hS hg hd (fun _ _ _ w' _=> ?_) h
 have h1:=k.op hx
 have h2:=k.op hy
 unfold execOp
 simp[h1,h2,eqGuard,binOp,Op.intArith]
noncomputable def Is:Code:=.seq (.region 32 MI true) (.cond (.tmp 196) (.region 33 MH true) .skip)
theorem ZH{A:Option Addr}{cap:Nat}{ms:List D}{m:D}(hQ:QP Q)(h:nw w S ow b g)(hn:yj ow)(hr:cH w S (.slice A ms.length cap) (.list ms))(hu: ∀bb off,A=some ⟨bb,off,none⟩→ow bb=none)(hj:ms[j]? =some m)(hm:Has mj m)(cI:Ou m g=true)
  (k:Kn 359 a [(11,.int .i64 (j:Int)),(10,.slice A ms.length cap),(0,bp b)])
  (jt: ∀a W S' bX,Kn 359 a [(11,.int .i64 (j:Int)),(10,.slice A ms.length cap),(0,bp b)] →br LG ax w S ow W S' bX→nw W S' bX b (yx m g)→Q .normal a W):Is.wp Try.prog Q a w:=by
 obtain⟨R,gm,j6,me⟩:=h
 have lZ:j<ms.length:=(aH.1 hj).1
 unfold Is
 refine wp_seq (lR (n0:=19) ax mix (fun c a d v w h=>hQ c a d v w h) agh (fun _=>by kernel_rfl) ?_)
 intro w1 e1
 have eZ:=gm.bu e1
 have j8:=(br.refl LG ax w S ow).ba gm.wf gm.wf (br.bu e1 ax ax S ow) (fun _ h=>h.elim)
 have s0:=SX.refl ax w1
 obtain⟨bm,us,off,rfl,hbm,hS,zP,zQ,Hb,FT⟩:=O1 (ow:=ow) (hr.bw (br.bu e1 ax ax S ow)) hj hm hu
 have Cj:=eZ.wf.s _ _ hS
 repeat refine sm k fun a k=> ?_
 refine qE (el:=49) (sz:=46) k (by assumption) rfl (by decide) rfl rfl (by kernel_rfl) (by kernel_rfl) (by omega) (by omega) fun a k=> ?_
 rw[cE]at k
 repeat (first|refine sm k fun a k=> ?_|refine ld k (gf Cj (fun h=>h) (zQ 2 _ FT)) fun a k=> ?_)
 have al8: ∀(a:Act),inG m g=false→Kn 359 a [(11,.int .i64 (j:Int)),(10,.slice (some ⟨bm,off,none⟩) ms.length cap),(0,bp b)] →Q .normal a w1:=by
  intro a ly k
  have hg:yx m g=g:=by unfold yx;rw[ly];rfl
  refine jt _ _ S ow k j8 ?_
  rw[hg];exact⟨R,eZ,j6,me⟩
 obtain⟨Al,Yz,E5⟩:=eZ.arr.slice
 have FZ:(R.la.map bp).length=g.iC.length:=by rw[aw,j6];exact eZ.vI
 by_cases h1:decide ((cD 2 m).aq≥1)=true
 ·refine cm (c:=true) k rfl rfl (congrArg some h1) fun a k=> ?_
  repeat refine sm k fun a k=> ?_
  refine qE (el:=49) (sz:=46) k (by assumption) rfl (by decide) rfl rfl (by kernel_rfl) (by kernel_rfl) (by omega) (by omega) fun a k=> ?_
  rw[cE]at k
  repeat (first|refine sm k fun a k=> ?_|refine ld k (eZ.cell (fun h=>h) rfl) fun a k=> ?_|refine ld k (gf Cj (fun h=>h) (zQ 2 _ FT)) fun a k=> ?_)
  rw[E5]at k
  repeat refine sm k fun a k=> ?_
  rw[FZ]at k
  by_cases h2:decide ((cD 2 m).aq≤(g.iC.length:Int))=true
  ·refine cm (c:=true) k rfl rfl (congrArg some h2) fun a k=> ?_
   refine pk k rfl rfl fun a k=> ?_
   refine aJ (bz k rfl ?_)
   have k:=k.sub (l:=[(11,.int .i64 (j:Int)),(10,.slice (some ⟨bm,off,none⟩) ms.length cap),(0,bp b)]) ⟨rfl,rfl,rfl,trivial⟩
   have h1':=of_decide_eq_true h1
   have h2':=of_decide_eq_true h2
   have ly:inG m g=true:=by unfold inG;rw[h2,show decide (1≤(cD 2 m).aq)=true from h1];rfl
   have hg:yx m g=uJ (G5 m) (pg m (ka g (G5 m))).1 false (o6 (G5 m) (pg m (ka g (G5 m))).2 g):=by unfold yx;rw[ly];rfl
   unfold Ou at cI
   rw[ly,Bool.not_true,Bool.false_or]at cI
   simp only[bc,bQ]at cI
   obtain⟨⟨⟨⟨N2,Js⟩,BX⟩,Fb⟩,wU⟩:=cI
   have ak9:(cD 2 m).aq-1=((G5 m:Nat):Int):=by unfold G5;omega
   have hi:G5 m<g.iC.length:=by unfold G5;omega
   have Hr:i64.wrap ((cD 2 m).aq-1)=((G5 m:Nat):Int):=by rw[ak9];exact wrap64 (by omega) (by omega)
   generalize XA:G5 m=i at ak9 hi Hr BX wU hg
   obtain⟨bs,alR,fX,jA⟩:=eZ.iC i _ (y9 hi)
   refine amq (n0:=23) (fun bb=>ow bb=some (1000+i)) mix (by intro c a d v w h;exact hQ c a d v w h) agf (by kernel_rfl) ?_
   intro w2 e2
   have jB:=eZ.bu e2
   have gI:=j8.ba gm.wf eZ.wf (br.bu e2 ax ax S ow) (fun _ h=>h.elim)
   have WY:=br.bu e2 ax ax S ow
   have BY:=fX.bw eZ.wf jB.wf WY (fun h=>h) rfl
   have s1:=SX.refl (fun bb=>ow bb=some (1000+i)) w2
   have jL: ¬ow b=some (1000+i):=by rw[jB.obj.ow];intro h;injection h with h;omega
   have Jd: ¬ow bm=some (1000+i):=by rw[hbm];intro h;cases h
   have JM:=jB.wf.s _ _ hS
   have aeU: ∀(q:Nat) u,us[q]? =some u→w2.cell? ⟨bm,off+j*46+q,none⟩=some u:=fun q u h=>(bg (by rw[e2.heap])).trans (zQ q u h)
   obtain⟨bl,ayF,awi,FX,mM,jY⟩:=jB.arr.elem (i:=i) (u:=bp bs) (by rw[j6,ah,alR];rfl)
   have nq: ¬ow bl=some (1000+i):=by rw[mM];intro h;injection h with h;omega
   repeat refine sm k fun a k=> ?_
   refine qE (el:=49) (sz:=46) k (by assumption) rfl (by decide) rfl rfl (by kernel_rfl) (by kernel_rfl) (by omega) (by omega) fun a k=> ?_
   rw[cE]at k
   repeat refine sm k fun a k=> ?_
   refine ld k (gf JM Jd (aeU 2 _ FT)) fun a k=> ?_
   refine US (s:=((i:Nat):Int)) k (by assumption) rfl (by decide) rfl rfl Hr fun a k=> ?_
   repeat refine sm k fun a k=> ?_
   refine ld k (jB.cell jL (j:=2) rfl) fun a k=> ?_
   repeat refine sm k fun a k=> ?_
   refine qE (el:=49) (sz:=46) k (by assumption) rfl (by decide) rfl rfl (by kernel_rfl) (by kernel_rfl) (by omega) (by omega) fun a k=> ?_
   rw[cE]at k
   repeat refine sm k fun a k=> ?_
   refine ld k (gf JM Jd (aeU 2 _ FT)) fun a k=> ?_
   refine US (s:=((i:Nat):Int)) k (by assumption) rfl (by decide) rfl rfl Hr fun a k=> ?_
   rw[awi]at k
   refine CH (el:=52) (sz:=1) k rfl rfl (by rw[FZ];exact hi) fun a k=> ?_
   refine qD (v:=bp bs) k (by assumption) rfl (by decide) rfl (by kernel_rfl) (by kernel_rfl) (gf FX nq (by rw[cd];exact jY)) fun a k=> ?_
   repeat refine sm k fun a k=> ?_
   refine qE (el:=49) (sz:=46) k (by assumption) rfl (by decide) rfl rfl (by kernel_rfl) (by kernel_rfl) (by omega) (by omega) fun a k=> ?_
   rw[cE]at k
   refine lN (vs:=us) k rfl zP (fun w' lu q v hv=>gf JM Jd (aeU q v hv) w' lu) fun a k=> ?_
   have hrm:cH w2 S (.agg us.toArray) m:=by
    obtain⟨lm,rfl,FV⟩:=eN.1 hm
    refine .agg us lm ?_ (fun q u y h3 h4=>(Hb q u y h3 h4).bw WY)
    have:=il FV
    rw[this,zP,Ty.fa];rfl
   refine j3 (vs:=[bp bs,.agg us.toArray]) k (by decide) rfl (by decide) c17.enter rfl (Qx BY jB.wf (by omega) hm hrm (Ap BX) Fb) ?_
   rintro e w3 ⟨v,S3,qo,rfl,iQ,tG,als,hr3,ht3⟩
   refine⟨_,rfl,fun _=>SX.jD (fun _ h=>h) iQ,fun a k=> ?_⟩
   have iV:=jB.Dr (i:=i) iQ tG hi alR als (iz als) N2
   have jX:=gI.gX gm.wf jB.wf iQ (.inr (by omega))
   have hn3:yj qo:=hn.bw iQ (fun l hl=>by simp only[kG]at hl;subst hl;exact .inr (by omega))
   refine j3 (vs:=[bp b,.int .i64 ((i:Nat):Int),v,.bool false]) k (by decide) rfl (by decide) yT rfl (Ie (g:=o6 i (pg m (ka g i)).2 g) ⟨_,iV,j6,me⟩ hn3 hr3 ht3 wU) ?_
   rintro e w5 ⟨S5,ow5,rfl,mw,Js⟩
   refine⟨_,rfl,fun h=>absurd rfl h,fun a k=> ?_⟩
   refine aJ (jt _ _ S5 ow5 (k.sub ⟨rfl,rfl,rfl,trivial⟩) (o5 gm.wf tG jX mw (fun _ h=>h.elim)) ?_)
   rw[hg];exact Js
  ·refine cm (c:=false) k rfl rfl (congrArg some (dF.2 h2)) fun a k=> ?_
   refine pk k rfl rfl fun a k=> ?_
   refine aJ (bz k rfl (wp_skip (al8 _ (by unfold inG;rw[dF.2 h2,Bool.and_false]) (k.sub ⟨rfl,rfl,rfl,trivial⟩))))
 ·refine cm (c:=false) k rfl rfl (congrArg some (dF.2 h1)) fun a k=> ?_
  repeat refine sm k fun a k=> ?_
  refine pk k rfl rfl fun a k=> ?_
  refine aJ (bz k rfl (wp_skip (al8 _ (by unfold inG;rw[show decide (1≤(cD 2 m).aq)=false from dF.2 h1,Bool.false_and]) (k.sub ⟨rfl,rfl,rfl,trivial⟩))))
end
theorem Nv{ms:List D}{j:Nat}{m:D}{g:GS}(hj:ms[j]? =some m)(h:AY (ms.drop j) g=true):Ou m g=true∧AY (ms.drop (j+1)) (yx m g)=true:=by
 have lZ:j<ms.length:=(aH.1 hj).1
 have hd:ms.drop j=m::ms.drop (j+1):=by
  rw[cY lZ,(aH.1 hj).2]
 rw[hd]at h
 simpa only[AY,bc]using h
theorem GJ{ms:List D}{j:Nat}{m:D}(hj:ms[j]? =some m)(g:GS):(ms.take (j+1)).foldl (fun g m=>yx m g) g=yx m ((ms.take j).foldl (fun g m=>yx m g) g):=by
 have:ms.take (j+1)=ms.take j++[m] :=by rw[dj,hj];rfl
 rw[this,List.foldl_append];rfl
section
variable{w w0:World}{S S0:bU}{ow og:Ow}{b i j:Nat}{g g':GS}{R:GR}{Q:Exit→Act→World→Prop}{a:Act}
noncomputable def OY:Code:=.seq (.region 27 MP false) (.seq (.region 28 MO false) (.seq (.region 29 MN false) (.block 5 (.loop (.seq (.seq (.region 30 ML false) (.cond (.tmp 175) .skip (.exit 5))) (.seq (.block 6 Is) (.region 31 MK false)))))))
theorem VZ(hQ:QP Q)(h:nw w S ow b g)(hn:yj ow)(cI:AY g.kI {g with kI:=[]}=true)(k:Kn 359 a [(0,bp b)])
  (jt: ∀a W S' bX,Kn 359 a [(0,bp b)] →br LG ax w S ow W S' bX→nw W S' bX b (Yv g)→Q .normal a W):OY.wp Try.prog Q a w:=by
 obtain⟨R,gm,j6,me⟩:=h
 have iB:=gm.wf
 have jY:g.kI.length≤maxLen:=gm.kI.len.1
 have He:maxLen≤9223372036854775807:=by decide
 have alw:=gm.kI.all
 unfold OY
 refine wp_seq (rg ax hQ agm ?_)
 intro w1 e1
 have eZ:=gm.bu e1
 have j8:=(br.refl LG ax w S ow).ba iB iB (br.bu e1 ax ax S ow) (fun _ h=>h.elim)
 have s0:=SX.refl ax w1
 obtain⟨A,cap,hv⟩:=eZ.kI.slice
 repeat (first|refine sm k fun a k=> ?_|refine ld k (eZ.cell (fun h=>h) rfl) fun a k=> ?_)
 refine aJ ?_
 have k:=k.sub (l:=[(10,R.kI),(0,bp b)]) ⟨rfl,rfl,trivial⟩
 rw[hv]at k
 have ae9:=eZ.kI
 rw[hv]at ae9
 obtain⟨S2,tC,gI,jn,nK,hu2⟩:=Zx ae9 eZ.wf
 have jB:=eZ.OZ gI jn (dW.nil (w:=w1) (S:=S2) (ow:=tC) (T:=49) (t:=mj) (l:=11) (by rw[D2];omega) (by omega))
 have BF:=j8.gX iB eZ.wf gI (.inl (by decide))
 clear ae9 eZ j8 s0 e1
 refine wp_seq (rg ax hQ agl ?_)
 intro w3 e3
 have iV:=jB.bu e3
 have iQ:=BF.ba iB jn (br.bu e3 ax ax S2 tC) (fun _ h=>h.elim)
 have s0:=SX.refl ax w3
 repeat refine sm k fun a k=> ?_
 refine mW (cur:=R.cells g.bad) k (by decide) rfl (by kernel_rfl) rfl rfl rfl iV.obj.heap (by show 4<11;omega) rfl (fun h=>absurd rfl h) fun a k=> ?_
 refine aJ ?_
 obtain⟨jX,tU,Xu⟩:=iV.obj.set iV.wf (us:=(R.cells g.bad).set (0+4) jJ)
 have mh:=iV.setObj jX tU Xu
 have EX:=iQ.gX iB iV.wf jX (.inl (by decide))
 have XE:=(nK.bw (br.bu e3 ax ax S2 tC)).bw jX
 have LJ:nw (w3.setRow b ((R.cells g.bad).set (0+4) jJ).toArray) S2 tC b {g with kI:=[]}:=⟨{R with kI:=jJ},mh,j6,me⟩
 have hn2:yj tC:=hn.bw gI (fun l hl=>by simp only[kG]at hl;subst hl;exact .inl (by omega))
 have k:=k.sub (l:=[(10,.slice A g.kI.length cap),(0,bp b)]) ⟨rfl,rfl,trivial⟩
 have Yf:Wf (w3.setRow b ((R.cells g.bad).set (0+4) jJ).toArray) S2 tC:=tU
 show Code.wp Try.prog _ _ a (w3.setRow b ((R.cells g.bad).set (0+4) jJ).toArray)
 generalize w3.setRow b ((R.cells g.bad).set (0+4) jJ).toArray=w4 at LJ XE EX Yf⊢
 clear mh iV jB jX iQ BF tU Xu s0 e3 gI jn nK
 refine wp_seq (rg ax hQ agk ?_)
 intro w5 e5
 have s0:=SX.refl ax w5
 repeat refine sm k fun a k=> ?_
 refine aJ ?_
 have Js:nw w5 S2 tC b {g with kI:=[]}:=by obtain⟨R',Fc,h1,h2⟩:=LJ;exact⟨R',Fc.bu e5,h1,h2⟩
 have mw:=EX.ba iB Yf (br.bu e5 ax ax S2 tC) (fun _ h=>h.elim)
 have Jl:Wf w5 S2 tC:=Yf.bu e5
 have hr5:=XE.bw (br.bu e5 ax ax S2 tC)
 have bP: ∀bb off,A=some ⟨bb,off,none⟩→bb<w5.heap.size∨g.kI.length=0:=by
  intro bb off hA
  by_cases hz:g.kI.length=0
  ·exact .inr hz
  ·left
   obtain⟨m,hm⟩: ∃m,g.kI[0]? =some m:=⟨_,aW (by omega)⟩
   obtain⟨bm,us,aBy,hA',_,hS,_⟩:=O1 (ow:=tC) hr5 hm (alw m (ca hm)) hu2
   rw[hA]at hA'
   injection hA' with hA'
   injection hA' with hA' _
   subst hA'
   exact(Yf.bu e5).s _ _ hS
 refine wp_block (wp_loop_ghost (fun mm a W=> ∃(j:Nat) (S1:bU) (fE:Ow),mm=g.kI.length-j∧j≤g.kI.length∧Kn 359 a [(11,.int .i64 (j:Int)),(10,.slice A g.kI.length cap),(0,bp b)] ∧br LG ax w S ow W S1 fE∧br LG ax w5 S2 tC W S1 fE∧
  nw W S1 fE b ((g.kI.take j).foldl (fun g m=>yx m g) {g with kI:=[]})∧AY (g.kI.drop j) ((g.kI.take j).foldl (fun g m=>yx m g) {g with kI:=[]})=true) (g.kI.length-0)
  ⟨0,S2,tC,rfl,bf _,k.sub ⟨rfl,rfl,rfl,trivial⟩,mw,br.refl _ _ _ _ _,Js,cI⟩ ?_)
 clear k s0 LJ XE EX Js mw
 rintro mm a W ⟨j,S1,fE,rfl,hjn,k,mL,atK,hg6,avv⟩
 refine wp_seq (wp_seq (rg ax hQ agj ?_))
 intro w7 e7
 have zM:Wf W S1 fE:=by obtain⟨_,Fc,_⟩:=hg6;exact Fc.wf
 have XO:nw w7 S1 fE b ((g.kI.take j).foldl (fun g m=>yx m g) {g with kI:=[]}):=by obtain⟨R',Fc,h1,h2⟩:=hg6;exact⟨R',Fc.bu e7,h1,h2⟩
 have pR:=mL.ba iB zM (br.bu e7 ax ax S1 fE) (fun _ h=>h.elim)
 have aea:=atK.ba Jl zM (br.bu e7 ax ax S1 fE) (fun _ h=>h.elim)
 have s0:=SX.refl ax w7
 repeat refine sm k fun a k=> ?_
 refine cm (c:=decide ((j:Int)<(g.kI.length:Int))) k rfl rfl rfl fun a k=> ?_
 refine aJ (bz k rfl ?_)
 have k:=k.sub (l:=[(11,.int .i64 (j:Int)),(10,.slice A g.kI.length cap),(0,bp b)]) ⟨rfl,rfl,rfl,trivial⟩
 by_cases xG:(j:Int)<(g.kI.length:Int)
 ·rw[if_pos (by simpa using xG)]
  refine wp_skip ?_
  obtain⟨m,hm⟩: ∃m,g.kI[j]? =some m:=⟨_,aW (by omega)⟩
  obtain⟨hd1,hd2⟩:=Nv hm avv
  have hn7:yj fE:=hn.bw pR (fun l hl=>hl)
  refine wp_seq (wp_block (ZH (fun c a d v w h=>hQ c a d v w h) XO hn7 (hr5.bw aea) (fun bb off hA=> ?_) hm (alw m (ca hm)) hd1 k ?_))
  ·rcases bP bb off hA with h1|h1
   ·exact aea.rQ bb h1 (hu2 bb off hA)
   ·omega
  intro a w8 S8 ow8 k uh hg8
  have Je:Wf w7 S1 fE:=zM.bu e7
  have N0:Wf w8 S8 ow8:=by obtain⟨_,Fc,_⟩:=hg8;exact Fc.wf
  refine rg ax hQ agi ?_
  intro w9 e9
  have s0:=SX.refl ax w9
  repeat refine sm k fun a k=> ?_
  refine lI (s:=((j+1:Nat):Int)) k (by assumption) rfl (by decide) rfl rfl (wrap64 (by omega) (by omega)) fun a k=> ?_
  repeat refine sm k fun a k=> ?_
  refine aJ ⟨g.kI.length-(j+1),by omega,j+1,S8,ow8,rfl,by omega,k.sub ⟨rfl,rfl,rfl,trivial⟩,(o5 iB Je pR uh (fun _ h=>h.elim)).ba iB N0 (br.bu e9 ax ax S8 ow8) (fun _ h=>h.elim),(o5 Jl Je aea uh (fun _ h=>h.elim)).ba Jl N0 (br.bu e9 ax ax S8 ow8) (fun _ h=>h.elim),?_,?_⟩
  ·rw[GJ hm]
   obtain⟨R',Fc,h1,h2⟩:=hg8
   exact⟨R',Fc.bu e9,h1,h2⟩
  ·rw[GJ hm];exact hd2
 ·rw[if_neg (by simpa using xG)]
  refine wp_exit ?_
  have Jr:j=g.kI.length:=by omega
  subst Jr
  rw[fS]at XO
  exact jt _ _ S1 fE (k.sub ⟨rfl,trivial⟩) pR XO
end
end Go.Proofs.Ytjhmkaninmgilaa
