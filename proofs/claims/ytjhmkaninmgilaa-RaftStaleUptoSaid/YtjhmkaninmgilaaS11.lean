/- Part 11 of the proof of RaftStale; no condition. -/
import Derived.Test.YtjhmkaninmgilaaS09
import Derived.Test.YtjhmkaninmgilaaS07
import Derived.Test.YtjhmkaninmgilaaS10
import Derived.Test.YtjhmkaninmgilaaS04
set_option linter.unusedVariables false
set_option linter.unusedSimpArgs false
set_option maxHeartbeats 4000000
namespace Go.Proofs.Ytjhmkaninmgilaa
open Go Go.RowKit Go.bZ Go.Proofs
theorem c81:ax Try.prog 81 s81 (pre 81) (aK 81):=by
 refine aH (given:=[]) mix (vt (Φ:=aK) (Pre:=pre)) Try.func81 (by kernel_rfl) (v:=aeP) (by kernel_rfl) ?_
 intro ds h hp
 obtain⟨_,_,rfl,ga,_,_,rfl,gb,rfl⟩:=h
 obtain⟨a,rfl,ha,hka⟩:=uW ga
 obtain⟨b,rfl,hb,hkb⟩:=uW gb
 have hR:aK 81 [.list (a.map (D.int .i64)), .list (b.map (D.int .i64))] = .bool (decide (a=b)):=by simp[aK,cK]
 simp[aeP,cO,cg,cb,bh,cd,bG,cN,cQ,cP,dI,den,U.den,B.den,dp,aq,bu,cn,ch,ck,df,aQ,bn,List.getElem?_map,Option.map_some,Option.getD_some,List.length_map,pre,hR]
 refine⟨fun h=> ?_,fun h=> ?_⟩
 ·intro e;exact h (by rw[e])
 refine jS.intro (fun xs=> ∃n:Nat,xs=[.bool false, .int .i64 n] ∧n≤a.length∧a.take n=b.take n) (fun xs=>a.length-(I (.list xs) 1).toNat) ⟨0,rfl,Nat.zero_le _,by simp⟩ ?_
 intro xs pT hJ
 obtain⟨n,rfl,hle,qe⟩:=hJ
 clear pT
 rcases hx:a[n]? with _|x
 ·have lR:=rQ hx
  have aL: ¬((n:Int)<a.length):=by omega
  have e:n=a.length:=by omega
  subst e
  rw[List.take_length,List.take_of_length_le (by omega)]at qe
  simp[aQ,qe]
 ·have aL:=rN hx
  have iR:(n:Int)<a.length:=by omega
  have H3:=aS hx
  have fC:IntKind.wrap .i64 ((n:Int)+1)=(n:Int)+1:=wrap64 (by omega) (by omega)
  obtain⟨y,hy⟩: ∃y,b[n]? =some y:=⟨_,av (by omega)⟩
  have ht:a.take (n+1)=a.take n++[x] :=by rw[List.take_add_one,hx,Option.toList_some]
  have SR:b.take (n+1)=b.take n++[y] :=by rw[List.take_add_one,hy,Option.toList_some]
  have aqN:(n:Int)<b.length:=by omega
  simp[aQ,hx,hy,iR,aqN,fC,Nat.not_le.2 aL]
  refine⟨fun dH e=> ?_,fun hxy=>⟨⟨n+1,by simp,aL,by rw[ht,SR,qe,hxy]⟩,?_⟩⟩
  ·rw[e,hy]at hx;injection hx with hx;exact dH hx.symm
  ·show a.length-((n:Int)+1).toNat<a.length-(n:Int).toNat
   omega
theorem XT:gM Try.prog pre aK [(81,s81)] :=aj c81 vt
theorem c62:ax Try.prog 62 s62 (pre 62) (aK 62):=by
 refine aH (given:=[]) mix XT Try.func62 (by kernel_rfl) (v:=ae1) (by kernel_rfl) ?_
 intro ds h hp
 obtain⟨_,_,rfl,ga,_,_,rfl,gb,rfl⟩:=h
 obtain⟨va,la,rfl,lL,MB,kV,MC⟩:=vg ga
 obtain⟨vb,lb,rfl,hvb,aqV,hlb,aqW⟩:=vg gb
 simp[ae1,cO,cg,cb,bh,cd,bG,cN,cQ,cP,dI,den,U.den,B.den,dp,aq,bu,cn,ch,ck,df,aQ,bn,List.getElem?_map,Option.map_some,Option.getD_some,List.length_map,pre,ars,akH]
theorem Yc:gM Try.prog pre aK [(62,s62),(81,s81)] :=aj c62 XT
theorem c31:ax Try.prog 31 s31 (pre 31) (aK 31):=by
 refine aH (given:=[]) mix Yc Try.func31 (by kernel_rfl) (v:=apx) (by kernel_rfl) ?_
 intro ds h hp
 obtain⟨x,_,rfl,hx,y,_,rfl,hy,rfl⟩:=h
 refine VC.bH (Φ:=aK) (Pre:=pre) (dec:=D.eh) (enc:=D.bool) (bad:=false) (lp:=fun _ _ _=>false) (y:=Px x y) bC (by kernel_rfl) (VC.gu (by kernel_rfl)) (by kernel_rfl) (by kernel_rfl)
theorem akU:gM Try.prog pre aK [(31,s31),(62,s62),(81,s81)] :=aj c31 Yc
theorem c8:ax Try.prog 8 s8 (pre 8) (aK 8):=by
 refine aH (given:=[]) mix akU Try.func8 (by kernel_rfl) (v:=vc8) (by kernel_rfl) ?_
 intro ds h hp
 obtain⟨_,_,rfl,⟨a,rfl,ha⟩,_,_,rfl,⟨b,rfl,hb⟩,rfl⟩:=h
 replace hp:b≠0:=hp
 have hR:aK 8 [.int .i64 a, .int .i64 b] = .int .i64 (mH a b):=rfl
 simp[vc8,cO,cg,cb,bh,cd,bG,cN,cQ,cP,dI,den,U.den,B.den,dp,aq,bu,cn,ch,ck,df,aQ,bn,pre,hR,mH,hp]
 exact⟨fun h1 h2=>by omega,fun h1 h2=>by omega⟩
attribute [local irreducible] TL
def Cs(x:D):D:= .agg (x.ak.drop 2)
def k8(l:List D)(n:Int):List D:=l++List.replicate (n+1-l.length).toNat tR
def ya(x:D)(g:GS):GS:=
 let t:=k8 g.told (cD 0 x).ab
 let y:=t.getD (cD 0 x).ab.toNat .top
 {g with told:=t.set (cD 0 x).ab.toNat x,bad:=g.bad||((cD 0 y).ab !=0&&((cD 1 y).ab !=(cD 1 x).ab|| !Px (Cs x) (Cs y)))}
theorem Ko{l:List D}{n:Int}(h:(l.length:Int)≤n):k8 (l++[tR]) n=k8 l n:=by
 unfold k8
 rw[List.append_assoc,List.length_append,List.length_singleton]
 congr 1
 rw[show(n+1-(l.length:Int)).toNat=(n+1-((l.length+1:Nat):Int)).toNat+1 by omega,List.replicate_succ]
 rfl
theorem Kq{l:List D}{n:Int}(h:n<(l.length:Int)):k8 l n=l:=by
 unfold k8
 rw[show(n+1-(l.length:Int)).toNat=0 by omega]
 simp
def zeroV:Ty→Value
 | .int k=> .int k 0
 | .bool=> .bool false
 | .list _=> .slice none 0 0
 |_=> .pointer none
def qO:List Value:=cX.cells.map zeroV
theorem Kw:Try.prog.built 78 [] =some qO.toArray:=by kernel_rfl
theorem Sr{w:World}{S:aO}: ∀(j:Nat) u c,qO[j]? =some u→tR.cells[j]? =some c→bj w S u c:=by
 intro j u c hu hc
 have key: ∀(l:List (Value×D)),(∀p∈l,bj w S p.1 p.2)→ ∀(j:Nat) (u:Value) (c:D),(l.map (·.1))[j]? =some u→(l.map (·.2))[j]? =some c→bj w S u c:=by
  intro l hl j u c hu hc
  rw[List.getElem?_map,br]at hu hc
  obtain⟨p,hp,rfl⟩:=hu
  obtain⟨q,hq,rfl⟩:=hc
  rw[hp]at hq;injection hq with hq;subst hq
  exact hl p (aS hp)
 refine key (qO.zip tR.cells) ?_ j u c (by rw[show(qO.zip tR.cells).map (·.1)=qO from rfl];exact hu) (by rw[show(qO.zip tR.cells).map (·.2)=tR.cells from rfl];exact hc)
 have hz: ∀p∈qO.zip tR.cells,p=(Value.int .i64 0,D.int .i64 0)∨p=(.bool false, .bool false)∨p=(.slice none 0 0, .list []):=by
  have:qO.zip tR.cells=[(.int .i64 0, .int .i64 0),(.int .i64 0, .int .i64 0),(.int .i64 0, .int .i64 0),(.int .i64 0, .int .i64 0),(.int .i64 0, .int .i64 0),(.int .i64 0, .int .i64 0),(.int .i64 0, .int .i64 0),(.int .i64 0, .int .i64 0),(.int .i64 0, .int .i64 0),(.slice none 0 0, .list []),(.int .i64 0, .int .i64 0),(.bool false, .bool false),(.int .i64 0, .int .i64 0),(.int .i64 0, .int .i64 0),(.int .i64 0, .int .i64 0),(.bool false, .bool false),(.bool false, .bool false),(.int .i64 0, .int .i64 0),(.int .i64 0, .int .i64 0),(.int .i64 0, .int .i64 0),(.slice none 0 0, .list []),(.int .i64 0, .int .i64 0),(.int .i64 0, .int .i64 0),(.int .i64 0, .int .i64 0),(.slice none 0 0, .list []),(.slice none 0 0, .list []),(.bool false, .bool false),(.slice none 0 0, .list []),(.slice none 0 0, .list [])] :=rfl
  rw[this]
  intro p hp
  simp only[List.mem_cons,List.not_mem_nil,or_false]at hp
  rcases hp with rfl|rfl|rfl|rfl|rfl|rfl|rfl|rfl|rfl|rfl|rfl|rfl|rfl|rfl|rfl|rfl|rfl|rfl|rfl|rfl|rfl|rfl|rfl|rfl|rfl|rfl|rfl|rfl|rfl<;>first|exact .inl rfl|exact .inr (.inl rfl)|exact .inr (.inr rfl)
 intro p hp
 rcases hz p hp with rfl|rfl|rfl
 ·exact .int _ _
 ·exact .bool _
 ·exact .nil _ _
theorem Ss:Has cX tR:=by
 have key: ∀(ts:List Ty),(∀t∈ts,t= .int .i64∨t= .bool∨ ∃u,t= .list u)→bV (.bQ ts) (ts.map fun t=>match t with| .int k=> .int k 0| .bool=> .bool false| .list _=> .list [] |_=> .top):=by
  intro ts
  induction ts with
  |nil=>intro _;exact bE.2 rfl
  |cons t ts ih=>
   intro h
   refine aa.2 ⟨_,_,rfl,?_,ih fun t ht=>h t (List.mem_cons_of_mem _ ht)⟩
   rcases h t (by simp) with rfl|rfl|⟨u,rfl⟩
   ·exact⟨0,rfl,by decide⟩
   ·exact⟨_,rfl⟩
   ·exact⟨[],rfl,db u,fun _ h=>by cases h⟩
 refine cu.2 ⟨_,rfl,key ([.int .i64, .int .i64] ++IX) ?_⟩
 intro t ht
 have: ∀t∈([.int .i64, .int .i64] ++IX:List Ty),(match t with| .int .i64=>true| .bool=>true| .list _=>true|_=>false)=true:=by
  rw[←aV];rfl
 have h:=this t ht
 cases t with
 |int k=>cases k<;>first|exact .inl rfl|(exact absurd h (by decide))
 |bool=>exact .inr (.inl rfl)
 |list u=>exact .inr (.inr ⟨u,rfl⟩)
 |_=>simp at h
theorem ss{f:Nat}{ps:List Ty}{Pre:List D→Prop}{Φ:List D→D}{w:World}{S:aO}{ow:Ow}{vs:List Value}{dd:List D}{c:Bool}(hf:ax Try.prog f ⟨ps,[(false,[(.bool,none)])],none⟩ Pre Φ)(hw:Wf w S ow)(hl:vs.length=dd.length)(fa: ∀(i:Nat) v d,vs[i]? =some v→dd[i]? =some d→bj w S v d)
  (fV:bV (.bQ ps) dd) (gE:Pre dd) (qi:Φ dd= .bool c):Calls Try.prog f vs.toArray w fun e w'=>e= .returned (.bool c)∧aC ae ae w S ow w' S ow∧Wf w' S ow:=by
 refine(hf.calls rfl w S vs dd hw.s hl fa fV gE).mono ?_
 rintro e w1 ⟨v,S',τ,rfl,hb,_,_,_,cw,_⟩
 have mj:aC ae ae w S ow w1 S ow∧Wf w1 S ow:=⟨⟨hb.size,hb.os,hb.tape,hb.output,fun b _ fu _ _=>hb.block b fu,fun b fu _ _=>hb.block b fu,fun _ _ h=>h,fun b o hs=>World.cell?_of_block (hb.block b (hw.s b o hs)),fun _ _ h _=>h,fun _ _ h=> .inl h,fun _ _ h=>h,fun _ _ h=> .inl h⟩,
  ⟨fun b o hs=>Nat.lt_of_lt_of_le (hw.s b o hs) hb.size,fun b l hl=>Nat.lt_of_lt_of_le (hw.o b l hl) hb.size,hw.d⟩⟩
 rw[qi]at cw
 rcases cw with⟨c',hc,hq⟩|⟨hc,_⟩
 ·injection hc with hc
  subst hc
  unfold ep at hq
  simp only[Bool.false_eq_true,if_false]at hq
  obtain⟨x,hx,cB⟩:=hq
  injection hx with hx
  subst hx
  have hr:bj w1 S' v (.bool c):=cB.1
  rw[hr.eH]
  exact⟨rfl,mj⟩
 ·exact absurd rfl hc
theorem uH{w0 w w1:World}{S0 S S1:aO}{kK ow dA:Ow}{X:Nat→Prop}(gi:Wf w0 S0 kK)(hw:Wf w S ow)(h:aC LG ae w0 S0 kK w S ow)(k:aC LG X w S ow w1 S1 dA)(hX: ∀b,X b→w0.heap.size≤b):aC LG ae w0 S0 kK w1 S1 dA:=
 (h.tr gi hw k (fun b h=> .inr (hX b h))).mono (fun _ h=>h.elim id id) (fun _ h=>h)
section
variable{w0 w:World}{S0 S:aO}{kK ow:Ow}{b b6 b9 i:Nat}{g:GS}{R:GR}{Q:Exit→Act→World→Prop}{a:Act}{xs:List Value}{j:Nat}{n:Int}
noncomputable def AZ:Code:= .block 2 (.loop (.seq (.seq (.region 9 P3 true) (.cond (.tmp 57) .skip (.exit 2))) (.block 3 (.region 10 Jk false))))
theorem MY(hQ:QP Q)(gm:GM w S ow b (R.cells g.bad) R g)(lx:dP w S ow b9 78 xs)(hx:xs[0]? =some (.int .i64 n))(h0:0≤n)(hn:n≤300000000000)(xO:g.told.length≤300000000001)
  (k:Kn 109 a [(9, .pointer (some ⟨b9,0,none⟩)),(8, .int .i64 j),(6, .pointer (some ⟨b6,0,none⟩)),(0,aM b),(1, .int .i64 i)])
  (fO: ∀a W aT v,Kn 109 a [(9, .pointer (some ⟨b9,0,none⟩)),(8, .int .i64 j),(6, .pointer (some ⟨b6,0,none⟩)),(0,aM b),(1, .int .i64 i)] →aC LG ae w S ow W S aT→GM W S aT b ({R with told:=v}.cells g.bad) {R with told:=v} {g with told:=k8 g.told n}→(k8 g.told n).length≤300000000001→Q .normal a W):AZ.wp Try.prog Q a w:=by
 unfold AZ
 refine wp_block (wp_loop_ghost (fun mm a W=> ∃(l:List D) (v:Value) (dA:Ow),mm=(n+1-(l.length:Int)).toNat∧Kn 109 a [(9, .pointer (some ⟨b9,0,none⟩)),(8, .int .i64 j),(6, .pointer (some ⟨b6,0,none⟩)),(0,aM b),(1, .int .i64 i)] ∧
  aC LG ae w S ow W S dA∧GM W S dA b ({R with told:=v}.cells g.bad) {R with told:=v} {g with told:=l}∧k8 l n=k8 g.told n∧l.length≤300000000001) (n+1-(g.told.length:Int)).toNat
  ⟨g.told,R.told,ow,rfl,k,aC.refl _ _ _ _ _,gm,rfl,xO⟩ ?_)
 clear k
 rintro mm a W ⟨l,v,dA,rfl,k,gC,dB,sZ,om⟩
 have yH:=lx.aB gC (fun h=>h)
 refine wp_seq (wp_seq (jJ (n0:=8) ae mix (fun c a d v w h=>hQ c a d v w h) ai5 (fun _=>by kernel_rfl) ?_))
 intro w2 e2
 have gA:=dB.aG e2
 have BT:=yH.aG e2
 have en:=gC.aF gm.wf dB.wf (aC.aG e2 ae ae S dA) (fun _ h=>h.elim)
 have s0:=SX.refl ae w2
 obtain⟨A,cap,hv⟩:=gA.told.slice
 have ng:v= .slice A l.length cap:=hv
 repeat (first|refine sm k fun a k=> ?_|refine ld k (BT.cell (fun h=>h) hx) fun a k=> ?_|refine ld k (gA.cell (fun h=>h) rfl) fun a k=> ?_)
 rw[show({R with told:=v}:GR).told=v from rfl,ng]at k
 repeat (first|refine sm k fun a k=> ?_|refine ld k (BT.cell (fun h=>h) hx) fun a k=> ?_|refine ld k (gA.cell (fun h=>h) rfl) fun a k=> ?_)
 refine cm (c:=decide ((l.length:Int)≤n)) k rfl rfl rfl fun a k=> ?_
 refine ar (aR k rfl ?_)
 have k:=k.sub (l:=[(9, .pointer (some ⟨b9,0,none⟩)),(8, .int .i64 j),(6, .pointer (some ⟨b6,0,none⟩)),(0,aM b),(1, .int .i64 i)]) ⟨rfl,rfl,rfl,rfl,rfl,trivial⟩
 by_cases hc:(l.length:Int)≤n
 ·rw[if_pos (by simpa using hc)]
  refine wp_skip (wp_block (rg (fun bb=>dA bb=some 12) hQ abI ?_))
  intro w3 e3
  have ft:=gA.aG e3
  have eY:=en.aF gm.wf gA.wf (aC.aG e3 ae ae S dA) (fun _ h=>h.elim)
  have s0:=SX.refl (fun bb=>dA bb=some 12) w3
  have zh: ¬dA b=some 12:=by rw[ft.obj.ow];decide
  repeat (first|refine sm k fun a k=> ?_|refine ld k (ft.cell zh rfl) fun a k=> ?_)
  refine lh (ps:=[]) (vs:=qO) k (by assumption) rfl (by decide) rfl Kw fun a k=> ?_
  refine nt (kk:=29) (T:=78) k (by decide) rfl (by decide) rfl (by kernel_rfl) rfl (fun _=>SX.alloc _ _ _) fun a k=> ?_
  obtain⟨tf,n8⟩:=aC.alloc ft.wf (.cells (Value.agg qO.toArray).cells 78)
  have j8:=ft.aB tf n8
  refine uG k (by decide) rfl (by decide) fun ty pos af=> ?_
  obtain⟨v',w',cM,aT,jq,xN,ho5⟩:=j8.told.MP (P:=Try.prog) (tt:=28) (by kernel_rfl) rfl n8 ty w3.heap.size (d:=tR) Ss (us:=qO) rfl (heap_alloc_new w3 _) (fun q u c h1 h2=>Sr q u c h1 h2) (xz (by show l.length+1≤_;omega))
  have s1:SX (fun bb=>dA bb=some 12) w3 w':=(SX.alloc _ _ _).trans (SX.fU (fun _ h=>h) jq)
  refine⟨v',w',iX (k.op rfl) (k.op rfl) cM,fun _=>s1,fun a k=> ?_⟩
  have j7:=j8.GV jq xN ho5
  obtain⟨Av,cv,Oa⟩:=ho5.slice
  repeat refine sm k fun a k=> ?_
  refine iN (cur:={R with told:=v}.cells g.bad) k (by decide) rfl (by kernel_rfl) rfl rfl (by rw[Oa];rfl) j7.obj.heap (by show 5<11;omega) (by rw[Oa];rfl) (fun h=>absurd rfl h) fun a k=> ?_
  refine ar ?_
  obtain⟨kq,qd,ho6⟩:=j7.obj.set xN (us:=({R with told:=v}.cells g.bad).set 5 v')
  have ta:=j7.setObj kq qd ho6
  have sA:=eY.aF gm.wf ft.wf tf (fun _ h=>h.elim)
  have sB:=sA.dJ gm.wf n8 jq (.inl (by decide))
  have sC:=sB.dJ gm.wf xN kq (.inl (by decide))
  refine⟨_,?_,l++[tR],v',aT,rfl,k.sub ⟨rfl,rfl,rfl,rfl,rfl,trivial⟩,sC,ta,(Ko hc).trans sZ,by rw[List.length_append,List.length_singleton];omega⟩
  rw[List.length_append,List.length_singleton];omega
 ·rw[if_neg (by simpa using hc)]
  refine wp_exit ?_
  have hd:=Kq (l:=l) (n:=n) (by omega)
  rw[hd]at sZ
  show Q .normal a w2
  refine fO a w2 dA v k en ?_ ?_
  ·rw[←sZ];exact gA
  ·rw[←sZ];exact om
end
end Go.Proofs.Ytjhmkaninmgilaa
namespace Go.Proofs.Ytjhmkaninmgilaa
open Go Go.RowKit Go.bZ Go.Proofs
theorem PB{P:Program}{ops:Array Oper}{Q:Exit→Act→World→Prop}{S:World→Prop}{n n0 i d j t:Nat}{bb:Bool}{a:Act}{w:World}{m:List (Nat×Value)}{L r:List OK}{op:Op}(k:Kn n a m)(hS:S w)(hj:(L[j]?).bind (·.1)=some t)(hu:lk m t=some undef)(hd:d<n)
  (h: ∀a',Kn n a' ((d,undef)::m)→TL P ops Q S n0 L r (i+1) a' w):TL P ops Q S n0 L ((some d,op,some (j,bb))::r) i a w:=by
 intro hl hr
 obtain⟨⟨o,ho,hx⟩,lC⟩:=rI hl hr
 obtain⟨dst,SJ,ty,pos,af,Tg⟩:=o
 simp only[SI,Prod.mk.injEq]at hx
 obtain⟨rfl,rfl,rfl⟩:=hx
 have yM:(ops[j]?).bind (·.dst)=some t:=by
  rw[←hj,←hl]
  unfold aZ
  rw[List.getElem?_map]
  cases ho:ops[j]? with
  |none=>simp[ho]
  |some o=>simp[ho,SI]
 have hw:Region.wanted ⟨some d,SJ,ty,pos,af,some (j,bb)⟩ (yielded ops a.tmps)=false:=by
  unfold Region.wanted
  have h1:=k.2.2 t _ hu
  simp only[yielded,yM,Option.bind_some,h1]
  rfl
 show mG P ops Q S n0 (r.length+1) i a w
 unfold mG
 rw[ho]
 simp only
 by_cases hi:i<n0
 ·rw[if_pos hi]
  exact⟨hS,undef, .inr ⟨hw,rfl⟩,h _ (k.put d undef hd) hl lC⟩
 ·rw[if_neg hi]
  exact(YieldsIf.wpOp (S:=S) ho (.inr ⟨hw,rfl⟩) hS ⟨fun _=>hS,h _ (k.put d undef hd) hl lC⟩)
attribute [local irreducible] TL
theorem zz{w:World}{S:aO}{x:D}{us:List Value}(h:Has cX x)(hl:us.length=29)(hr: ∀(q:Nat) u c,us[q]? =some u→x.cells[q]? =some c→bj w S u c):
  bj w S (.agg (us.drop 2).toArray) (Cs x)∧Has IW (Cs x)∧us[0]? =some (.int .i64 (cD 0 x).ab)∧us[1]? =some (.int .i64 (cD 1 x).ab)∧ ∀u∈us,u.oneCell'=true:=by
 have hx:=h
 obtain⟨l,rfl,om⟩:=cu.1 h
 have aqU:l.length=29:=by rw[dZ om,Ty.cC];rfl
 obtain⟨u0,Oy⟩: ∃u,us[0]? =some u:=⟨_,av (by omega)⟩
 obtain⟨u1,hu1⟩: ∃u,us[1]? =some u:=⟨_,av (by omega)⟩
 obtain⟨x0,r0,e0,h0,SW⟩:=aa.1 om
 obtain⟨x1,r1,e1,h1,yJ⟩:=aa.1 SW
 subst e1
 subst e0
 obtain⟨n0,rfl,_⟩:=h0
 obtain⟨n1,rfl,_⟩:=h1
 have g0:=(hr 0 u0 _ Oy rfl).bD
 have g1:=(hr 1 u1 _ hu1 rfl).bD
 subst g0 g1
 refine⟨.agg _ _ (by rw[List.length_drop,hl];show 29-2=r1.length;simp only[List.length_cons]at aqU;omega) ?_,cu.2 ⟨_,rfl,yJ⟩,Oy,hu1,?_⟩
 ·intro q u c hu hc
  rw[List.getElem?_drop]at hu
  have xR:(D.agg (.int .i64 n0:: .int .i64 n1::r1)).cells[2+q]? =some c:=by
   show(D.int .i64 n0:: .int .i64 n1::r1)[2+q]? =some c
   rw[show 2+q=q+1+1 by omega]
   exact hc
  exact hr _ u c hu xR
 ·intro u hu
  obtain⟨q,hq⟩:=List.getElem?_of_mem hu
  have DO:q<us.length:=(ai.1 hq).1
  obtain⟨gz,gS⟩:=bp hx
  have OB:q<cX.cells.length:=by rw[j3];omega
  obtain⟨c,qf,wH⟩:=gS q (cX.cells[q]'OB) (av OB)
  exact(hr q u c hq qf).gq wH (aV.1 (show cX.cells.all Ty.scalar=true from rfl) _ (List.getElem_mem OB))
theorem NL{l:List D}{n:Int}(h:0≤n):n.toNat<(k8 l n).length:=by
 unfold k8
 rw[List.length_append,List.length_replicate]
 omega
section
variable{w0 w:World}{S0 S:aO}{kK ow:Ow}{b b6 b9 i:Nat}{g:GS}{R:GR}{Q:Exit→Act→World→Prop}{a:Act}{vo xs:List Value}{j:Nat}{n:Int}{A6:Option Addr}{c6:Nat}{cs:List D}{x:D}
noncomputable def ES:Code:= .seq (.region 8 P4 false) (.seq AZ (.seq (.region 11 Jj true) (.seq (.region 12 Ji false) (.seq (.seq (.region 13 Jh false) (.cond (.tmp 94) (.region 14 Ey false) .skip)) (.region 15 As true)))))
theorem take_one(hQ:QP Q)(gm:GM w S ow b (R.cells g.bad) R g)(lo:dP w S ow b6 75 vo)(KE:vo[6]? =some (.slice A6 cs.length c6))(mB:bj w S (.slice A6 cs.length c6) (.list cs))(TF:Has (.list cX) (.list cs))(hj:cs[j]? =some x)
  (h0:0≤(cD 0 x).ab) (hn:(cD 0 x).ab≤300000000000) (xO:g.told.length≤300000000001) (k:Kn 109 a [(8, .int .i64 j),(6, .pointer (some ⟨b6,0,none⟩)),(0,aM b),(1, .int .i64 i)])
  (fO: ∀a W aT v,Kn 109 a [(8, .int .i64 j),(6, .pointer (some ⟨b6,0,none⟩)),(0,aM b),(1, .int .i64 i)] →aC LG ae w S ow W S aT→GM W S aT b ({R with told:=v}.cells (ya x g).bad) {R with told:=v} (ya x g)→(ya x g).told.length≤300000000001→Q .normal a W):ES.wp Try.prog Q a w:=by
 have Ik:=lY TF x (aS hj)
 have jh:j<cs.length:=(ai.1 hj).1
 generalize dH:(cD 0 x).ab=n at h0 hn
 unfold ES
 refine wp_seq (rg ae hQ ai6 ?_)
 intro w1 e1
 have dB:=gm.aG e1
 have BU:=lo.aG e1
 have gC:=(aC.refl LG ae w S ow).aF gm.wf gm.wf (aC.aG e1 ae ae S ow) (fun _ h=>h.elim)
 have s0:=SX.refl ae w1
 obtain⟨bx,ox,cx,ux,SQ,hSx,L8,hcx,Y6,hix,aa0⟩:=EP (mB.aB (aC.aG e1 ae ae S ow)) hj Ik
 have hbx:=dB.wf.s _ _ hSx
 obtain⟨Td,TI,fL,FV,Qk⟩:=zz Ik L8 Y6
 repeat (first|refine sm k fun a k=> ?_|refine ld k (BU.cell (fun h=>h) KE) fun a k=> ?_)
 rw[SQ]at k
 refine oG (el:=78) (sz:=29) k (by assumption) rfl (by decide) rfl rfl (by kernel_rfl) (by kernel_rfl) (by omega) (by omega) fun a k=> ?_
 rw[Int.toNat_natCast]at k
 refine lN (vs:=ux) k rfl L8 (fun w' gX q v hv=>ez hbx (fun h=>h) (hcx q v hv) w' gX) fun a k=> ?_
 refine lj (nn:=29) k (by decide) rfl (by decide) (by kernel_rfl) (fun zs _=>SX.alloc _ _ _) fun zs sX a k=> ?_
 refine lM (vs:=ux) (cur:=zs.toArray) k (by decide) rfl (by rw[L8];kernel_rfl) rfl rfl rfl (heap_alloc_new w1 _) (by rw[List.size_toArray];omega) Qk (fun h=>absurd rfl h) fun a k=> ?_
 refine ar ?_
 rw[fill_eq sX L8]
 obtain⟨en,eK,BT⟩:=jo (T:=78) (zs:=zs) (us:=ux) dB.wf
 have gA:=dB.aB en eK
 have h9:w.heap.size≤w1.heap.size:=gC.size
 have n7:=BU.aB en (fun e=>by have:=BU.lt;rw[show b6=w1.heap.size from e]at this;omega)
 have sA:=gC.aF gm.wf dB.wf en (fun bb hb=>by rw[show bb=_ from hb];exact h9)
 have Uo: ∀(q:Nat) u c,ux[q]? =some u→x.cells[q]? =some c→bj _ S u c:=fun q u c h1 h2=>(Y6 q u c h1 h2).aB en
 generalize hb9:w1.heap.size=b9 at k BT h9 sA gA n7 Uo⊢
 generalize hW2:(w1.alloc _).setRow b9 _=w2 at BT sA gA n7 Uo⊢
 have k:=k.sub (l:=[(9, .pointer (some ⟨b9,0,none⟩)),(8, .int .i64 j),(6, .pointer (some ⟨b6,0,none⟩)),(0,aM b),(1, .int .i64 i)]) ⟨rfl,rfl,rfl,rfl,rfl,trivial⟩
 clear en eK hW2 Td SQ hSx hcx aa0 hbx Y6 s0 gC BU dB e1
 rw[dH]at fL
 refine wp_seq (MY (fun c a d v w h=>hQ c a d v w h) gA BT fL h0 hn xO k ?_)
 intro a w3 qp v3 k eY ft aaw
 have sy:=BT.aB eY (fun h=>h)
 have mi:=n7.aB eY (fun h=>h)
 have sB:=uH gm.wf gA.wf sA eY (fun _ h=>h.elim)
 have ahv: ∀(q:Nat) u c,ux[q]? =some u→x.cells[q]? =some c→bj w3 S u c:=fun q u c h1 h2=>(Uo q u c h1 h2).aB eY
 have aL:=NL (l:=g.told) h0
 have hN:((n.toNat:Nat):Int)=n:=Int.toNat_of_nonneg h0
 obtain⟨y,hy⟩: ∃y,(k8 g.told n)[n.toNat]? =some y:=⟨_,av aL⟩
 have hyd:(k8 g.told n).getD n.toNat .top=y:=by rw[List.getD_eq_getElem?_getD,hy,Option.getD_some]
 have hhy:Has cX y:=ft.told.all y (aS hy)
 clear Uo BT gA n7 sA eY
 refine wp_seq (jJ (n0:=8) ae mix (fun c a d v w h=>hQ c a d v w h) abH (fun _=>by kernel_rfl) ?_)
 intro w4 e4
 have j8:=ft.aG e4
 have od:=sy.aG e4
 have uD:=mi.aG e4
 have sC:=sB.aF gm.wf ft.wf (aC.aG e4 ae ae S qp) (fun _ h=>h.elim)
 have s0:=SX.refl ae w4
 obtain⟨bt,Ct,uy,wI,yN,Ig,IK,aau,hry⟩:=j8.told.elem hy
 rw[j3]at IK aau
 obtain⟨ara,ard,hy0,hy1,akh⟩:=zz hhy IK hry
 repeat (first|refine sm k fun a k=> ?_|refine ld k (od.cell (fun h=>h) fL) fun a k=> ?_|refine ld k (j8.cell (fun h=>h) rfl) fun a k=> ?_)
 rw[←hN]at k
 rw[wI]at k
 refine FU (el:=78) (sz:=29) k rfl rfl aL fun a k=> ?_
 refine lN (vs:=uy) k rfl IK (fun w' gX q v hv=>ez yN (fun h=>h) (aau q v hv) w' gX) fun a k=> ?_
 refine lj (nn:=29) k (by decide) rfl (by decide) (by kernel_rfl) (fun zs _=>SX.alloc _ _ _) fun zs sX a k=> ?_
 refine lM (vs:=uy) (cur:=zs.toArray) k (by decide) rfl (by rw[IK];kernel_rfl) rfl rfl rfl (heap_alloc_new w4 _) (by rw[List.size_toArray];omega) akh (fun h=>absurd rfl h) fun a k=> ?_
 refine ar ?_
 rw[fill_eq sX IK]
 obtain⟨jq,xN,ly5⟩:=jo (T:=78) (zs:=zs) (us:=uy) j8.wf
 have j7:=j8.aB jq xN
 have Om:w.heap.size≤w4.heap.size:=sC.size
 have CM:=uD.aB jq (fun e=>by have:=uD.lt;rw[show b6=w4.heap.size from e]at this;omega)
 have rG:=od.aB jq (fun e=>by have:=od.lt;rw[show b9=w4.heap.size from e]at this;omega)
 have sD:=sC.aF gm.wf j8.wf jq (fun bb hb=>by rw[show bb=_ from hb];exact Om)
 have Un: ∀(q:Nat) u c,ux[q]? =some u→x.cells[q]? =some c→bj _ S u c:=fun q u c h1 h2=>((ahv q u c h1 h2).aB (aC.aG e4 ae ae S qp)).aB jq
 have Um: ∀(q:Nat) u c,uy[q]? =some u→y.cells[q]? =some c→bj _ S u c:=fun q u c h1 h2=>(hry q u c h1 h2).aB jq
 generalize aww:w4.heap.size=b10 at k ly5 Om sD j7 CM rG Un Um⊢
 generalize hW5:(w4.alloc _).setRow b10 _=w5 at ly5 sD j7 CM rG Un Um⊢
 have k:=k.sub (l:=[(10, .pointer (some ⟨b10,0,none⟩)),(9, .pointer (some ⟨b9,0,none⟩)),(8, .int .i64 j),(6, .pointer (some ⟨b6,0,none⟩)),(0,aM b),(1, .int .i64 i)]) ⟨rfl,rfl,rfl,rfl,rfl,rfl,trivial⟩
 clear jq xN hW5 wI yN Ig aau hry ara s0 sC uD od j8 e4 ahv sB mi sy ft
 refine wp_seq (rg ae hQ abG ?_)
 intro w6 e6
 have ta:=j7.aG e6
 have FT:=rG.aG e6
 have N6:=CM.aG e6
 have ly6:=ly5.aG e6
 have sE:=sD.aF gm.wf j7.wf (aC.aG e6 ae ae S qp) (fun _ h=>h.elim)
 have s0:=SX.refl ae w6
 have aaC: ∀(q:Nat) u c,ux[q]? =some u→x.cells[q]? =some c→bj w6 S u c:=fun q u c h1 h2=>(Un q u c h1 h2).aB (aC.aG e6 ae ae S qp)
 have ahu: ∀(q:Nat) u c,uy[q]? =some u→y.cells[q]? =some c→bj w6 S u c:=fun q u c h1 h2=>(Um q u c h1 h2).aB (aC.aG e6 ae ae S qp)
 repeat refine sm k fun a k=> ?_
 refine lN (vs:=ux.drop 2) k rfl (by rw[List.length_drop,L8]) (fun w' gX q v hv=>by
  rw[List.getElem?_drop]at hv
  rw[Nat.zero_add]
  exact FT.cell (fun h=>h) hv w' gX) fun a k=> ?_
 repeat refine sm k fun a k=> ?_
 refine lN (vs:=uy.drop 2) k rfl (by rw[List.length_drop,IK]) (fun w' gX q v hv=>by
  rw[List.getElem?_drop]at hv
  rw[Nat.zero_add]
  exact ly6.cell (fun h=>h) hv w' gX) fun a k=> ?_
 refine gU (vs:=[.agg (ux.drop 2).toArray, .agg (uy.drop 2).toArray]) k (by decide) rfl (by decide) c31.enter rfl (ss (dd:=[Cs x,Cs y]) (c:=Px (Cs x) (Cs y)) c31 ta.wf rfl (fun q v d hv hd=>by
  match q,hv,hd with
  |0,hv,hd=>injection hv with hv;injection hd with hd;subst hv hd;exact(zz Ik L8 aaC).1
  |1,hv,hd=>injection hv with hv;injection hd with hd;subst hv hd;exact(zz hhy IK ahu).1) (aa.2 ⟨_,_,rfl,TI,aa.2 ⟨_,_,rfl,ard,bE.2 rfl⟩⟩) trivial rfl) ?_
 rintro e w7 ⟨rfl,pb,CN⟩
 refine⟨_,rfl,fun _=>pb.BS _,fun a k=> ?_⟩
 have s1:=pb.BS ae
 repeat refine sm k fun a k=> ?_
 refine ar ?_
 have Mi:=ta.aB pb CN
 have lx7:=FT.aB pb (fun h=>h)
 have lo7:=N6.aB pb (fun h=>h)
 have ly7:=ly6.aB pb (fun h=>h)
 have sF:=sE.aF gm.wf ta.wf pb (fun _ h=>h.elim)
 have aqw: ∀(q:Nat) u c,ux[q]? =some u→x.cells[q]? =some c→bj w7 S u c:=fun q u c h1 h2=>(aaC q u c h1 h2).aB pb
 generalize CX:Px (Cs x) (Cs y)=same at k
 have k:=k.sub (l:=[(11, .bool same),(10, .pointer (some ⟨b10,0,none⟩)),(9, .pointer (some ⟨b9,0,none⟩)),(8, .int .i64 j),(6, .pointer (some ⟨b6,0,none⟩)),(0,aM b),(1, .int .i64 i)]) ⟨rfl,rfl,rfl,rfl,rfl,rfl,rfl,trivial⟩
 clear pb CN s1 s0 sE N6 FT ly6 ta e6 aaC ahu Un Um sD CM rG ly5 j7
 have last: ∀(a:Act) (W:World) (c:Bool),GM W S qp b ({R with told:=v3}.cells c) {R with told:=v3} {g with told:=k8 g.told n,bad:=c}→dP W S qp b9 78 ux→(∀(q:Nat) u c,ux[q]? =some u→x.cells[q]? =some c→bj W S u c)→aC LG ae w S ow W S qp→
   c=(g.bad||((cD 0 y).ab !=0&&((cD 1 y).ab !=(cD 1 x).ab|| !same)))→Kn 109 a [(9, .pointer (some ⟨b9,0,none⟩)),(8, .int .i64 j),(6, .pointer (some ⟨b6,0,none⟩)),(0,aM b),(1, .int .i64 i)] →(Code.region 15 As true).wp Try.prog Q a W:=by
  intro a W c gm lx Y6 st hc k
  refine jJ (n0:=7) ae mix (fun c a d v w h=>hQ c a d v w h) abD (fun _=>by kernel_rfl) ?_
  intro w8 e8
  have yO:=gm.aG e8
  have B2:=lx.aG e8
  have ur:=st.aF ‹GM w S ow b (R.cells g.bad) R g›.wf gm.wf (aC.aG e8 ae ae S qp) (fun _ h=>h.elim)
  have s0:=SX.refl ae w8
  obtain⟨bt,Ct,cur,wI,iS,iC,yN,Ig,zE,Ib,zj⟩:=yO.told.set (i:=n.toNat) (d:=x) (us:=ux) yO.wf aL Ik (by rw[j3];exact L8) (fun q u c h1 h2=>(Y6 q u c h1 h2).aB (aC.aG e8 ae ae S qp))
  rw[j3]at iC zE Ib zj
  repeat (first|refine sm k fun a k=> ?_|refine ld k (yO.cell (fun h=>h) rfl) fun a k=> ?_)
  refine ld k (B2.cell (fun h=>h) fL) fun a k=> ?_
  refine lN (vs:=ux) k rfl L8 (fun w' gX q v hv=>by rw[Nat.zero_add];exact B2.cell (fun h=>h) hv w' gX) fun a k=> ?_
  rw[←hN]at k
  rw[wI]at k
  refine FU (el:=78) (sz:=29) k rfl rfl aL fun a k=> ?_
  refine lM (vs:=ux) (cur:=cur) k (by decide) rfl (by rw[L8];kernel_rfl) rfl rfl rfl iS iC Qk (fun h=>absurd rfl h) fun a k=> ?_
  refine ar ?_
  have Iq:=yO.GV zE Ib zj
  have OI:ya x g={g with told:=(k8 g.told n).set n.toNat x,bad:=c}:=by
   unfold ya;simp only;rw[dH,hyd,CX,hc]
  refine fO _ _ qp v3 (k.sub ⟨rfl,rfl,rfl,rfl,trivial⟩) (ur.dJ ‹GM w S ow b (R.cells g.bad) R g›.wf yO.wf zE (.inl (by decide))) ?_ ?_
  ·rw[OI];exact Iq
  ·rw[OI];show((k8 g.told n).set n.toNat x).length≤_;rw[List.length_set];exact aaw
 refine wp_seq (wp_seq (rg ae hQ abF ?_))
 intro w8 e8
 have yO:=Mi.aG e8
 have B2:=lx7.aG e8
 have ly8:=ly7.aG e8
 have sG:=sF.aF gm.wf Mi.wf (aC.aG e8 ae ae S qp) (fun _ h=>h.elim)
 have aaB: ∀(q:Nat) u c,ux[q]? =some u→x.cells[q]? =some c→bj w8 S u c:=fun q u c h1 h2=>(aqw q u c h1 h2).aB (aC.aG e8 ae ae S qp)
 have s0:=SX.refl ae w8
 repeat (first|refine sm k fun a k=> ?_|refine ld k (ly8.cell (fun h=>h) hy0) fun a k=> ?_)
 have mark: ∀(a:Act),Kn 109 a [(9, .pointer (some ⟨b9,0,none⟩)),(8, .int .i64 j),(6, .pointer (some ⟨b6,0,none⟩)),(0,aM b),(1, .int .i64 i)] →(g.bad||((cD 0 y).ab !=0&&((cD 1 y).ab !=(cD 1 x).ab|| !same)))=true→(Code.region 14 Ey false).wp Try.prog (Exit.then (Code.wp Try.prog (.region 15 As true) Q) Q) a w8:=by
  intro a k hb
  refine rg ae hQ abE ?_
  intro w9 e9
  have Iq:=yO.aG e9
  have SK:=B2.aG e9
  have V3:=sG.aF gm.wf yO.wf (aC.aG e9 ae ae S qp) (fun _ h=>h.elim)
  have s0:=SX.refl ae w9
  repeat refine sm k fun a k=> ?_
  refine iN (cur:={R with told:=v3}.cells g.bad) k (by decide) rfl (by kernel_rfl) rfl rfl rfl Iq.obj.heap (by show 10<11;omega) rfl (fun h=>absurd rfl h) fun a k=> ?_
  obtain⟨h1,h2⟩:=Iq.zD true
  exact ar (last _ _ true h2 (SK.aB h1 (fun h=>h)) (fun q u c z1 z2=>((aaB q u c z1 z2).aB (aC.aG e9 ae ae S qp)).aB h1) (V3.dJ gm.wf Iq.wf h1 (.inl (by decide))) hb.symm (k.sub ⟨rfl,rfl,rfl,rfl,rfl,trivial⟩))
 by_cases hz:(cD 0 y).ab=0
 ·refine cm (c:=false) k rfl rfl (by rw[hz];rfl) fun a k=> ?_
  repeat refine sm k fun a k=> ?_
  refine PB k (by assumption) rfl rfl (by decide) fun a k=> ?_
  refine PB k (by assumption) rfl rfl (by decide) fun a k=> ?_
  repeat refine sm k fun a k=> ?_
  refine pk k rfl rfl fun a k=> ?_
  refine ar (aR k rfl (wp_skip ?_))
  exact last _ _ g.bad yO B2 aaB sG (by rw[hz];cases g.bad<;>rfl) (k.sub ⟨rfl,rfl,rfl,rfl,rfl,trivial⟩)
 have KD:((cD 0 y).ab !=0)=true:=by simpa using hz
 refine cm (c:=true) k rfl rfl (congrArg some KD) fun a k=> ?_
 repeat (first|refine sm k fun a k=> ?_|refine ld k (B2.cell (fun h=>h) FV) fun a k=> ?_|refine ld k (ly8.cell (fun h=>h) hy1) fun a k=> ?_)
 by_cases hq:((cD 1 y).ab !=(cD 1 x).ab)=true
 ·refine cm (c:=true) k rfl rfl (congrArg some hq) fun a k=> ?_
  repeat refine sm k fun a k=> ?_
  refine pk k rfl rfl fun a k=> ?_
  refine pk k rfl rfl fun a k=> ?_
  refine ar (aR k rfl (mark a (k.sub ⟨rfl,rfl,rfl,rfl,rfl,trivial⟩) ?_))
  rw[KD,hq];cases g.bad<;>rfl
 have DP:((cD 1 y).ab !=(cD 1 x).ab)=false:=by simpa using hq
 refine cm (c:=false) k rfl rfl (congrArg some DP) fun a k=> ?_
 repeat refine sm k fun a k=> ?_
 refine tT k (by assumption) rfl (by decide) rfl fun a k=> ?_
 refine pk k rfl rfl fun a k=> ?_
 refine pk k rfl rfl fun a k=> ?_
 refine ar (aR k rfl ?_)
 cases same with
 |true=>
  refine wp_skip (last _ _ g.bad yO B2 aaB sG (by rw[DP];cases g.bad<;>simp) (k.sub ⟨rfl,rfl,rfl,rfl,rfl,trivial⟩))
 |false=>
  refine mark a (k.sub ⟨rfl,rfl,rfl,rfl,rfl,trivial⟩) ?_
  rw[KD];cases g.bad<;>simp
end
def IU(o:D)(lost:Bool)(g:GS):GS:=if g.gW.length<400∧lost=false then{g with gW:=g.gW++(cD 5 o).ak} else g
def mN(cs:List D)(g:GS):GS:=cs.foldl (fun g x=>ya x g) g
def CZ(i:Nat)(o:D)(lost:Bool)(g:GS):GS:=tq i (mN (cD 6 o).ak (IU o lost (if(cD 0 o).eh then uZ i o g else g)))
structure TO(g g':GS):Prop where
 fZ:g'.fZ=g.fZ
 bW:g'.bW=g.bW
 aE:g'.aE=g.aE
 aI:g'.aI=g.aI
 saved:g'.saved.length=g.saved.length
theorem TO.trans{g g' g'':GS}(h:TO g g')(k:TO g' g''):TO g g'':=⟨k.fZ.trans h.fZ,k.bW.trans h.bW,k.aE.trans h.aE,k.aI.trans h.aI,k.saved.trans h.saved⟩
theorem TO.aia{g g':GS}(h:TO g g')(k:IY g):IY g':=by
 obtain⟨h1,h2,h3,h4,h5⟩:=h
 exact⟨by rw[h1];exact k.n5,by rw[h1,h2];exact k.bW,by rw[h1,h3];exact k.aE,by rw[h1,h5];exact k.saved,by rw[h4];exact k.lead,by rw[h3];exact k.vl⟩
theorem SA(i:Nat)(o:D)(g:GS):TO g (uZ i o g):=⟨rfl,rfl,rfl,rfl,by unfold uZ;simp⟩
theorem Sz(x:D)(g:GS):TO g (ya x g):=⟨rfl,rfl,rfl,rfl,rfl⟩
theorem DG: ∀(l:List D) (g:GS),TO g (mN l g)
 | [],g=>⟨rfl,rfl,rfl,rfl,rfl⟩
 |x::r,g=>(Sz x g).trans (DG r _)
theorem HL{cs:List D}{j:Nat}{x:D}(h:cs[j]? =some x)(g:GS):mN (cs.take (j+1)) g=ya x (mN (cs.take j) g):=by
 have hj:cs.take (j+1)=cs.take j++[x] :=by rw[List.take_add_one,h];rfl
 unfold mN
 rw[hj,List.foldl_append]
 rfl
theorem Nv:hY.bytes≤1000:=by decide+kernel
theorem NC{n:Nat}(h:n≤100000000000):lP hY n:=by
 refine⟨by simp only[maxLen];omega,?_⟩
 have:n*hY.bytes≤100000000000*1000:=Nat.mul_le_mul h Nv
 omega
section
variable{w0 w:World}{S0 S:aO}{kK ow:Ow}{b b6 b9 i:Nat}{g g':GS}{R:GR}{Q:Exit→Act→World→Prop}{a:Act}{vo xs:List Value}{j:Nat}{n:Int}{A6:Option Addr}{c6:Nat}{cs:List D}{x:D}
noncomputable def vB:Code:= .seq (.seq (.region 5 P7 false) (.block 0 (.loop (.seq (.seq (.region 6 P6 false) (.cond (.tmp 42) .skip (.exit 0))) (.seq (.block 1 ES) (.region 7 P5 false)))))) (.region 16 Ew false)
def GU(w:World)(S:aO)(ow:Ow)(b:Nat)(g':GS):Exit→Act→World→Prop:=bodyPost Try.prog Try.f14 (oH w S ow b g')
theorem C7(hQ:QP Q)(nM: ∀a w,GU w0 S0 kK b g' .normal a w→Q .normal a w)(gi:Wf w0 S0 kK)(st:aC LG ae w0 S0 kK w S ow)(gm:GM w S ow b (R.cells g.bad) R g)(kV:R.la=R.lb)(lL:R.va=R.vv)(hl:IY g)(hi:i<g.fZ.length)(bM:Ok (ji g i) 0)(lo:dP w S ow b6 75 vo)(KE:vo[6]? =some (.slice A6 cs.length c6))(mB:bj w S (.slice A6 cs.length c6) (.list cs))(TF:Has (.list cX) (.list cs))
  (gS: ∀x∈cs,0≤(cD 0 x).ab∧(cD 0 x).ab≤300000000000) (xO:g.told.length≤300000000001) (hg:g'=tq i (mN cs g)) (k:Kn 109 a [(6, .pointer (some ⟨b6,0,none⟩)),(0,aM b),(1, .int .i64 i)]):vB.wp Try.prog Q a w:=by
 have gz:cs.length≤maxLen:=by
  obtain⟨l',h1,h2,_⟩:=aD.1 TF
  injection h1 with h1;subst h1;exact h2.1
 have H6:maxLen≤9223372036854775807:=by decide
 unfold vB
 refine wp_seq (wp_seq (rg ae hQ ai9 ?_))
 intro w1 e1
 have dB:=gm.aG e1
 have s0:=SX.refl ae w1
 repeat refine sm k fun a k=> ?_
 refine ar ?_
 have gC:=(aC.refl LG ae w S ow).aF gm.wf gm.wf (aC.aG e1 ae ae S ow) (fun _ h=>h.elim)
 refine wp_block (wp_loop_ghost (fun mm a W=> ∃(j:Nat) (v:Value) (dA:Ow),mm=cs.length-j∧j≤cs.length∧Kn 109 a [(8, .int .i64 j),(6, .pointer (some ⟨b6,0,none⟩)),(0,aM b),(1, .int .i64 i)] ∧aC LG ae w S ow W S dA∧
  GM W S dA b ({R with told:=v}.cells (mN (cs.take j) g).bad) {R with told:=v} (mN (cs.take j) g)∧(mN (cs.take j) g).told.length≤300000000001) (cs.length-0)
  ⟨0,R.told,ow,rfl,Nat.zero_le _,k.sub ⟨rfl,rfl,rfl,rfl,trivial⟩,gC,dB,xO⟩ ?_)
 clear k dB gC s0 e1 w1
 rintro mm a W ⟨j,v,dA,rfl,jh,k,gC,dB,htj⟩
 have BU:=lo.aB gC (fun h=>h)
 refine wp_seq (wp_seq (rg ae hQ ai8 ?_))
 intro w2 e2
 have gA:=dB.aG e2
 have n7:=BU.aG e2
 have en:=gC.aF gm.wf dB.wf (aC.aG e2 ae ae S dA) (fun _ h=>h.elim)
 have s0:=SX.refl ae w2
 repeat (first|refine sm k fun a k=> ?_|refine ld k (n7.cell (fun h=>h) KE) fun a k=> ?_)
 refine cm (c:=decide ((j:Int)<(cs.length:Int))) k rfl rfl rfl fun a k=> ?_
 refine ar (aR k rfl ?_)
 have k:=k.sub (l:=[(8, .int .i64 j),(6, .pointer (some ⟨b6,0,none⟩)),(0,aM b),(1, .int .i64 i)]) ⟨rfl,rfl,rfl,rfl,trivial⟩
 by_cases aL:(j:Int)<(cs.length:Int)
 ·rw[if_pos (by simpa using aL)]
  refine wp_skip ?_
  obtain⟨x,hx⟩: ∃x,cs[j]? =some x:=⟨_,av (by omega)⟩
  obtain⟨fL,FV⟩:=gS x (aS hx)
  have ht:=HL hx g
  refine wp_seq (wp_block (take_one (fun c a d v w h=>hQ c a d v w h) gA n7 KE (mB.aB en) TF hx fL FV htj k ?_))
  intro a w3 qp v3 k eY ft aaw
  refine rg ae hQ ai7 ?_
  intro w4 e4
  have s0:=SX.refl ae w4
  repeat refine sm k fun a k=> ?_
  refine lH (s:=((j+1:Nat):Int)) k (by assumption) rfl (by decide) rfl rfl (wrap64 (by omega) (by omega)) fun a k=> ?_
  repeat refine sm k fun a k=> ?_
  refine ar ⟨cs.length-(j+1),by omega,j+1,v3,qp,rfl,by omega,k.sub ⟨rfl,rfl,rfl,rfl,trivial⟩,(uH gm.wf gA.wf en eY (fun _ h=>h.elim)).aF gm.wf ft.wf (aC.aG e4 ae ae S qp) (fun _ h=>h.elim),?_,?_⟩
  ·rw[ht];exact ft.aG e4
  ·rw[ht];exact aaw
 ·rw[if_neg (by simpa using aL)]
  refine wp_exit ?_
  have DR:j=cs.length:=by omega
  subst DR
  rw[List.take_length]at gA
  show(Code.region 16 Ew false).wp Try.prog Q a w2
  refine rg ae hQ abC ?_
  intro w3 e3
  have ft:=gA.aG e3
  have eY:=(uH gi gm.wf st en (fun _ h=>h.elim)).aF gi gA.wf (aC.aG e3 ae ae S dA) (fun _ h=>h.elim)
  have s0:=SX.refl ae w3
  repeat refine sm k fun a k=> ?_
  have Pr:=DG cs g
  have Wj:th w3 S dA b (mN cs g):=⟨_,ft,kV,lL⟩
  refine gU (vs:=[aM b, .int .i64 i]) k (by decide) rfl (by decide) VG rfl (Ke Wj (Pr.aia hl) (by rw[Pr.fZ];exact hi) (by unfold ji;rw[Pr.fZ];exact bM)) ?_
  rintro e w4 ⟨S',aT,rfl,jr,Ta⟩
  refine⟨_,rfl,fun h=>absurd rfl h,fun a k=> ?_⟩
  refine ar (nM _ _ (mn aiq k ⟨S',aT,rfl,uH gi ft.wf eY jr (fun _ h=>h.elim),by rw[hg];exact Ta⟩).2)
noncomputable def LB:Code:= .seq (.seq (.region 3 P9 false) (.cond (.tmp 27) (.region 4 P8 true) .skip)) vB
theorem GQ{A5:Option Addr}{c5:Nat}{ms:List D}{o:D}{lost:Bool}(hQ:QP Q)(nM: ∀a w,GU w0 S0 kK b g' .normal a w→Q .normal a w)(gi:Wf w0 S0 kK)(st:aC LG ae w0 S0 kK w S ow)(gr:th w S ow b g)(hl:IY g)(hi:i<g.fZ.length)(bM:Ok (ji g i) 0)(lo:dP w S ow b6 75 vo)(KE:vo[6]? =some (.slice A6 cs.length c6))(mB:bj w S (.slice A6 cs.length c6) (.list cs))(TF:Has (.list cX) (.list cs))
  (hvm:vo[5]? =some (.slice A5 ms.length c5)) (Tv:bj w S (.slice A5 ms.length c5) (.list ms)) (hhm:Has (.list hY) (.list ms)) (H7:ms.length≤5000000000) (ho5:(cD 5 o).ak=ms)
  (gS: ∀x∈cs,0≤(cD 0 x).ab∧(cD 0 x).ab≤300000000000) (xO:g.told.length≤300000000001) (hg:g'=tq i (mN cs (IU o lost g))) (k:Kn 109 a [(3, .bool lost),(6, .pointer (some ⟨b6,0,none⟩)),(0,aM b),(1, .int .i64 i)]):LB.wp Try.prog Q a w:=by
 obtain⟨R,gm,kV,lL⟩:=gr
 unfold LB
 refine wp_seq (wp_seq (rg ae hQ ajb ?_))
 intro w1 e1
 have dB:=gm.aG e1
 have BU:=lo.aG e1
 have gC:=st.aF gi gm.wf (aC.aG e1 ae ae S ow) (fun _ h=>h.elim)
 have s0:=SX.refl ae w1
 have go: ∀(a:Act),IU o lost g=g→Kn 109 a [(6, .pointer (some ⟨b6,0,none⟩)),(0,aM b),(1, .int .i64 i)] →vB.wp Try.prog Q a w1:=by
  intro a he k
  rw[he]at hg
  exact C7 hQ nM gi gC dB kV lL hl hi bM BU KE (mB.aB (aC.aG e1 ae ae S ow)) TF gS xO hg k
 obtain⟨A,cap,hv⟩:=dB.gW.slice
 repeat (first|refine sm k fun a k=> ?_|refine ld k (dB.cell (fun h=>h) rfl) fun a k=> ?_)
 rw[hv]at k
 repeat refine sm k fun a k=> ?_
 by_cases hc:decide ((g.gW.length:Int)<400)=true
 ·refine cm (c:=true) k rfl rfl (congrArg some hc) fun a k=> ?_
  repeat refine sm k fun a k=> ?_
  refine tT k (by assumption) rfl (by decide) rfl fun a k=> ?_
  refine pk k rfl rfl fun a k=> ?_
  refine ar (aR k rfl ?_)
  cases lost with
  |true=>
   refine wp_skip (go a (by unfold IU;rw[if_neg (by simp)]) (k.sub ⟨rfl,rfl,rfl,trivial⟩))
  |false=>
   have k:=k.sub (l:=[(6, .pointer (some ⟨b6,0,none⟩)),(0,aM b),(1, .int .i64 i)]) ⟨rfl,rfl,rfl,trivial⟩
   refine jJ (n0:=7) (fun bb=>ow bb=some 11) mix (fun c a d v w h=>hQ c a d v w h) aja (fun _=>by kernel_rfl) ?_
   intro w2 e2
   have gA:=dB.aG e2
   have n7:=BU.aG e2
   have en:=gC.aF gi dB.wf (aC.aG e2 ae ae S ow) (fun _ h=>h.elim)
   have s0:=SX.refl (fun bb=>ow bb=some 11) w2
   have zh: ¬ow b=some 11:=by rw[gA.obj.ow];decide
   have SN: ¬ow b6=some 11:=by rw[n7.ow];intro e;cases e
   repeat (first|refine sm k fun a k=> ?_|refine ld k (n7.cell SN hvm) fun a k=> ?_|refine ld k (gA.cell zh rfl) fun a k=> ?_)
   refine uG k (by decide) rfl (by decide) fun ty pos af=> ?_
   obtain⟨A',c',news,DN,hA,yK,yL,B5⟩:=((Tv.aB (aC.aG e1 ae ae S ow)).aB (aC.aG e2 ae ae S ow)).source (fun d hd=>(bp (lY hhm d hd)).1)
   injection DN with hxA _ V9
   subst hxA V9
   obtain⟨v',w',cM,aT,eY,gw,TC⟩:=gA.gW.rJ (P:=Try.prog) (tt:=56) (ys:=ms) (by kernel_rfl) rfl gA.wf ty A5 c5 news hA yK yL (lY hhm) B5 (NC (by have:=of_decide_eq_true hc;omega))
   have s1:SX (fun bb=>ow bb=some 11) w2 w':=SX.fU (fun _ h=>h) eY
   refine⟨v',w',iX (k.op rfl) (k.op rfl) cM,fun _=>s1,fun a k=> ?_⟩
   have ft:=gA.Lp eY gw TC
   have mi:=n7.aB eY (fun h=>h)
   have Iv:=en.dJ gi gA.wf eY (.inl (by decide))
   obtain⟨Av,cv,ng⟩:=TC.slice
   repeat refine sm k fun a k=> ?_
   refine iN (cur:=R.cells g.bad) k (by decide) rfl (by kernel_rfl) rfl rfl (by rw[ng];rfl) ft.obj.heap (by show 4<11;omega) (by rw[ng];rfl) (fun h=>absurd rfl h) fun a k=> ?_
   refine ar ?_
   obtain⟨jr,m7,Zd⟩:=ft.obj.set gw (us:=(R.cells g.bad).set 4 v')
   have j8:=ft.setObj jr m7 Zd
   have uD:=mi.aB jr (fun h=>h)
   have apH:=Iv.dJ gi gw jr (.inl (by decide))
   have he:IU o false g={g with gW:=g.gW++ms}:=by unfold IU;rw[if_pos ⟨by have:=of_decide_eq_true hc;omega,rfl⟩,ho5]
   rw[he]at hg
   exact C7 (R:={R with gW:=v'}) (g:={g with gW:=g.gW++ms}) hQ nM gi apH j8 kV lL ⟨hl.n5,hl.bW,hl.aE,hl.saved,hl.lead,hl.vl⟩ hi bM uD KE ((((mB.aB (aC.aG e1 ae ae S ow)).aB (aC.aG e2 ae ae S ow)).aB eY).aB jr) TF gS xO hg (k.sub ⟨rfl,rfl,rfl,trivial⟩)
 ·refine cm (c:=false) k rfl rfl (congrArg some (Bool.eq_false_iff.2 hc)) fun a k=> ?_
  repeat refine sm k fun a k=> ?_
  refine pk k rfl rfl fun a k=> ?_
  refine ar (aR k rfl (wp_skip ?_))
  exact go a (by unfold IU;rw[if_neg (by rintro⟨h1,_⟩;exact hc (decide_eq_true (by omega)))]) (k.sub ⟨rfl,rfl,rfl,trivial⟩)
end
theorem JM{w:World}{S:aO}{ow:Ow}{b i:Nat}{g:GS}{vo:Value}{o:D}{lost:Bool}(h:th w S ow b g)(hn:Cb ow)(hl:IY g)(hi:i<g.fZ.length)(bM:Ok (ji g i) 0)(ho:bj w S vo o)(OA:Has IE o)(hsn:cD 4 o= .eW)(fo:(cD 7 (g.saved.getD i .top)).ak.length+(cD 3 o).ak.length≤300000000000)(H7:(cD 5 o).ak.length≤5000000000)
  (gS: ∀x∈(cD 6 o).ak,0≤(cD 0 x).ab∧(cD 0 x).ab≤300000000000) (xO:g.told.length≤300000000001):
  Calls Try.prog 14 [aM b, .int .i64 i,vo, .bool lost].toArray w (oH w S ow b (CZ i o lost g)):=by
 obtain⟨co,On,rfl,rfl,Gl,MF,n9,D3,fX⟩:=UF ho OA rfl
 obtain⟨c0,c1,c2,c3,c4,c5,c6,c7,rfl⟩: ∃c0 c1 c2 c3 c4 c5 c6 c7,co=[c0,c1,c2,c3,c4,c5,c6,c7] :=by
  have uY:co.length=8:=Gl
  match co,uY with
  | [c0,c1,c2,c3,c4,c5,c6,c7],_=>exact⟨c0,c1,c2,c3,c4,c5,c6,c7,rfl⟩
 obtain⟨d0,d1,d2,d3,d4,d5,d6,d7,rfl⟩: ∃c0 c1 c2 c3 c4 c5 c6 c7,On=[c0,c1,c2,c3,c4,c5,c6,c7] :=by
  have Gz:On.length=8:=MF
  match On,Gz with
  | [c0,c1,c2,c3,c4,c5,c6,c7],_=>exact⟨c0,c1,c2,c3,c4,c5,c6,c7,rfl⟩
 obtain⟨x0,fL,Wi⟩:=bX D3 0 .bool (by rw[Ty.cC];rfl)
 injection fL with fL
 subst fL
 obtain⟨sv,rfl⟩:=Wi
 obtain rfl:=(n9 0 _ _ rfl rfl).eH
 obtain⟨x5,SO,hh5⟩:=bX D3 5 (.list hY) (by rw[Ty.cC];rfl)
 injection SO with SO
 subst SO
 obtain⟨x6,SN,hh6⟩:=bX D3 6 (.list cX) (by rw[Ty.cC];rfl)
 injection SN with SN
 subst SN
 have Pg:d5.ak.length≤5000000000:=H7
 have wW: ∀x∈d6.ak,0≤(cD 0 x).ab∧(cD 0 x).ab≤300000000000:=gS
 obtain⟨hd5,A5,q5,hc5⟩:=vn (n9 5 _ _ rfl rfl) hh5
 obtain⟨hd6,A6,q6,hc6⟩:=vn (n9 6 _ _ rfl rfl) hh6
 subst hc5 hc6
 have Wc:=n9 5 _ _ rfl rfl
 have Tw:=n9 6 _ _ rfl rfl
 generalize hms:d5.ak=ms at hd5 Wc n9 fX Pg ho
 generalize awu:d6.ak=cs at hd6 Tw n9 fX wW ho
 subst hd5 hd6
 have jG:Wf w S ow:=by obtain⟨R,gm,_⟩:=h;exact gm.wf
 refine jZ Try.func14 Q0 ac2 aqa (by show 4≤109;omega) ?_
 intro a k
 have hQ:=gp (P:=Try.prog) (fn:=Try.f14) (R:=oH w S ow b (CZ i (D.agg [.bool sv,d1,d2,d3,d4, .list ms, .list cs,d7]) lost g))
 refine wp_seq (rg ae hQ aje ?_)
 intro w1 e1
 refine qR (us:=[.bool sv,c1,c2,c3,c4, .slice A5 ms.length q5, .slice A6 cs.length q6,c7]) k (by decide) rfl (by decide) rfl rfl (fun h=>absurd rfl h) fun a k=> ?_
 refine ar ?_
 obtain⟨R0,gm,kV,lL⟩:=h
 have dB:=gm.aG e1
 have sA:aC LG ae w S ow w1 S ow:=aC.aG e1 LG ae S ow
 obtain⟨en,eK⟩:=aC.alloc dB.wf (.cells [.bool sv,c1,c2,c3,c4, .slice A5 ms.length q5, .slice A6 cs.length q6,c7].toArray 75)
 have n7:=dP.new dB.wf 75 [.bool sv,c1,c2,c3,c4, .slice A5 ms.length q5, .slice A6 cs.length q6,c7]
 have gA:=dB.aB en eK
 have sB:=sA.aF gm.wf dB.wf en (fun _ h=>h.elim)
 have hb5:w1.heap.size=w.heap.size:=by rw[e1.heap]
 generalize hb6:w1.heap.size=b6 at k n7
 generalize w1.alloc _=w2 at n7 gA sB en eK⊢
 clear en sA dB e1
 have k:=k.sub (l:=[(3, .bool lost),(6, .pointer (some ⟨b6,0,none⟩)),(0,aM b),(1, .int .i64 i)]) ⟨rfl,rfl,rfl,rfl,trivial⟩
 refine wp_seq (wp_seq (rg ae hQ ajd ?_))
 intro w3 e3
 have ft:=gA.aG e3
 have mi:=n7.aG e3
 have sC:=sB.aF gm.wf gA.wf (aC.aG e3 ae ae S ow) (fun _ h=>h.elim)
 have s0:=SX.refl ae w3
 repeat (first|refine sm k fun a k=> ?_|refine ld k (mi.cell (fun h=>h) rfl) fun a k=> ?_)
 refine ar (aR k rfl ?_)
 have k:=k.sub (l:=[(3, .bool lost),(6, .pointer (some ⟨b6,0,none⟩)),(0,aM b),(1, .int .i64 i)]) ⟨rfl,rfl,rfl,rfl,trivial⟩
 cases sv with
 |false=>
  refine wp_skip (GQ (cs:=cs) (ms:=ms) (o:=D.agg [.bool false,d1,d2,d3,d4, .list ms, .list cs,d7]) (lost:=lost) (g:=g) (b6:=b6) (i:=i) (vo:=[.bool false,c1,c2,c3,c4, .slice A5 ms.length q5, .slice A6 cs.length q6,c7]) hQ (fun a w h=>h) gm.wf sC ⟨R0,ft,kV,lL⟩ hl hi bM mi rfl (Tw.aB sC) hh6 rfl (Wc.aB sC) hh5 Pg rfl wW xO rfl (k.sub ⟨rfl,rfl,rfl,rfl,trivial⟩))
 |true=>
  refine rg ae hQ ajc ?_
  intro w4 e4
  have j8:=ft.aG e4
  have uD:=mi.aG e4
  have sD:=sC.aF gm.wf ft.wf (aC.aG e4 ae ae S ow) (fun _ h=>h.elim)
  have s0:=SX.refl ae w4
  repeat refine sm k fun a k=> ?_
  refine lN (vs:=[.bool true,c1,c2,c3,c4, .slice A5 ms.length q5, .slice A6 cs.length q6,c7]) k rfl rfl (fun w' gX q v hv=>by rw[Nat.zero_add];exact uD.cell (fun h=>h) hv w' gX) fun a k=> ?_
  refine gU (vs:=[aM b, .int .i64 i, .agg [.bool true,c1,c2,c3,c4, .slice A5 ms.length q5, .slice A6 cs.length q6,c7].toArray]) k (by decide) rfl (by decide) VF rfl (JY ⟨R0,j8,kV,lL⟩ hn (by rw[hl.saved];exact hi) (ho.aB sD) OA hsn fo) ?_
  rintro e w5 ⟨S5,ow5,rfl,jq,Og⟩
  refine⟨_,rfl,fun h=>absurd rfl h,fun a k=> ?_⟩
  refine ar ?_
  have sE:=uH gm.wf j8.wf sD jq (fun _ h=>h.elim)
  have CM:=uD.aB jq (fun h=>h)
  have Pr:=SA i (D.agg [.bool true,d1,d2,d3,d4, .list ms, .list cs,d7]) g
  exact GQ (cs:=cs) (ms:=ms) (o:=D.agg [.bool true,d1,d2,d3,d4, .list ms, .list cs,d7]) (lost:=lost) (g:=uZ i (D.agg [.bool true,d1,d2,d3,d4, .list ms, .list cs,d7]) g) (b6:=b6) (i:=i) (vo:=[.bool true,c1,c2,c3,c4, .slice A5 ms.length q5, .slice A6 cs.length q6,c7]) hQ (fun a w h=>h) gm.wf sE Og (Pr.aia hl) hi bM CM rfl (Tw.aB sE) hh6 rfl (Wc.aB sE) hh5 Pg rfl wW xO rfl (k.sub ⟨rfl,rfl,rfl,rfl,trivial⟩)
def qA:Ob:=⟨[true],[gn],[gn],false⟩
section
variable{w w':World}{S S':aO}{ow aT:Ow}{l b:Nat}{s:RS}
theorem RX{i t:Int}(hw:Wf w S ow)(hi:kr .i64 i)(ht:kr .i64 t)(h:okB i t=true∧(i=0↔t=0))(om:1000≤l):
  Calls Try.prog 22 #[.int .i64 i, .int .i64 t] w fun e w'=> ∃b S' aT,e= .returned (.pointer (some ⟨b,0,none⟩))∧aC (bJ l) ae w S ow w' S' aT∧Wf w' S' aT∧hZ w' S' aT l qA b [[.int .i64 i, .int .i64 t, .list []]] ∧w.heap.size≤b:=by
 have qi:aK 22 [.int .i64 i, .int .i64 t] = .cW [.cW [],su i t []] :=by show iU i t=_;rw[iU,if_pos h]
 refine(cnw.Ao _ rfl rfl w S (fun _=>0) (fun _=> .nilIface) [.int .i64 i, .int .i64 t] [.int .i64 i, .int .i64 t] [] ⟨hw.s,⟨.int _ _, .int _ _,trivial⟩,rfl,fun o rc cs ho=>by simp at ho,fun i j hi=>by simp at hi,fun j k b hj=>by simp[Ob.ia]at hj,fun j o b hj=>by simp[Ob.ia]at hj,fun aL=>by simp at aL⟩ (aa.2 ⟨_,_,rfl,⟨i,rfl,hi⟩,aa.2 ⟨_,_,rfl,⟨t,rfl,ht⟩,bE.2 rfl⟩⟩) ?_).mono ?_
 ·refine⟨trivial,?_⟩
  show((aK 22 [.int .i64 i, .int .i64 t]).ak.getD 0 .top).dT=false
  rw[qi];rfl
 rintro e w1 ⟨v,S',τ',βn,rfl,ho⟩
 obtain⟨d0,outs,hd,lQ,cw,kY⟩:=ho.res
 have fM:Ob.new ⟨[false,false],[],[gn],true⟩=true:=rfl
 rw[fM]at cw
 simp only[if_true]at cw
 obtain⟨hv,Zj⟩:=cw
 have gZ:aK 22 [.int .i64 i, .int .i64 t] = .cW (d0::outs.map .agg):=hd
 rw[qi]at gZ
 injection gZ with gZ
 injection gZ with _ gZ
 have aaF:outs.length=1:=lQ
 obtain⟨o1,rfl⟩: ∃o1,outs=[o1] :=by
  match outs,aaF with
  | [o1],_=>exact⟨o1,rfl⟩
 have ho1:o1=[.int .i64 i, .int .i64 t, .list []] :=by
  injection gZ with gZ _
  injection gZ with gZ
  exact gZ.symm
 subst ho1
 have dw:=kY 0 gn _ rfl rfl
 have CQ:iL ⟨[false,false],[],[gn],true⟩ (fun _=>0) βn 0=βn:=rfl
 rw[CQ]at dw
 have qe: ∀k,¬tI (⟨[false,false],[],[gn],true⟩:Ob) (fun _=>0) (fun _=>Value.nilIface) k:=by
  rintro k (⟨o,ho,_⟩|⟨j,hj,_⟩)
  ·simp at ho
  ·simp[Ob.ia]at hj
 have hmn: ∀k,tI qA (fun _=>βn) τ' k→w.heap.size≤k:=by
  rintro k (⟨o,ho,rfl⟩|⟨j,hj,hk⟩)
  ·exact Zj
  ·rcases ho.dM j k (by unfold jk;exact hj) hk with h1|h1
   ·exact h1
   ·exact absurd h1 (qe k)
 have fo:=ho.below.size
 classical
 refine⟨βn,S',fun k=>if tI qA (fun _=>βn) τ' k then some l else ow k,by rw[hv],⟨fo,ho.below.os,ho.below.tape,ho.below.output,fun k l' hk hl _=>ho.below.block k hk (qe k),fun k hk _ _=>ho.below.block k hk (qe k),ho.gV,ho.keep,?_,?_,?_,?_⟩,⟨ho.lt,?_,?_⟩,⟨fun _=>βn,τ',rfl,⟨ho.lt,⟨rfl,trivial⟩,rfl,?_,?_,?_,?_,?_⟩,fun k hk=>if_pos hk⟩,Zj⟩
 ·intro k l' hk _
  show(if tI qA (fun _=>βn) τ' k then some l else ow k)=some l'
  rw[if_neg (fun hm=>by have:=hmn k hm;have:=hw.o k l' hk;omega)];exact hk
 ·intro k o hs
  rcases ho.new k o hs with h1|h1|h1
  ·exact .inl h1
  ·exact .inr (.inl h1)
  ·exact absurd h1 (qe k)
 ·intro k hk hn
  show(if tI qA (fun _=>βn) τ' k then some l else ow k)=none
  rw[if_neg (fun hm=>by have:=hmn k hm;omega)];exact hn
 ·intro k l' hk
  replace hk:(if tI qA (fun _=>βn) τ' k then some l else ow k)=some l':=hk
  split at hk
  ·injection hk with hk;exact .inr hk.symm
  ·exact .inl hk
 ·intro k l' hk
  replace hk:(if tI qA (fun _=>βn) τ' k then some l else ow k)=some l':=hk
  split at hk
  ·rename_i hm
   obtain⟨fW,T,hh,h3,h4,h5,_⟩:=dw
   rcases hm with⟨o,ho,rfl⟩|⟨j,hj,B7⟩
   ·exact(Array.getElem?_eq_some_iff.1 hh).1
   ·have hj0:j=0:=by
     have:qA.ia=[0] :=rfl
     rw[this]at hj;simpa using hj
    subst hj0
    have hc:=h5 2 _ (fW[2]'(by rw[h3];decide)) (.list []) rfl (av _) rfl
    obtain⟨_,hO⟩:=hc
    obtain⟨xs,l2,_,a2,_⟩:=hO.own
    exact(a2.lt k B7).2
  ·exact Nat.lt_of_lt_of_le (hw.o k l' hk) fo
 ·intro k o l' hs hk
  replace hk:(if tI qA (fun _=>βn) τ' k then some l else ow k)=some l':=hk
  split at hk
  ·injection hk with hk;omega
  ·rcases ho.new k o hs with h1|h1|h1
   ·exact hw.d k o l' h1 hk
   ·have:=hw.o k l' hk;omega
   ·exact absurd h1 (qe k)
 ·intro o rc cs h1 h2
  match o,h1,h2 with
  |0,h1,h2=>
   injection h1 with h1;injection h2 with h2
   subst h1 h2
   exact dw
 ·intro i j hi hj _
  have FP:i<1:=hi
  have yM:j<1:=hj
  omega
 ·intro j k b' hj hk h1 h3
  exact ho.own j k b' hj hk h1 h3
 ·intro j o b' hj lQ h1
  exact ho.cz j 0 b' hj (by decide) h1
 ·intro aL
  exact absurd aL (by decide)
theorem Kd{cells:List D}(h:hZ w S ow l qA b [cells])(S2:aO)(hS: ∀b o,S b o→S2 b o)(hl: ∀b o,ow b=some l→S2 b o):bj w S2 (.pointer (some ⟨b,0,none⟩)) (.ptr cells)∧Has IJ (.ptr cells):=by
 obtain⟨β,τ,hb,gY,uw⟩:=h
 obtain⟨v1,T1,b1,b2,b3,b4,b5⟩:=gY.ba 0 gn cells rfl rfl
 have hm1:ow (β 0)=some l:=uw _ (.inl ⟨0,by decide,rfl⟩)
 refine⟨?_,fA.2 ⟨_,rfl,(r9 (gY.ba 0 gn cells rfl rfl)).2⟩⟩
 rw[←hb]
 refine .ptr (β 0) v1 cells (by rw[b2,b3]) (fun i _=>hl _ i hm1) (fun i v hv=>gK b1 hv) ?_
 intro i v d hv hd
 have hi:i<gn.length:=by rw[←b2];exact(ai.1 hv).1
 have hr:gn[i]? =some (gn[i]'hi):=av _
 refine uk (b4 i _ v d hr hv hd) hS ?_
 intro j T hj b' fu o'
 exact hl b' o' (uw b' (.inr ⟨j,List.mem_flatMap.2 ⟨gn,by simp[qA],List.mem_filterMap.2 ⟨_,aS hr,by rw[hj];rfl⟩⟩,fu⟩))
theorem Vq{bl:Nat}{fW:List Value}{T:TypeId}(h:hZ w S ow l qA bl [cL s])(hw:Wf w S ow)(lx:dP w S ow b T fW)(om:1000≤l)(tE:fW.length=51)(Ii:fW[13]? =some (.pointer (some ⟨bl,0,none⟩)))
  (hd: ∀(i:Nat) r v d,kg[i]? =some r→fW[i]? =some v→(cR s)[i]? =some d→(r.2=none→bj w S v d∧Has r.1 d)∧(∀jT,r.2=some jT→v= .slice none 0 0∧d= .list [])):
  ∃aT,(∀k,aT k=if k=b then some l else ow k)∧Wf w S aT∧hZ w S aT l (bP 0) b [cR s,cL s] :=by
 obtain⟨β,τ,hb,gY,uw⟩:=h
 obtain⟨v1,T1,b1,b2,b3,b4,b5⟩:=gY.ba 0 gn (cL s) rfl rfl
 rw[hb]at b1 b5
 have hmb:ow bl=some l:=by rw[←hb];exact uw _ (.inl ⟨0,by decide,rfl⟩)
 have dH:b≠bl:=fun e=>by rw[e]at lx;rw[lx.ow]at hmb;cases hmb
 have awp:(bP 0).ia=[1,2,3,4,5,6,0] :=rfl
 have Wh:qA.ia=[0] :=rfl
 let τ':Nat→Value:=fun j=>if j=0 then τ 0 else .slice none 0 0
 let CJ:Nat→Nat:=fun o=>if o=0 then b else bl
 have zW: ∀j b',(τ' j).ownBlock=some b'→j=0∧(τ 0).ownBlock=some b':=by
  intro j b' hh
  by_cases hj:j=0
  ·subst hj;exact⟨rfl,hh⟩
  ·have:τ' j= .slice none 0 0:=if_neg hj
   rw[this]at hh;cases hh
 have ahG: ∀b',(τ 0).ownBlock=some b'→ow b'=some l:=fun b' hh=>uw b' (.inr ⟨0,by rw[Wh];simp,hh⟩)
 have Pf: ∀k,tI (bP 0) CJ τ' k→k=b∨ow k=some l:=by
  rintro k (⟨o,ho,rfl⟩|⟨j,hj,hk⟩)
  ·by_cases h0:o=0
   ·exact .inl (if_pos h0)
   ·exact .inr (by rw[show CJ o=bl from if_neg h0];exact hmb)
  ·exact .inr (ahG k (zW j k hk).2)
 refine⟨fun k=>if k=b then some l else ow k,fun _=>rfl,⟨hw.s,?_,?_⟩,⟨CJ,τ',rfl,⟨hw.s,⟨rfl,trivial⟩,rfl,?_,?_,?_,?_,?_⟩,?_⟩⟩
 ·intro k l' hk
  replace hk:(if k=b then some l else ow k)=some l':=hk
  split at hk
  ·rename_i e;rw[e];exact lx.lt
  ·exact hw.o k l' hk
 ·intro k o l' hs hk
  replace hk:(if k=b then some l else ow k)=some l':=hk
  split at hk
  ·injection hk with hk;omega
  ·exact hw.d k o l' hs hk
 ·intro o rc cs ho hc
  match o,ho,hc with
  |0,ho,hc=>
   injection ho with ho;injection hc with hc
   subst ho hc
   refine⟨fW,T,lx.heap,tE,rfl,?_,lx.s⟩
   intro i r v d hr hv wP
   obtain⟨h1,h2⟩:=hd i r v d hr hv wP
   obtain⟨t,ro⟩:=r
   cases ro with
   |none=>exact h1 rfl
   |some jT=>
    obtain⟨j,TT⟩:=jT
    obtain⟨rfl,rfl⟩:=h2 _ rfl
    have hj:j≠0:=by
     intro e
     subst e
     have eI:(kg.all fun r=>match r.2 with|some (j,_)=>j !=0&&decide (0<r.1.cells.length)|none=>true)=true:=by decide+kernel
     have:=aV.1 eI _ (aS hr)
     simp at this
    have fo:0<t.cells.length:=by
     have eI:(kg.all fun r=>match r.2 with|some (j,_)=>j !=0&&decide (0<r.1.cells.length)|none=>true)=true:=by decide+kernel
     have:=aV.1 eI _ (aS hr)
     simp only[aw,aN]at this
     exact this.2
    have CO:τ' j= .slice none 0 0:=if_neg hj
    refine⟨CO.symm,?_⟩
    rw[CO]
    exact⟨⟨[],rfl,db t,fun _ h=>by cases h⟩,fo,[],[],rfl,World.ownsRow_nil _ _ _ _,fun b hb=>(by cases hb),fun i d j v c h=>(by simp at h)⟩
  |1,ho,hc=>
   injection ho with ho;injection hc with hc
   subst ho hc
   refine⟨v1,T1,b1,b2,b3,?_,b5⟩
   intro i r v d hr hv wP
   have h1:=b4 i r v d hr hv wP
   obtain⟨t,ro⟩:=r
   cases ro with
   |none=>exact h1
   |some jT=>
    obtain⟨j,TT⟩:=jT
    have hj:j=0:=by
     have eI:(gn.all fun r=>match r.2 with|some (j,_)=>j==0|none=>true)=true:=by decide
     have:=aV.1 eI _ (aS hr)
     simpa using this
    subst hj
    exact h1
 ·intro i j hi hj he
  have FP:i<2:=hi
  have yM:j<2:=hj
  have key: ∀o,o<2→(o=0∧CJ o=b)∨(o=1∧CJ o=bl):=by
   intro o ho
   by_cases h0:o=0
   ·exact .inl ⟨h0,if_pos h0⟩
   ·exact .inr ⟨by omega,if_neg h0⟩
  rcases key i FP with⟨h1,h2⟩|⟨h1,h2⟩<;>rcases key j yM with⟨h3,h4⟩|⟨h3,h4⟩
  ·omega
  ·rw[h2,h4]at he;exact absurd he dH
  ·rw[h2,h4]at he;exact absurd he.symm dH
  ·omega
 ·intro j k b' hj hk h1 h2
  rw[(zW j b' h1).1,(zW k b' h2).1]
 ·intro j o b' hj ho h1
  have h2:=(zW j b' h1).2
  have h3:=ahG b' h2
  by_cases h0:o=0
  ·rw[show CJ o=b from if_pos h0]
   intro e
   rw[e,lx.ow]at h3;cases h3
  ·rw[show CJ o=bl from if_neg h0,←hb]
   exact gY.cz 0 0 b' (by rw[Wh];simp) (by decide) h2
 ·intro _ o c rc ho hc
  match o,ho with
  |0,ho=>
   injection ho with ho
   subst ho
   have are:c=13:=by
    have gz:=(ai.1 hc).1
    have UB:c<51:=gz
    have eI:((List.range 51).all fun j=>j==13|| !(kg[j]? ==some KC))=true:=by decide+kernel
    have:=aV.1 eI c (List.mem_range.2 UB)
    rw[hc]at this
    simp only[beq_self_eq_true,Bool.not_true,Bool.or_false,beq_iff_eq]at this
    exact this
   subst are
   exact gK lx.heap Ii
  |1,ho=>
   injection ho with ho
   subst ho
   have eI:(gn.all fun r=> !(r==KC))=true:=by decide
   have:=aV.1 eI _ (aS hc)
   simp at this
 ·intro k hk
  show(if k=b then some l else ow k)=some l
  rcases Pf k hk with h1|h1
  ·rw[if_pos h1]
  ·split
   ·rfl
   ·exact h1
end
end Go.Proofs.Ytjhmkaninmgilaa
namespace Go.bZ
open Go Go.RowKit
def uS(ops:Array Oper)(p:List Nat):Array Oper:=(p.filterMap (ops[·]?)).toArray
def il(n:Nat)(p:List Nat)(k:Nat):Array Bool:=((List.range n).map fun j=>decide (j∈p.take k)).toArray
def Gu(ops:Array Oper)(p:List Nat)(n0:Nat):Nat:=if n0=ops.size then ops.size else p.getD (ops.size-1) 0
def TY(ops:Array Oper)(p:List Nat)(n0:Nat):Bool:=
 Region.noSelect ops&&decide (p.length=ops.size)&&p.all (fun i=>decide (i<ops.size))&&ops.toList.all (·.guard.isNone)&&(List.range ops.size).all (fun j=>decide (j∈p))&&decide (n0≤ops.size)&&(List.range ops.size).all fun k=>
  match p[k]? with
  |none=>false
  |some i=>if k<n0 then Region.free .any ops (il ops.size p k) i&&(Region.ready .any ops (il ops.size p k)).contains i&&decide (i≠Gu ops p n0)&&
    (decide (n0=ops.size)||match ops[Gu ops p n0]? with|some oL=>oL.after.toList.any fun e=>Region.binds .any e&&e.on==i|none=>false)
   else Region.ready .any ops (il ops.size p k)==[i]
theorem tz{ops:Array Oper}: ∀{p:List Nat} (h: ∀i∈p,i<ops.size) (k:Nat),(p.filterMap (ops[·]?))[k]? =(p[k]?).bind (ops[·]?)
 | [],_,k=>by simp
 |i::p,h,k=>by
  have hi:ops[i]? =some (ops[i]'(h i List.mem_cons_self)):=Array.getElem?_eq_getElem _
  rw[List.filterMap_cons,hi]
  cases k with
  |zero=>simp[hi]
  |succ k=>
   simp only[List.getElem?_cons_succ]
   exact tz (fun j hj=>h j (List.mem_cons_of_mem _ hj)) k
theorem Bv{n i k:Nat}{p:List Nat}(hi:p[k]? =some i):(il n p k).setIfInBounds i true=il n p (k+1):=by
 apply Array.ext
 ·simp[il]
 ·intro j h1 h2
  simp only[il,Array.size_setIfInBounds,List.size_toArray,List.length_map,List.length_range]at h1
  rw[Array.getElem_setIfInBounds (by simpa [il]using h1)]
  have ht:p.take (k+1)=p.take k++[i] :=by rw[List.take_add_one,hi];rfl
  by_cases B8:i=j
  ·subst B8;simp[il,ht]
  ·rw[if_neg B8]
   simp only[il,List.getElem_toArray,List.getElem_map,List.getElem_range,ht,List.mem_append,List.mem_singleton]
   congr 1
   exact propext ⟨fun h=> .inl h,fun h=>h.resolve_right (Ne.symm B8)⟩
theorem HO(n:Nat)(p:List Nat):Array.replicate n false=il n p 0:=by
 apply Array.ext
 ·simp[il]
 ·intro j h1 h2;simp[il]
section
variable{P:Program}{ops ops':Array Oper}{Q:Exit→Act→World→Prop}{S:World→Prop}
theorem YieldsIf.plain{o:Oper}{v:Value}{a:Act}(hg:o.guard=none)(h:YieldsIf P ops' S o v a):YieldsIf P ops S o v a:=by
 have hw: ∀y,Region.wanted o y=true:=fun y=>by unfold Region.wanted;rw[hg]
 rcases h with⟨_,h⟩|⟨h,_⟩
 ·exact .inl ⟨hw _,h⟩
 ·rw[hw]at h;cases h
theorem JJ{o:Oper}{i k:Nat}{K:Act→World→Prop}{a:Act}{w:World}(hg:o.guard=none)(hk:ops'[k]? =some o)(hi:ops[i]? =some o)(h:wpOp P ops' Q k K a w):wpOp P ops Q i K a w:=by
 have hw: ∀y,Region.wanted o y=true:=fun y=>by unfold Region.wanted;rw[hg]
 unfold wpOp at h⊢
 rw[hk]at h
 rw[hi]
 simp only[hw,if_true]at h⊢
 exact h
theorem MZ{p:List Nat}{n0:Nat}(bM:TY ops p n0=true)(hQ: ∀c a d v w,Q (.panic c) (a.put d v) w→Q (.panic c) a w):
  ∀(f k:Nat) (a:Act) (w:World),k+f=ops.size→mG P (uS ops p) Q S n0 f k a w→po P ops Q S (Gu ops p n0) f (il ops.size p k) a w:=by
 have qD:=bM
 unfold TY at bM
 simp only[aw,aN,aV,List.mem_range]at bM
 obtain⟨⟨⟨⟨⟨⟨DQ,tF⟩,hpi⟩,DS⟩,MG⟩,Od⟩,eI⟩:=bM
 have zY: ∀k:Nat,(uS ops p)[k]? =(p[k]?).bind (ops[·]?):=fun k=>by
  unfold uS
  rw[List.getElem?_toArray]
  exact tz hpi k
 intro f
 induction f with
 |zero=>
  intro k a w hkf h
  refine⟨?_,h⟩
  rw[List.eq_nil_iff_forall_not_mem]
  intro j hj
  obtain⟨h0,oj,wG,_⟩:=mem_ready.1 hj
  have jh:j<ops.size:=(Array.getElem?_eq_some_iff.1 wG).1
  have ht:p.take k=p:=List.take_of_length_le (by omega)
  have:=MG j jh
  simp[il,jh,ht,this]at h0
 |succ f ih=>
  intro k a w hkf h
  have hk:k<ops.size:=by omega
  have hc:=eI k hk
  have Za:p[k]? =some (p[k]'(by omega)):=av _
  generalize p[k]'(by omega)=i at Za
  rw[Za]at hc
  simp only at hc
  have hi:i<ops.size:=hpi i (aS Za)
  have ho:ops[i]? =some ops[i] :=Array.getElem?_eq_getElem hi
  have hg:ops[i].guard=none:=by
   have:=DS ops[i] (by simp)
   simpa using this
  have Uq:(uS ops p)[k]? =some ops[i] :=by rw[zY,Za];exact ho
  unfold mG at h
  rw[Uq]at h
  simp only at h
  by_cases aL:k<n0
  ·rw[if_pos aL]at h hc
   obtain⟨hS,v,hy,hr⟩:=h
   simp only[aw,aN]at hc
   obtain⟨⟨⟨qL,qU⟩,dH⟩,kZ⟩:=hc
   refine vS ho dH ?_ (Region.noSelect_spec DQ) (fun c a w=>hQ c a _ _ w) f (il ops.size p k) a w (Region.free_spec ho qL) (by simpa using qU) (YieldsIf.plain (ops':=uS ops p) hg hy) hS ?_
   ·intro oL TB
    by_cases hz:n0=ops.size
    ·exfalso
     unfold Gu at TB
     rw[if_pos hz]at TB
     simp at TB
    ·rw[TB]at kZ
     simp only[Bool.or_eq_true,aN,List.any_eq_true,aw,beq_iff_eq]at kZ
     obtain⟨e,he,hb,TA⟩:=kZ.resolve_left hz
     exact⟨e,by simpa using he,hb,TA⟩
   ·rw[Bv Za]
    exact ih (k+1) _ w (by omega) hr
  ·rw[if_neg aL]at h hc
   have hr:Region.ready .any ops (il ops.size p k)=[i] :=by simpa using hc
   refine⟨fun h0=>(by rw[hr]at h0;cases h0),fun j hj=> ?_⟩
   rw[hr,List.mem_singleton]at hj
   subst hj
   refine wpOp_mono (fun a' w' h'=>⟨fun dH=>h'.1 (fun hf=>dH ?_),?_⟩) (JJ hg Uq ho h)
   ·rw[Bv Za]
    exact ih (k+1) a' w' (by omega) h'.2
   ·unfold Gu
    rw[if_neg (by omega),List.getD_eq_getElem?_getD,show ops.size-1=k by omega,Za];rfl
theorem aiu{id n0:Nat}{p:List Nat}{L:List OK}(X:Nat→Prop)(hm:P.follows .mixedOrders=true)(hQ:QP Q)(hl:aZ (uS ops p)=L)(hd:TY ops p n0=true){w:World}{a:Act}
  (h: ∀w1,DV w w1→TL P (uS ops p) Q (SX X w1) n0 L L 0 a w1):(Code.region id ops true).wp P Q a w:=by
 have Wm:=hd
 unfold TY at Wm
 simp only[aw,aN,aV,List.mem_range]at Wm
 obtain⟨⟨⟨⟨⟨⟨DQ,tF⟩,hpi⟩,DS⟩,MG⟩,Od⟩,eI⟩:=Wm
 have hlen:L.length=ops.size:=by
  rw[←hl,←tF]
  unfold aZ uS
  rw[List.length_map]
  have: ∀(q:List Nat),(∀i∈q,i<ops.size)→(q.filterMap (ops[·]?)).length=q.length:=by
   intro q
   induction q with
   |nil=>intro _;rfl
   |cons i q ih=>
    intro hq
    have hi:ops[i]? =some (ops[i]'(hq i List.mem_cons_self)):=Array.getElem?_eq_getElem _
    rw[List.filterMap_cons,hi]
    simp only[List.length_cons]
    rw[ih (fun j hj=>hq j (List.mem_cons_of_mem _ hj))]
  exact this p hpi
 refine wp_region_any hm ?_
 have h1:=MZ hd hQ ops.size 0 a _ (by omega) (hlen▸h _ (DV.drew w) hl rfl)
 rw[←HO]at h1
 exact pF _ _ _ _ h1
end
def clo(ops:Array Oper)(i:Nat):List Nat:=(List.range ops.size).foldl (fun acc j=>match ops[j]? with
 |some oj=>if decide (i<j)&&oj.after.toList.any (fun e=>Region.binds .any e&&(e.on==i||acc.contains e.on)) then acc++[j] else acc
 |none=>acc) []
def ZW(ops:Array Oper)(n0:Nat):Bool:=
 decide (n0≤ops.size)&&Region.noSelect ops&&(List.range ops.size).all fun i=>
  if i<n0 then Region.free .any ops (eT ops.size i) i&&(Region.ready .any ops (eT ops.size i)).contains i&&decide (i+1<ops.size)&&
   (clo ops i).contains (ops.size-1)&&(clo ops i).all (fun j=>decide (i<j)&&match ops[j]? with
    |some oj=>oj.after.toList.any fun e=>Region.binds .any e&&(e.on==i||(clo ops i).contains e.on)
    |none=>false)
  else Region.ready .any ops (eT ops.size i)==[i]
section
variable{P:Program}{ops:Array Oper}{Q:Exit→Act→World→Prop}{S:World→Prop}
theorem Cv{L i:Nat}{B:List Nat}{oi:Oper}{v:Value}(hi:ops[i]? =some oi)(hiL:i≠L)(hL:L∈B)(hB: ∀j∈B,∃oj,ops[j]? =some oj∧ ∃e∈oj.after,Region.binds .any e=true∧(e.on=i∨e.on∈B))(Pa: ∀(j:Nat) (o:Oper) cs b,ops[j]? =some o→o.op≠ .select cs b)
  (hQ: ∀c a w,Q (.panic c) (a.put oi.dst v) w→Q (.panic c) a w):
  ∀(fuel:Nat) (aP:Array Bool) (a:Act) (w:World),
   (∀j oj,ops[j]? =some oj→j≠i→aP.getD j true=false→(∀e∈oj.after,Region.binds .any e=true→e.on≠i)→oi.apart ops oj=true)→(∀x∈B,aP.getD x true=false)→
   i∈Region.ready .any ops aP→YieldsIf P ops S oi v a→S w→
   po P ops Q S L fuel (aP.setIfInBounds i true) (a.put oi.dst v) w→po P ops Q S L (fuel+1) aP a w:=by
 intro fuel
 induction fuel with
 |zero=>
  intro aP a w _ _ hr hy hS H
  refine⟨fun h=>(by rw[h]at hr;cases hr),fun j hj=> ?_⟩
  by_cases CP:j=i
  ·subst CP;exact hy.wpOp hi hS ⟨fun _=>hS,H⟩
  ·have:=ready_mono hj CP
   rw[H.1]at this
   cases this
 |succ fuel ih=>
  intro aP a w qL hBl hr hy hS H
  refine⟨fun h=>(by rw[h]at hr;cases hr),fun j hj=> ?_⟩
  by_cases CP:j=i
  ·subst CP;exact hy.wpOp hi hS ⟨fun _=>hS,H⟩
  ·have h1:=H.2 j (ready_mono hj CP)
   obtain⟨Pk,oj,wG,eI⟩:=mem_ready.1 hj
   have qK: ∀e∈oj.after,Region.binds .any e=true→aP.getD e.on true=true:=fun e he hb=>by
    have h1:=eI e he hb
    rcases Nat.lt_or_ge e.on aP.size with h'|h'
    ·simp[h']at h1⊢;exact h1
    ·simp[Array.getElem?_eq_none h']at h1
   have aqX:=(mem_ready.1 hr).1
   have kZ: ∀e∈oj.after,Region.binds .any e=true→e.on≠i:=fun e he hb heq=>by
    have h1:=qK e he hb
    rw[heq,aqX]at h1;cases h1
   have hjB:j∉B:=fun hjB=>by
    obtain⟨oj',Ur,e,he,hb,TA⟩:=hB j hjB
    rw[wG]at Ur
    injection Ur with Ur
    subst Ur
    rcases TA with h2|h2
    ·exact kZ e he hb h2
    ·have h3:=qK e he hb
     rw[hBl _ h2]at h3;cases h3
   have hjL:j≠L:=fun e=>hjB (e▸hL)
   have h2:=wpOp_putIf wG (qL j oj wG CP Pk kZ) (fun cs b=>Pa i oi cs b hi) (fun cs b=>Pa j oj cs b wG) hQ hy h1
   have JB: ∀k ok,ops[k]? =some ok→k≠i→(aP.setIfInBounds j true).getD k true=false→
     (∀e∈ok.after,Region.binds .any e=true→e.on≠i)→oi.apart ops ok=true:=fun k ok hk hki hun qe=>by
    refine qL k ok hk hki ?_ qe
    by_cases KH:j=k
    ·subst KH;exact Pk
    ·rw[getD_set_ne true KH]at hun;exact hun
   have arv: ∀x∈B,(aP.setIfInBounds j true).getD x true=false:=fun x hx=>by
    rw[getD_set_ne true (fun e:j=x=>hjB (by rw[e];exact hx))];exact hBl x hx
   refine wpOp_mono (fun a' w' h3=>⟨fun dH=>h3.2.1 dH,ih (aP.setIfInBounds j true) a' w' JB arv (ready_mono hr (Ne.symm CP)) h3.1 (h3.2.1 hjL) ?_⟩) h2
   rw[Array.setIfInBounds_comm _ _ CP]
   exact h3.2.2
theorem xm{n0:Nat}(bM:ZW ops n0=true)(hQ: ∀c a d v w,Q (.panic c) (a.put d v) w→Q (.panic c) a w):
  ∀(f i:Nat) (a:Act) (w:World),i+f=ops.size→mG P ops Q S n0 f i a w→po P ops Q S (ops.size-1) f (eT ops.size i) a w
 |0,i,a,w,hif,h=>by
  refine⟨?_,h⟩
  have:i=ops.size:=by omega
  subst this
  rw[List.eq_nil_iff_forall_not_mem]
  intro j hj
  obtain⟨h0,oj,wG,_⟩:=mem_ready.1 hj
  have jh:j<ops.size:=(Array.getElem?_eq_some_iff.1 wG).1
  simp[eT,jh]at h0
 |f+1,i,a,w,hif,h=>by
  have qD:=bM
  unfold ZW at bM
  simp only[aw,aN,aV,List.mem_range]at bM
  obtain⟨⟨Od,DQ⟩,eI⟩:=bM
  have hi:i<ops.size:=by omega
  have hc:=eI i hi
  unfold mG at h
  have ho:ops[i]? =some ops[i] :=Array.getElem?_eq_getElem hi
  rw[ho]at h
  simp only at h
  by_cases aL:i<n0
  ·rw[if_pos aL]at h hc
   obtain⟨hS,v,hy,hr⟩:=h
   simp only[aw,aN,aV]at hc
   obtain⟨⟨⟨⟨qL,qU⟩,eX⟩,kZ⟩,ahZ⟩:=hc
   refine Cv (B:=clo ops i) ho (by omega) (by simpa using kZ) ?_ (Region.noSelect_spec DQ) (fun c a w=>hQ c a _ _ w) f (eT ops.size i) a w (Region.free_spec ho qL) ?_ (by simpa using qU) hy hS ?_
   ·intro j hj
    obtain⟨_,h2⟩:=ahZ j hj
    cases wG:ops[j]? with
    |none=>rw[wG]at h2;cases h2
    |some oj=>
     rw[wG]at h2
     simp only[List.any_eq_true,aw,Bool.or_eq_true,beq_iff_eq]at h2
     obtain⟨e,he,hb,TA⟩:=h2
     exact⟨oj,rfl,e,by simpa using he,hb,TA.imp id (fun h=>by simpa using h)⟩
   ·intro x hx
    obtain⟨h1,h2⟩:=ahZ x hx
    have mZ:x<ops.size:=by
     cases wG:ops[x]? with
     |none=>rw[wG]at h2;cases h2
     |some oj=>exact(Array.getElem?_eq_some_iff.1 wG).1
    simp[eT,mZ]
    omega
   ·rw[pJ hi]
    exact xm qD hQ f (i+1) _ w (by omega) hr
  ·rw[if_neg aL]at h hc
   have hr:Region.ready .any ops (eT ops.size i)=[i] :=by simpa using hc
   refine⟨fun h0=>(by rw[hr]at h0;cases h0),fun j hj=> ?_⟩
   rw[hr,List.mem_singleton]at hj
   subst hj
   refine wpOp_mono (fun a' w' h'=>⟨fun dH=>h'.1 (by omega),?_⟩) h
   rw[pJ hi]
   exact xm qD hQ f (j+1) a' w' (by omega) h'.2
theorem aiv{id n0:Nat}{L:List OK}(X:Nat→Prop)(hm:P.follows .mixedOrders=true)(hQ:QP Q)(hl:aZ ops=L)(hd:ZW ops n0=true){w:World}{a:Act}
  (h: ∀w1,DV w w1→TL P ops Q (SX X w1) n0 L L 0 a w1):(Code.region id ops true).wp P Q a w:=by
 have hlen:L.length=ops.size:=by rw[←hl];simp[aZ]
 refine wp_region_any hm ?_
 have h1:=xm hd hQ ops.size 0 a _ (by omega) (hlen▸h _ (DV.drew w) hl rfl)
 rw[←yq]at h1
 exact pF _ _ _ _ h1
end
theorem Eg{P:Program}{ops:Array Oper}{Q:Exit→Act→World→Prop}{S:World→Prop}{n n0 i d j:Nat}{a:Act}{w:World}{m:List (Nat×Value)}{gd:Option (Nat×Bool)}{L r:List OK}{x:Operand}{vs:List Value}{v:Value}(k:Kn n a m)(hS:S w)(hg:pU L m gd=some true)(hd:d<n)(hx:lB m x=some (.tuple vs.toArray))(hv:vs[j]? =some v)
  (h: ∀a',Kn n a' ((d,v)::m)→TL P ops Q S n0 L r (i+1) a' w):TL P ops Q S n0 L ((some d, .extract x j,gd)::r) i a w:=by
 refine qg k hS hg hd (fun ty pos af w' _=> ?_) h
 have h1:=k.op hx
 unfold execOp
 simp only[h1,Instr.extract]
 simp[hv]
theorem I3{P:Program}{ops:Array Oper}{Q:Exit→Act→World→Prop}{S:World→Prop}{n n0 i d:Nat}{a:Act}{w:World}{m:List (Nat×Value)}{gd:Option (Nat×Bool)}{L r:List OK}{x y:Operand}{t t2:TypeId}{p:Option Addr}(k:Kn n a m)(hS:S w)(hg:pU L m gd=some true)(hd:d<n)(hx:lB m x=some (.pointer p))(hy:lB m y=some (.pointer none))(hu:ptB P t=true)
  (h: ∀a',Kn n a' ((d, .bool p.isNone)::m)→TL P ops Q S n0 L r (i+1) a' w):TL P ops Q S n0 L ((some d, .binOp .eql t x y t2,gd)::r) i a w:=by
 refine qg k hS hg hd (fun ty pos af w' _=> ?_) h
 have h1:=k.op hx
 have h2:=k.op hy
 obtain⟨el,hu⟩: ∃el,P.underlying t=some (.pointer el):=by
  unfold ptB at hu
  split at hu
  ·exact⟨_,by assumption⟩
  ·cases hu
 have h3:=nV (w:=w') hu p x y
 have mJ:(execOp a.eval ⟨some d, .binOp .eql t x y t2,ty,pos,af,gd⟩)=(do let v←(do eqGuard .eql t x y (a.eval x) (a.eval y);binOp .eql t (a.eval x) (a.eval y):Sem Value);pure (.value v)):=by unfold execOp;rfl
 rw[mJ,Sem.run_bind,h1,h2,h3]
 rfl
end Go.bZ
namespace Go.Proofs.Ytjhmkaninmgilaa
open Go Go.RowKit Go.bZ Go.Proofs
attribute [local irreducible] TL
def IG(id:Int)(fv fl:List D)(term vote:Int)(le:List D):RS:={aW with gg:= .eW,id:=id,fv:=fv,fl:=fl,term:=term,vote:=vote,le:=le}
section
variable{w w':World}{S S':aO}{ow aT:Ow}{l b:Nat}{s:RS}
theorem LY{τ:Nat→Value}{v:Value}{d:D}{cs:List aA}(hex:(cs.all fun r=>match r.2 with|some (j,_)=> !(Ca j)|none=>true)=true)(h:eN w 0 S τ [(true,cs)] v d):
  ∃(us:List Value) (ds:List D),v= .agg us.toArray∧d= .agg ds∧us.length=cs.length∧ds.length=cs.length∧ ∀(i:Nat) r u y,cs[i]? =some r→us[i]? =some u→ds[i]? =some y→bj w S u y∧Has (Gd r) y:=by
 rcases h with⟨c,hc,hq⟩|⟨hc,_⟩
 ·injection hc with hc
  subst hc
  unfold ep at hq
  rw[if_pos rfl]at hq
  obtain⟨us,ds,rfl,rfl,zi,qo,cB⟩:=hq
  refine⟨us,ds,rfl,rfl,zi,qo,fun i r u y hr hu hy=> ?_⟩
  have h1:=cB i r u y hr hu hy
  have h2:=aV.1 hex r (aS hr)
  obtain⟨t,ro⟩:=r
  cases ro with
  |none=>exact h1
  |some jT=>
   obtain⟨j,T⟩:=jT
   simp only[Bool.not_eq_true']at h2
   obtain⟨rfl,ho⟩:=h1
   rw[h2]at ho
   exact⟨ho.rep,ho.has⟩
 ·exact absurd rfl hc
theorem NF{i t:Int}{le:List D}(h:hZ w S ow l qA b [[.int .i64 i, .int .i64 t, .list le]])(hw:Wf w S ow)(hm:de i t le=true):
  Calls Try.prog 25 #[.pointer (some ⟨b,0,none⟩)] w fun e w'=>e= .returned (.tuple [.int .i64 (dm i t le).1, .int .i64 (dm i t le).2].toArray)∧aC ae ae w S ow w' S ow∧Wf w' S ow:=by
 obtain⟨hr,hh⟩:=Kd h (fun b o=>S b o∨ow b=some l) (fun _ _ h=> .inl h) (fun _ _ h=> .inr h)
 refine(c25.calls rfl w (fun b o=>S b o∨ow b=some l) [.pointer (some ⟨b,0,none⟩)] [.ptr [.int .i64 i, .int .i64 t, .list le]] (fun b o hs=>hs.elim (hw.s b o) (hw.o b l)) rfl ?_ (aa.2 ⟨_,_,rfl,hh,bE.2 rfl⟩) hm).mono ?_
 ·intro i v d hv hd
  match i,hv,hd with
  |0,hv,hd=>injection hv with hv;injection hd with hd;subst hv hd;exact hr
 ·rintro e w1 ⟨v,S',τ,rfl,hb,_,_,_,cw,_⟩
  have mj:aC ae ae w S ow w1 S ow∧Wf w1 S ow:=⟨⟨hb.size,hb.os,hb.tape,hb.output,fun b _ fu _ _=>hb.block b fu,fun b fu _ _=>hb.block b fu,fun _ _ h=>h,fun b o hs=>World.cell?_of_block (hb.block b (hw.s b o hs)),fun _ _ h _=>h,fun _ _ h=> .inl h,fun _ _ h=>h,fun _ _ h=> .inl h⟩,
   ⟨fun b o hs=>Nat.lt_of_lt_of_le (hw.s b o hs) hb.size,fun b l hl=>Nat.lt_of_lt_of_le (hw.o b l hl) hb.size,hw.d⟩⟩
  refine⟨?_,mj⟩
  rcases cw with⟨c,hc,hq⟩|⟨hc,vs,ds,rfl,hd,tE,qo,cB⟩
  ·cases hc
  ·have e:aK 25 [.ptr [.int .i64 i, .int .i64 t, .list le]] = .cW [.int .i64 (dm i t le).1, .int .i64 (dm i t le).2] :=rfl
   rw[e]at hd
   injection hd with hd
   subst hd
   have aar:vs.length=2:=tE
   match vs,aar with
   | [v0,v1],_=>
    have h0:=cB 0 _ _ _ rfl rfl rfl
    have h1:=cB 1 _ _ _ rfl rfl rfl
    unfold ep at h0 h1
    simp only[Bool.false_eq_true,if_false]at h0 h1
    obtain⟨x0,fL,h0⟩:=h0
    obtain⟨x1,FV,h1⟩:=h1
    injection fL with fL
    injection FV with FV
    subst fL FV
    have g0:=h0.1.bD
    have g1:=h1.1.bD
    subst g0 g1
    rfl
theorem HW{i t pi pt:Int}{le es:List D}{ve:Value}(h:hZ w S ow l qA b [[.int .i64 i, .int .i64 t, .list le]])(hw:Wf w S ow)(om:1000≤l)(fV:bV (.bQ [I6,I6, .list cX,I6,I6, .list cX]) [.int .i64 pi, .int .i64 pt, .list es, .int .i64 i, .int .i64 t, .list le])(hr:bj w S ve (.list es))(hm:de i t le=true)(h1:le.length<4294967296)(h2:es.length<4294967296):
  Calls Try.prog 23 [.pointer (some ⟨b,0,none⟩), .int .i64 pi, .int .i64 pt,ve].toArray w fun e w'=> ∃S' aT,e= .returned (.tuple [.int .i64 (jj i t le pi pt es).1, .bool (np i t le pi pt es)].toArray)∧aC (bJ l) ae w S ow w' S' aT∧Wf w' S' aT∧hZ w' S' aT l qA b [[.int .i64 i, .int .i64 t, .list (jj i t le pi pt es).2]] :=by
 refine(hZ.call (ob:=⟨[true,false,false,false],[gn],[gn],false⟩) (ob0:=qA) (n:=3) (vs:=[.int .i64 pi, .int .i64 pt,ve]) (dd:=[.int .i64 pi, .int .i64 pt, .list es]) c23 rfl rfl rfl rfl rfl rfl (by decide) (.inr rfl) rfl om h hw rfl rfl (fun q v d hv hd=>by
  match q,hv,hd with
  |0,hv,hd=>injection hv with hv;injection hd with hd;subst hv hd;exact .int _ _
  |1,hv,hd=>injection hv with hv;injection hd with hd;subst hv hd;exact .int _ _
  |2,hv,hd=>injection hv with hv;injection hd with hd;subst hv hd;exact hr) fV ⟨hm,h1,h2⟩).mono ?_
 rintro e w1 ⟨v,S',aT,τ,d0,outs,rfl,qi,lQ,st,fC,dw,cw⟩
 have e:aK 23 [.int .i64 pi, .int .i64 pt, .list es, .int .i64 i, .int .i64 t, .list le] = .cW [.cW [.int .i64 (jj i t le pi pt es).1, .bool (np i t le pi pt es)], .agg [.int .i64 i, .int .i64 t, .list (jj i t le pi pt es).2]] :=rfl
 have K6:aK 23 [.int .i64 pi, .int .i64 pt, .list es, .int .i64 i, .int .i64 t, .list le] = .cW (d0::outs.map .agg):=qi
 rw[e]at K6
 injection K6 with K6
 injection K6 with Wm hph
 subst Wm
 have aaF:outs.length=1:=lQ
 match outs,aaF with
 | [o1],_=>
  injection hph with hph
  injection hph with hph
  subst hph
  refine⟨S',aT,?_,st,fC,dw⟩
  rcases cw with⟨c,hc,hq⟩|⟨hc,vs,ds,rfl,hd,tE,qo,cB⟩
  ·cases hc
  ·injection hd with hd
   subst hd
   have aar:vs.length=2:=tE
   match vs,aar with
   | [v0,v1],_=>
    have h0:=cB 0 _ _ _ rfl rfl rfl
    have h1:=cB 1 _ _ _ rfl rfl rfl
    unfold ep at h0 h1
    simp only[Bool.false_eq_true,if_false]at h0 h1
    obtain⟨x0,fL,h0⟩:=h0
    obtain⟨x1,FV,h1⟩:=h1
    injection fL with fL
    injection FV with FV
    subst fL FV
    have g0:=h0.1.bD
    have g1:=h1.1.eH
    subst g0 g1
    rfl
end
theorem abX:aZ (uS Re [0,1,3,4,5,6,7,9,10,11,2,8,12,13,14])=[oM 96 0,
 oL 97 31 4,
 oF 99 65 5 0,
 oL 100 61 99,
 oM 101 8,
 oF 102 65 5 1,
 oL 103 63 102,
 oF 105 65 5 1,
 oF 106 63 105 0,
 oL 107 3 106,
 oC 98 26 #[(.tmp 97)] #[31],
 oC 104 27 #[(.tmp 103)] #[63],
 (some 108, .build 108 #[(1, .tmp 96),(2, .tmp 98),(3, .tmp 100),(4, .tmp 101),(5, .tmp 104),(6, .tmp 107)],none),
 (some 109, .box 108 (.tmp 108),none),
 oA 6 109] :=by kernel_rfl
section
variable{w w':World}{S S':aO}{ow aT:Ow}{l b:Nat}{s:RS}
theorem rk{i lo hi:Int}(hw:Wf w S ow)(h1:kr .i64 i)(h2:kr .i64 lo)(h3:kr .i64 hi)(h:qc i lo hi=true):Calls Try.prog 20 [.int .i64 i, .int .i64 lo, .int .i64 hi].toArray w fun e w'=>e= .returned (.bool true)∧aC ae ae w S ow w' S ow∧Wf w' S ow:=
 ss (dd:=[.int .i64 i, .int .i64 lo, .int .i64 hi]) c20 hw rfl (fun q v d hv hd=>by
  match q,hv,hd with
  |0,hv,hd=>injection hv with hv;injection hd with hd;subst hv hd;exact .int _ _
  |1,hv,hd=>injection hv with hv;injection hd with hd;subst hv hd;exact .int _ _
  |2,hv,hd=>injection hv with hv;injection hd with hd;subst hv hd;exact .int _ _) (aa.2 ⟨_,_,rfl,⟨_,rfl,h1⟩,aa.2 ⟨_,_,rfl,⟨_,rfl,h2⟩,aa.2 ⟨_,_,rfl,⟨_,rfl,h3⟩,bE.2 rfl⟩⟩⟩) trivial (congrArg D.bool h)
theorem aa6{a b c d e f g h:D}(x:Has jP (.agg [a,b,c,d,e,f,g,h])):Has (.list cX) h:=by
 obtain⟨l,hl,hx⟩:=cu.1 x
 injection hl with hl
 subst hl
 obtain⟨y,hy,hh⟩:=bX hx 7 (.list cX) (by rw[Ty.cC];rfl)
 injection hy with hy
 subst hy
 exact hh
theorem M9:Has WB (.agg [.int .i64 0, .int .i64 0, .list [], .list [], .list []]):=
 cu.2 ⟨_,rfl,aa.2 ⟨_,_,rfl,⟨0,rfl,by decide⟩,aa.2 ⟨_,_,rfl,⟨0,rfl,by decide⟩,aa.2 ⟨_,_,rfl,aD.2 ⟨[],rfl,db _,fun _ h=>by cases h⟩,aa.2 ⟨_,_,rfl,aD.2 ⟨[],rfl,db _,fun _ h=>by cases h⟩,aa.2 ⟨_,_,rfl,aD.2 ⟨[],rfl,db _,fun _ h=>by cases h⟩,bE.2 rfl⟩⟩⟩⟩⟩⟩
theorem _root_.Go.bZ.bj.MQ{vs:List Value}{ds:List D}(h:bj w S (.agg vs.toArray) (.agg ds))(i:Nat){u:Value}{y:D}(hu:vs[i]? =some u)(hy:ds[i]? =some y):bj w S u y:=by
 obtain⟨DH,hv,_,h2⟩:=h.vq
 injection hv with hv
 have:vs=DH:=by simpa using congrArg Array.toList hv
 subst this
 exact h2 i _ _ hu hy
def PA(p:aA→Value→D→Prop):List aA→List Value→List D→Prop
 |r::rs,v::vs,d::ds=>p r v d∧PA p rs vs ds
 | [],[],[] =>True
 |_,_,_=>False
theorem Ht{p:aA→Value→D→Prop}: ∀{rs:List aA} {vs:List Value} {ds:List D},PA p rs vs ds→ ∀(i:Nat) r v d,rs[i]? =some r→vs[i]? =some v→ds[i]? =some d→p r v d
 |r::rs,v::vs,d::ds,h,0,_,_,_,h1,h2,h3=>by
  injection h1 with h1;injection h2 with h2;injection h3 with h3
  subst h1 h2 h3
  exact h.1
 |r::rs,v::vs,d::ds,h,i+1,_,_,_,h1,h2,h3=>Ht h.2 i _ _ _ h1 h2 h3
 | [],_,_,_,_,_,_,_,h1,_,_=>by simp at h1
 |_::_,[],_,_,_,_,_,_,_,h2,_=>by simp at h2
 |_::_,_::_,[],_,_,_,_,_,_,_,h3=>by simp at h3
theorem N2{p:aA→Value→D→Prop}{r:aA}{v:Value}{d:D}{rs:List aA}{vs:List Value}{ds:List D}(h1:p r v d)(h2:PA p rs vs ds):PA p (r::rs) (v::vs) (d::ds):=⟨h1,h2⟩
def ye(w:World)(S:aO)(r:aA)(v:Value)(d:D):Prop:=(r.2=none→bj w S v d∧Has r.1 d)∧ ∀jT,r.2=some jT→v= .slice none 0 0∧d= .list []
theorem zB{n:Int}(h:kr .i64 n):ye w S (I6,none) (.int .i64 n) (.int .i64 n):=⟨fun _=>⟨.int _ _,n,rfl,h⟩,fun _ h=>by cases h⟩
theorem VT{c:Bool}:ye w S (.bool,none) (.bool c) (.bool c):=⟨fun _=>⟨.bool _,c,rfl⟩,fun _ h=>by cases h⟩
theorem vu{t:Ty}{v:Value}{d:D}(h:bj w S v d∧Has t d):ye w S (t,none) v d:=⟨fun _=>h,fun _ h=>by cases h⟩
theorem VR{t:Ty}{jT:Nat×TypeId}:ye w S (t,some jT) (.slice none 0 0) (.list []):=⟨fun h=>(by cases h),fun _ _=>⟨rfl,rfl⟩⟩
theorem VP{t:Ty}:ye w S (.list t,none) (.slice none 0 0) (.list []):=⟨fun _=>⟨.nil _ _,[],rfl,db _,fun _ h=>by cases h⟩,fun _ h=>by cases h⟩
theorem VQ{ts:List Ty}:ye w S (.ptr (.bQ ts),none) (.pointer none) .eW:=⟨fun _=>⟨.eW, .inl rfl⟩,fun _ h=>by cases h⟩
theorem VS{b:Nat}:ye w S (.box .nil,none) (.pointer (some ⟨b,0,none⟩)) (.ptr []):=⟨fun _=>⟨.ptr b [] [] rfl (fun _ h=>by cases h) (fun _ _ h=>by simp at h) (fun _ _ _ h=>by simp at h),[],rfl,bE.2 rfl⟩,fun _ h=>by cases h⟩
def Mr(id term vote:Int)(bl:Nat)(k0 k1 m2 m3 m4:Value):List Value:=[.bool false, .int .i64 0, .int .i64 0, .slice none 0 0, .pointer none, .slice none 0 0, .slice none 0 0, .slice none 0 0, .int .i64 id,k0,k1, .int .i64 term, .int .i64 vote, .pointer (some ⟨bl,0,none⟩), .int .i64 0, .int .i64 0,m2,m3,m4, .int .i64 0, .int .i64 0, .int .i64 0, .int .i64 0, .int .i64 0, .slice none 0 0] ++List.replicate 18 (.int .i64 0)++[.int .i64 0, .slice none 0 0, .int .i64 0, .int .i64 0, .int .i64 0, .int .i64 0, .int .i64 0, .slice none 0 0]
theorem Kf{id term vote:Int}{bl:Nat}{k0 k1 m2 m3 m4:Value}{fv fl le:List D}(h1:kr .i64 id)(h2:kr .i64 term)(h3:kr .i64 vote)(Of:bj w S k0 (.list fv)∧Has (.list I6) (.list fv))(hk1:bj w S k1 (.list fl)∧Has (.list I6) (.list fl))(hm2:bj w S m2 (.list [])∧Has (.list I6) (.list []))(hm3:bj w S m3 (.list [])∧Has (.list I6) (.list []))(hm4:bj w S m4 (.list [])∧Has (.list (.int .u8)) (.list [])):
  PA (ye w S) kg (Mr id term vote bl k0 k1 m2 m3 m4) (cR (IG id fv fl term vote le)):=by
 have z:kr .i64 0:=by decide
 iterate 51 refine N2 (by first|exact VT|exact zB z|exact VR|exact VQ|exact VS|exact zB h1|exact zB h2|exact zB h3|exact vu Of|exact vu hk1|exact vu hm2|exact vu hm3|exact vu hm4|exact VP) ?_
 trivial
theorem Di{id term vote:Int}{fv fl es:List D}{c0 c1 s4 s5 s6 s7:Value}(hw:Wf w S ow)(om:1000≤l)(cU:qc id 1 5=true)(Uy:kr .i64 id)(hc:bj w S (.agg [c0,c1].toArray) (.agg [.list fv, .list fl]))(htc:Has mK (.agg [.list fv, .list fl]))(hm:dL (.agg [.list fv, .list fl])=true)
  (hs:bj w S (.agg [.int .i64 term, .int .i64 vote, .int .i64 0, .int .i64 0,s4,s5,s6,s7].toArray) (.agg [.int .i64 term, .int .i64 vote, .int .i64 0, .int .i64 0, .list [], .list [], .list [], .list es])) (nh:Has jP (.agg [.int .i64 term, .int .i64 vote, .int .i64 0, .int .i64 0, .list [], .list [], .list [], .list es]))
  (ht:qc term 0 MX=true) (hv:qc vote 0 MX=true) (IT:np 0 0 [] 0 0 es=true) (F0:cI es=true) (aL:eE 0 (jj 0 0 [] 0 0 es).2≤term) (pe:es.length<4294967296) (ahJ:de 0 0 (jj 0 0 [] 0 0 es).2=true):
  Calls Try.prog 11 [.int .i64 id, .agg [c0,c1].toArray, .agg [.int .i64 term, .int .i64 vote, .int .i64 0, .int .i64 0,s4,s5,s6,s7].toArray].toArray w fun e w'=> ∃b S' aT,e= .returned (.pointer (some ⟨b,0,none⟩))∧aC (bJ l) ae w S ow w' S' aT∧Wf w' S' aT∧hZ w' S' aT l (bP 0) b [cR (IG id fv fl term vote (jj 0 0 [] 0 0 es).2),cL (IG id fv fl term vote (jj 0 0 [] 0 0 es).2)] ∧w.heap.size≤b:=by
 have hkt:kr .i64 term:=by simp only[qc,aw,aN]at ht;have H6:MX=1099511627776:=rfl;exact⟨by have:IntKind.i64.min= -9223372036854775808:=rfl;omega,by have:IntKind.i64.max=9223372036854775807:=rfl;omega⟩
 have hkv:kr .i64 vote:=by simp only[qc,aw,aN]at hv;have H6:MX=1099511627776:=rfl;exact⟨by have:IntKind.i64.min= -9223372036854775808:=rfl;omega,by have:IntKind.i64.max=9223372036854775807:=rfl;omega⟩
 have Of:kr .i64 0:=by decide
 have hk1:kr .i64 1:=by decide
 have hk5:kr .i64 5:=by decide
 have hkm:kr .i64 1099511627776:=by decide
 obtain⟨_,A7,q7,h7⟩:=vn (hs.MQ 7 rfl rfl) (aa6 nh)
 have h7':s7= .slice A7 es.length q7:=h7
 subst h7'
 refine jZ Try.func11 Q2 ac4 aqc (by show 3≤110;omega) ?_
 intro a k
 have hQ:=gp (P:=Try.prog) (fn:=Try.f11) (R:=fun e w'=> ∃b S' aT,e= .returned (.pointer (some ⟨b,0,none⟩))∧aC (bJ l) ae w S ow w' S' aT∧Wf w' S' aT∧hZ w' S' aT l (bP 0) b [cR (IG id fv fl term vote (jj 0 0 [] 0 0 es).2),cL (IG id fv fl term vote (jj 0 0 [] 0 0 es).2)] ∧w.heap.size≤b)
 refine wp_seq (rg ae hQ ajw ?_)
 intro w1 e1
 refine qR (us:=[c0,c1]) k (by decide) rfl (by decide) rfl rfl (fun _=>SX.alloc _ _ _) fun a k=> ?_
 have sa:=SX.alloc ae w1 (.cells [c0,c1].toArray 31)
 refine qR (us:=[.int .i64 term, .int .i64 vote, .int .i64 0, .int .i64 0,s4,s5,s6, .slice A7 es.length q7]) k (by decide) rfl (by decide) rfl rfl (fun _=>sa.trans (SX.alloc _ _ _)) fun a k=> ?_
 have sb:=sa.trans (SX.alloc ae _ (.cells [.int .i64 term, .int .i64 vote, .int .i64 0, .int .i64 0,s4,s5,s6, .slice A7 es.length q7].toArray 65))
 refine sm k fun a k=> ?_
 refine ar ?_
 have fC:Wf w1 S ow:=⟨fun b o hs=>by rw[e1.heap];exact hw.s b o hs,fun b l hl=>by rw[e1.heap];exact hw.o b l hl,hw.d⟩
 have sA:aC (bJ l) ae w S ow w1 S ow:=aC.aG e1 _ ae S ow
 obtain⟨en,eK⟩:=aC.alloc fC (.cells [c0,c1].toArray 31)
 have n7:=dP.new fC 31 [c0,c1]
 obtain⟨eY,gw⟩:=aC.alloc eK (.cells [.int .i64 term, .int .i64 vote, .int .i64 0, .int .i64 0,s4,s5,s6, .slice A7 es.length q7].toArray 65)
 have sy:=dP.new eK 65 [.int .i64 term, .int .i64 vote, .int .i64 0, .int .i64 0,s4,s5,s6, .slice A7 es.length q7]
 have mi:=n7.aB eY (fun h=>h)
 have sC:=(sA.aF hw fC en (fun _ h=>h.elim)).aF hw eK eY (fun _ h=>h.elim)
 generalize hb4:w1.heap.size=b4 at k n7 mi
 generalize hb5:(w1.alloc (.cells [c0,c1].toArray 31)).heap.size=b5 at k sy
 generalize (w1.alloc (.cells [c0,c1].toArray 31)).alloc _=w3 at sy mi sC gw⊢
 clear en eY eK n7 sa sb sA fC e1
 have k:=k.sub (l:=[(6, .pointer none),(5, .pointer (some ⟨b5,0,none⟩)),(4, .pointer (some ⟨b4,0,none⟩)),(0, .int .i64 id)]) ⟨rfl,rfl,rfl,rfl,trivial⟩
 refine wp_seq (rg ae hQ ajv ?_)
 intro w4 e4
 have m7:Wf w4 S ow:=⟨fun b o hs=>by rw[e4.heap];exact gw.s b o hs,fun b l hl=>by rw[e4.heap];exact gw.o b l hl,gw.d⟩
 have uD:=mi.aG e4
 have od:=sy.aG e4
 have sD:=sC.aF hw gw (aC.aG e4 ae ae S ow) (fun _ h=>h.elim)
 have s0:=SX.refl ae w4
 repeat refine sm k fun a k=> ?_
 refine gU (vs:=[.int .i64 id, .int .i64 1, .int .i64 5]) k (by decide) rfl (by decide) c20.enter rfl (rk m7 Uy hk1 hk5 cU) ?_
 rintro e w5 ⟨rfl,jq,xN⟩
 refine⟨_,rfl,fun _=>jq.BS _,fun a k=> ?_⟩
 have s5:=jq.BS ae
 have sE:=sD.aF hw m7 jq (fun _ h=>h.elim)
 repeat refine sm k fun a k=> ?_
 refine lN (vs:=[c0,c1]) k rfl rfl (fun w' gX q v hv=>by rw[Nat.zero_add];exact uD.cell (fun h=>h) hv w' gX) fun a k=> ?_
 refine gU (vs:=[.agg [c0,c1].toArray]) k (by decide) rfl (by decide) c21.enter rfl (ss (dd:=[.agg [.list fv, .list fl]]) (c:=true) c21 xN rfl (fun q v d hv hd=>by
  match q,hv,hd with
  |0,hv,hd=>injection hv with hv;injection hd with hd;subst hv hd;exact hc.aB sE) (aa.2 ⟨_,_,rfl,htc,bE.2 rfl⟩) trivial (congrArg D.bool hm)) ?_
 rintro e w6 ⟨rfl,kq,qd⟩
 have s6':=s5.trans (kq.BS ae)
 refine⟨_,rfl,fun _=>s6',fun a k=> ?_⟩
 have sF:=sE.aF hw xN kq (fun _ h=>h.elim)
 refine pk k rfl rfl fun a k=> ?_
 repeat (first|refine sm k fun a k=> ?_|refine ld k (od.cell (fun h=>h) rfl) fun a k=> ?_)
 refine gU (vs:=[.int .i64 term, .int .i64 0, .int .i64 1099511627776]) k (by decide) rfl (by decide) c20.enter rfl (rk qd hkt Of hkm ht) ?_
 rintro e w7 ⟨rfl,pb,CN⟩
 have s7':=s6'.trans (pb.BS ae)
 refine⟨_,rfl,fun _=>s7',fun a k=> ?_⟩
 have sG:=sF.aF hw qd pb (fun _ h=>h.elim)
 refine pk k rfl rfl fun a k=> ?_
 repeat (first|refine sm k fun a k=> ?_|refine ld k (od.cell (fun h=>h) rfl) fun a k=> ?_)
 refine gU (vs:=[.int .i64 vote, .int .i64 0, .int .i64 1099511627776]) k (by decide) rfl (by decide) c20.enter rfl (rk CN hkv Of hkm hv) ?_
 rintro e w8 ⟨rfl,ur,FW⟩
 have s8':=s7'.trans (ur.BS ae)
 refine⟨_,rfl,fun _=>s8',fun a k=> ?_⟩
 have sH:=sG.aF hw CN ur (fun _ h=>h.elim)
 refine pk k rfl rfl fun a k=> ?_
 repeat refine sm k fun a k=> ?_
 refine ar ?_
 have YT:=(((uD.aB jq (fun h=>h)).aB kq (fun h=>h)).aB pb (fun h=>h)).aB ur (fun h=>h)
 have B2:=(((od.aB jq (fun h=>h)).aB kq (fun h=>h)).aB pb (fun h=>h)).aB ur (fun h=>h)
 have k:=k.sub (l:=[(7, .bool true),(6, .pointer none),(5, .pointer (some ⟨b5,0,none⟩)),(4, .pointer (some ⟨b4,0,none⟩)),(0, .int .i64 id)]) ⟨rfl,rfl,rfl,rfl,rfl,trivial⟩
 clear jq kq pb ur sC sD sE sF sG s0 s5 s6' s7' s8' mi uD sy od e4 gw m7 xN qd CN
 refine wp_seq (rg (fun bb=>ow bb=some l) hQ aju ?_)
 intro w9 e9
 have Y1:Wf w9 S ow:=⟨fun b o hs=>by rw[e9.heap];exact FW.s b o hs,fun b l hl=>by rw[e9.heap];exact FW.o b l hl,FW.d⟩
 have lo9:=YT.aG e9
 have SK:=B2.aG e9
 have sI:=sH.aF hw FW (aC.aG e9 ae ae S ow) (fun _ h=>h.elim)
 have s0:=SX.refl (fun bb=>ow bb=some l) w9
 have SO: ¬ow b5=some l:=by rw[SK.ow];intro h;cases h
 repeat (first|refine sm k fun a k=> ?_|refine ld k (SK.cell SO rfl) fun a k=> ?_)
 refine gU (vs:=[.int .i64 0, .int .i64 0]) k (by decide) rfl (by decide) cnw.enter rfl (RX (l:=l) Y1 Of Of ⟨by decide,by decide⟩ om) ?_
 rintro e wa ⟨bl,Sa,FL,rfl,FF,n8,Pd,OM⟩
 have sa:SX (fun bb=>ow bb=some l) w9 wa:=SX.fU (fun _ h=>h) FF
 refine⟨_,rfl,fun _=>sa,fun a k=> ?_⟩
 repeat refine sm k fun a k=> ?_
 refine ar ?_
 have loa:=lo9.aB FF (fun h=>h)
 have lxa:=SK.aB FF (fun h=>h)
 have sJ:=sI.dJ hw Y1 FF rfl
 have hca:=hc.aB sJ
 have tf:=hs.aB sJ
 have fo:=sI.size
 have k:=k.sub (l:=[(8, .pointer (some ⟨bl,0,none⟩)),(7, .bool true),(6, .pointer none),(5, .pointer (some ⟨b5,0,none⟩)),(4, .pointer (some ⟨b4,0,none⟩)),(0, .int .i64 id)]) ⟨rfl,rfl,rfl,rfl,rfl,rfl,trivial⟩
 clear sa s0 FF sI lo9 SK YT B2 e9 Y1 sH FW
 refine wp_seq (wp_seq (rg ae hQ ajt ?_))
 intro wb eb
 have Ic:Wf wb Sa FL:=⟨fun b o hs=>by rw[eb.heap];exact n8.s b o hs,fun b l hl=>by rw[eb.heap];exact n8.o b l hl,n8.d⟩
 have o9:=loa.aG eb
 have lxb:=lxa.aG eb
 have L2:aC ae ae wa Sa FL wb Sa FL:=aC.aG eb ae ae Sa FL
 have sK:=sJ.aF hw n8 L2 (fun _ h=>h.elim)
 have Cm:=Pd.aB n8 Ic L2 (fun h=>h) rfl
 have s0:=SX.refl ae wb
 repeat refine sm k fun a k=> ?_
 refine tT k (by assumption) rfl (by decide) rfl fun a k=> ?_
 repeat refine sm k fun a k=> ?_
 refine I3 k (by assumption) rfl (by decide) rfl rfl (by kernel_rfl) fun a k=> ?_
 refine pk k rfl rfl fun a k=> ?_
 repeat (first|refine sm k fun a k=> ?_|refine ld k (lxb.cell (fun h=>h) rfl) fun a k=> ?_)
 refine cm (c:=false) k rfl rfl rfl fun a k=> ?_
 repeat refine sm k fun a k=> ?_
 iterate 6 refine PB k (by assumption) rfl rfl (by decide) fun a k=> ?_
 repeat refine sm k fun a k=> ?_
 refine pk k rfl rfl fun a k=> ?_
 refine pk k rfl rfl fun a k=> ?_
 refine ar (aR k rfl (wp_skip ?_))
 have k:=k.sub (l:=[(8, .pointer (some ⟨bl,0,none⟩)),(6, .pointer none),(5, .pointer (some ⟨b5,0,none⟩)),(4, .pointer (some ⟨b4,0,none⟩)),(0, .int .i64 id)]) ⟨rfl,rfl,rfl,rfl,rfl,trivial⟩
 have Io:=hc.aB sK
 have SU:=hs.aB sK
 have F3:bj wb Sa (.slice A7 es.length q7) (.list es):=SU.MQ 7 rfl rfl
 clear L2 s0 lxa loa eb Pd n8 hca tf
 refine wp_seq (wp_seq (rg (fun bb=>FL bb=some l) hQ ajs ?_))
 intro wc ec
 have L7:Wf wc Sa FL:=⟨fun b o hs=>by rw[ec.heap];exact Ic.s b o hs,fun b l hl=>by rw[ec.heap];exact Ic.o b l hl,Ic.d⟩
 have loc:=o9.aG ec
 have lxc:=lxb.aG ec
 have Tk:aC ae ae wb Sa FL wc Sa FL:=aC.aG ec ae ae Sa FL
 have sL:=sK.aF hw Ic Tk (fun _ h=>h.elim)
 have aaI:=Cm.aB Ic L7 Tk (fun h=>h) rfl
 have s0:=SX.refl (fun bb=>FL bb=some l) wc
 have SO: ¬FL b5=some l:=by rw[lxc.ow];intro h;cases h
 repeat (first|refine sm k fun a k=> ?_|refine ld k (lxc.cell SO rfl) fun a k=> ?_)
 refine gU (vs:=[.pointer (some ⟨bl,0,none⟩), .int .i64 0, .int .i64 0, .slice A7 es.length q7]) k (by decide) rfl (by decide) c23.enter rfl (HW (i:=0) (t:=0) (le:=[]) (es:=es) aaI L7 om (aa.2 ⟨_,_,rfl,⟨0,rfl,Of⟩,aa.2 ⟨_,_,rfl,⟨0,rfl,Of⟩,aa.2 ⟨_,_,rfl,aa6 nh,aa.2 ⟨_,_,rfl,⟨0,rfl,Of⟩,aa.2 ⟨_,_,rfl,⟨0,rfl,Of⟩,aa.2 ⟨_,_,rfl,aD.2 ⟨[],rfl,db _,fun _ h=>by cases h⟩,bE.2 rfl⟩⟩⟩⟩⟩⟩) (F3.aB Tk) (by decide) (by decide) pe) ?_
 rintro e wd ⟨Sd,H0,rfl,YR,L6,aaH⟩
 have sd:SX (fun bb=>FL bb=some l) wc wd:=SX.fU (fun _ h=>h) YR
 refine⟨_,rfl,fun _=>sd,fun a k=> ?_⟩
 rw[IT]at k
 refine sm k fun a k=> ?_
 refine Eg (j:=0) k (by assumption) rfl (by decide) rfl rfl fun a k=> ?_
 refine Eg (j:=1) k (by assumption) rfl (by decide) rfl rfl fun a k=> ?_
 repeat refine sm k fun a k=> ?_
 refine ar ?_
 have lod:=loc.aB YR (fun h=>h)
 have lxd:=lxc.aB YR (fun h=>h)
 have sM:=sL.dJ hw L7 YR rfl
 have k:=k.sub (l:=[(10, .bool true),(8, .pointer (some ⟨bl,0,none⟩)),(6, .pointer none),(5, .pointer (some ⟨b5,0,none⟩)),(4, .pointer (some ⟨b4,0,none⟩)),(0, .int .i64 id)]) ⟨rfl,rfl,rfl,rfl,rfl,rfl,trivial⟩
 generalize hle:(jj 0 0 [] 0 0 es).2=le at aaH aL ahJ hQ⊢
 clear YR s0 sd SO aaI Tk sL loc lxc L7 ec Cm Ic o9 lxb sK Io SU F3
 refine wp_seq (rg ae hQ ajr ?_)
 intro we ee
 have hwe:Wf we Sd H0:=⟨fun b o hs=>by rw[ee.heap];exact L6.s b o hs,fun b l hl=>by rw[ee.heap];exact L6.o b l hl,L6.d⟩
 have loe:=lod.aG ee
 have lxe:=lxd.aG ee
 have Ot:aC ae ae wd Sd H0 we Sd H0:=aC.aG ee ae ae Sd H0
 have sN:=sM.aF hw L6 Ot (fun _ h=>h.elim)
 have ahD:=aaH.aB L6 hwe Ot (fun h=>h) rfl
 have s0:=SX.refl ae we
 repeat refine sm k fun a k=> ?_
 refine tT k (by assumption) rfl (by decide) rfl fun a k=> ?_
 repeat (first|refine sm k fun a k=> ?_|refine ld k (lxe.cell (fun h=>h) rfl) fun a k=> ?_)
 refine gU (vs:=[.slice A7 es.length q7]) k (by decide) rfl (by decide) c24.enter rfl (ss (dd:=[.list es]) (c:=true) c24 hwe rfl (fun q v d hv hd=>by
  match q,hv,hd with
  |0,hv,hd=>injection hv with hv;injection hd with hd;subst hv hd;exact(hs.aB sN).MQ 7 rfl rfl) (aa.2 ⟨_,_,rfl,aa6 nh,bE.2 rfl⟩) trivial (congrArg D.bool F0)) ?_
 rintro e wf ⟨rfl,L1,jG⟩
 have sf:=L1.BS ae
 refine⟨_,rfl,fun _=>sf,fun a k=> ?_⟩
 refine tT k (by assumption) rfl (by decide) rfl fun a k=> ?_
 refine pk k rfl rfl fun a k=> ?_
 refine ar (aR k rfl (wp_skip ?_))
 have lof:=loe.aB L1 (fun h=>h)
 have lxf:=lxe.aB L1 (fun h=>h)
 have ahC:=ahD.aB hwe jG L1 (fun h=>h) rfl
 have sO:=sN.aF hw hwe L1 (fun _ h=>h.elim)
 have k:=k.sub (l:=[(8, .pointer (some ⟨bl,0,none⟩)),(6, .pointer none),(5, .pointer (some ⟨b5,0,none⟩)),(4, .pointer (some ⟨b4,0,none⟩)),(0, .int .i64 id)]) ⟨rfl,rfl,rfl,rfl,rfl,trivial⟩
 clear L1 sf ahD s0 sN Ot loe lxe hwe ee lod lxd sM L6 aaH
 refine wp_seq (wp_seq (rg ae hQ ajq ?_))
 intro wg eg
 have Y0:Wf wg Sd H0:=⟨fun b o hs=>by rw[eg.heap];exact jG.s b o hs,fun b l hl=>by rw[eg.heap];exact jG.o b l hl,jG.d⟩
 have stg:aC ae ae wf Sd H0 wg Sd H0:=aC.aG eg ae ae Sd H0
 have sP:=sO.aF hw jG stg (fun _ h=>h.elim)
 have aaG:=ahC.aB jG Y0 stg (fun h=>h) rfl
 have s0:=SX.refl ae wg
 repeat refine sm k fun a k=> ?_
 refine gU (vs:=[.pointer (some ⟨bl,0,none⟩)]) k (by decide) rfl (by decide) c25.enter rfl (NF aaG Y0 ahJ) ?_
 rintro e wh ⟨rfl,sth,YZ⟩
 have sh:=sth.BS ae
 refine⟨_,rfl,fun _=>sh,fun a k=> ?_⟩
 refine sm k fun a k=> ?_
 refine Eg (j:=0) k (by assumption) rfl (by decide) rfl rfl fun a k=> ?_
 refine Eg (j:=1) k (by assumption) rfl (by decide) rfl rfl fun a k=> ?_
 repeat refine sm k fun a k=> ?_
 refine ar ?_
 have loh:=(lof.aG eg).aB sth (fun h=>h)
 have lxh:=(lxf.aG eg).aB sth (fun h=>h)
 have ahB:=aaG.aB Y0 YZ sth (fun h=>h) rfl
 have sQ:=sP.aF hw Y0 sth (fun _ h=>h.elim)
 have k:=k.sub (l:=[(12, .int .i64 (dm 0 0 le).2),(8, .pointer (some ⟨bl,0,none⟩)),(6, .pointer none),(5, .pointer (some ⟨b5,0,none⟩)),(4, .pointer (some ⟨b4,0,none⟩)),(0, .int .i64 id)]) ⟨rfl,rfl,rfl,rfl,rfl,rfl,trivial⟩
 clear sth sh aaG s0 sP stg Y0 eg lof lxf sO jG ahC
 refine wp_seq (rg ae hQ ajp ?_)
 intro wi ei
 have Wb:Wf wi Sd H0:=⟨fun b o hs=>by rw[ei.heap];exact YZ.s b o hs,fun b l hl=>by rw[ei.heap];exact YZ.o b l hl,YZ.d⟩
 have loi:=loh.aG ei
 have lxi:=lxh.aG ei
 have sti:aC ae ae wh Sd H0 wi Sd H0:=aC.aG ei ae ae Sd H0
 have sR:=sQ.aF hw YZ sti (fun _ h=>h.elim)
 have aqI:=ahB.aB YZ Wb sti (fun h=>h) rfl
 have s0:=SX.refl ae wi
 repeat (first|refine sm k fun a k=> ?_|refine ld k (lxi.cell (fun h=>h) rfl) fun a k=> ?_)
 refine cm (c:=false) k rfl rfl (Rw (by show¬eE 0 le>term;omega)) fun a k=> ?_
 refine ar (aR k rfl (wp_skip ?_))
 have k:=k.sub (l:=[(8, .pointer (some ⟨bl,0,none⟩)),(5, .pointer (some ⟨b5,0,none⟩)),(4, .pointer (some ⟨b4,0,none⟩)),(0, .int .i64 id)]) ⟨rfl,rfl,rfl,rfl,trivial⟩
 clear s0 sti sQ ahB lxh loh YZ ei
 refine wp_seq (aiu (n0:=10) ae mix (by intro c a d v w h;exact hQ c a d v w h) abX (by kernel_rfl) ?_)
 intro wj ej
 have hwj:Wf wj Sd H0:=⟨fun b o hs=>by rw[ej.heap];exact Wb.s b o hs,fun b l hl=>by rw[ej.heap];exact Wb.o b l hl,Wb.d⟩
 have loj:=loi.aG ej
 have V6:=lxi.aG ej
 have stj:aC ae ae wi Sd H0 wj Sd H0:=aC.aG ej ae ae Sd H0
 have sS:=sR.aF hw Wb stj (fun _ h=>h.elim)
 have ku:=aqI.aB Wb hwj stj (fun h=>h) rfl
 have s0:=SX.refl ae wj
 repeat refine sm k fun a k=> ?_
 refine lN (vs:=[c0,c1]) k rfl rfl (fun w' gX q v hv=>by rw[Nat.zero_add];exact loj.cell (fun h=>h) hv w' gX) fun a k=> ?_
 repeat refine sm k fun a k=> ?_
 refine lN (vs:=[.int .i64 term, .int .i64 vote]) k rfl rfl (fun w' gX q v hv=>by
  match q,hv with
  |0,hv=>injection hv with hv;subst hv;exact V6.cell (fun h=>h) (j:=0) rfl w' gX
  |1,hv=>injection hv with hv;subst hv;exact V6.cell (fun h=>h) (j:=1) rfl w' gX) fun a k=> ?_
 repeat refine sm k fun a k=> ?_
 refine lN (vs:=[.int .i64 0, .int .i64 0,s4,s5,s6]) k rfl rfl (fun w' gX q v hv=>by
  match q,hv with
  |0,hv=>injection hv with hv;subst hv;exact V6.cell (fun h=>h) (j:=2) rfl w' gX
  |1,hv=>injection hv with hv;subst hv;exact V6.cell (fun h=>h) (j:=3) rfl w' gX
  |2,hv=>injection hv with hv;subst hv;exact V6.cell (fun h=>h) (j:=4) rfl w' gX
  |3,hv=>injection hv with hv;subst hv;exact V6.cell (fun h=>h) (j:=5) rfl w' gX
  |4,hv=>injection hv with hv;subst hv;exact V6.cell (fun h=>h) (j:=6) rfl w' gX) fun a k=> ?_
 repeat (first|refine sm k fun a k=> ?_|refine ld k (V6.cell (fun h=>h) rfl) fun a k=> ?_)
 refine gU (vs:=[.agg [c0,c1].toArray]) k (by decide) rfl (by decide) c26.enter rfl (De (dd:=[.agg [.list fv, .list fl]]) c26 rfl hwj rfl (fun q v d hv hd=>by
  match q,hv,hd with
  |0,hv,hd=>injection hv with hv;injection hd with hd;subst hv hd;exact hc.aB sS) (aa.2 ⟨_,_,rfl,htc,bE.2 rfl⟩) trivial) ?_
 rintro e wk ⟨vc,Sk,τk,rfl,dE,hwk,aj8⟩
 obtain⟨uc,dc,rfl,Zi,aqr,aws,m8⟩:=LY rfl aj8
 have sk:=dE.BS ae
 refine⟨_,rfl,fun _=>sk,fun a k=> ?_⟩
 have sT:=sS.aF hw hwj dE (fun _ h=>h.elim)
 refine gU (vs:=[.agg [.int .i64 0, .int .i64 0,s4,s5,s6].toArray]) k (by decide) rfl (by decide) c27.enter rfl (De (dd:=[.agg [.int .i64 0, .int .i64 0, .list [], .list [], .list []]]) c27 rfl hwk rfl (fun q v d hv hd=>by
  match q,hv,hd with
  |0,hv,hd=>
   injection hv with hv;injection hd with hd;subst hv hd
   exact .agg _ _ rfl (fun q u y hu hy=>by
    match q,hu,hy with
    |0,hu,hy=>injection hu with hu;injection hy with hy;subst hu hy;exact .int _ _
    |1,hu,hy=>injection hu with hu;injection hy with hy;subst hu hy;exact .int _ _
    |2,hu,hy=>injection hu with hu;injection hy with hy;subst hu hy;exact(hs.aB sT).MQ 4 rfl rfl
    |3,hu,hy=>injection hu with hu;injection hy with hy;subst hu hy;exact(hs.aB sT).MQ 5 rfl rfl
    |4,hu,hy=>injection hu with hu;injection hy with hy;subst hu hy;exact(hs.aB sT).MQ 6 rfl rfl)) (aa.2 ⟨_,_,rfl,M9,bE.2 rfl⟩) trivial) ?_
 rintro e wl ⟨vs,Sl,τl,rfl,stl,SP,aj7⟩
 obtain⟨us,ds,rfl,oa,aav,awr,gS⟩:=LY rfl aj7
 have sl:=sk.trans (stl.BS ae)
 refine⟨_,rfl,fun _=>sl,fun a k=> ?_⟩
 have sU:=sT.aF hw hwk stl (fun _ h=>h.elim)
 have aq8:dc=[.list fv, .list fl] :=by
  have e:aK 26 [.agg [.list fv, .list fl]] = .agg [.list fv, .list fl] :=rfl
  rw[e]at Zi;injection Zi with Zi;exact Zi.symm
 have Uz:ds=[.int .i64 0, .int .i64 0, .list [], .list [], .list []] :=by
  have e:aK 27 [.agg [.int .i64 0, .int .i64 0, .list [], .list [], .list []]] = .agg [.int .i64 0, .int .i64 0, .list [], .list [], .list []] :=rfl
  rw[e]at oa;injection oa with oa;exact oa.symm
 subst aq8 Uz
 have aj5:uc.length=2:=aqr
 have aj4:us.length=5:=aav
 obtain⟨k0,k1,BV⟩: ∃k0 k1,uc=[k0,k1] :=by
  match uc,aj5 with
  | [k0,k1],_=>exact⟨k0,k1,rfl⟩
 obtain⟨m0,m1,m2,m3,m4,L9⟩: ∃m0 m1 m2 m3 m4,us=[m0,m1,m2,m3,m4] :=by
  match us,aj4 with
  | [m0,m1,m2,m3,m4],_=>exact⟨m0,m1,m2,m3,m4,rfl⟩
 rw[BV]at k m8
 rw[L9]at k gS
 have q0:=m8 0 _ _ _ rfl rfl rfl
 have q1:=m8 1 _ _ _ rfl rfl rfl
 have z0:=(gS 0 _ _ _ rfl rfl rfl).1.bD
 have z1:=(gS 1 _ _ _ rfl rfl rfl).1.bD
 have z2:=gS 2 _ _ _ rfl rfl rfl
 have z3:=gS 3 _ _ _ rfl rfl rfl
 have z4:=gS 4 _ _ _ rfl rfl rfl
 rw[z0,z1]at k
 refine lh (ps:=[(1, .int .i64 id),(2, .agg [k0,k1].toArray),(3, .agg [.int .i64 term, .int .i64 vote].toArray),(4, .pointer (some ⟨bl,0,none⟩)),(5, .agg [.int .i64 0, .int .i64 0,m2,m3,m4].toArray),(6, .int .i64 0)]) (vs:=Mr id term vote bl k0 k1 m2 m3 m4) k (by assumption) rfl (by decide) rfl (by kernel_rfl) fun a k=> ?_
 refine qR (us:=Mr id term vote bl k0 k1 m2 m3 m4) k (by decide) rfl (by decide) rfl rfl (fun _=>sl.trans (SX.alloc _ _ _)) fun a k=> ?_
 have sn:=sl.trans (SX.alloc ae wl (.cells (Mr id term vote bl k0 k1 m2 m3 m4).toArray 108))
 refine sm k fun a k=> ?_
 refine ar ?_
 obtain⟨V1,hwm⟩:=aC.alloc SP (.cells (Mr id term vote bl k0 k1 m2 m3 m4).toArray 108)
 have lom:=dP.new SP 108 (Mr id term vote bl k0 k1 m2 m3 m4)
 have aqH:=(ku.aB hwj hwk dE (fun h=>h) rfl).aB hwk SP stl (fun h=>h) rfl
 have aqG:=aqH.aB SP hwm V1 (fun h=>h) rfl
 have sV:=sU.aF hw SP V1 (fun _ h=>h.elim)
 have Zj:w.heap.size≤wl.heap.size:=sU.size
 generalize hbN:wl.heap.size=bN at k lom Zj
 have fo:=V1.size
 obtain⟨aT,how,gX,ov⟩:=Vq (s:=IG id fv fl term vote le) aqG hwm lom om rfl rfl (Ht (Kf (bl:=bl) Uy hkt hkv ⟨(q0.1.aB stl).aB V1,q0.2⟩ ⟨(q1.1.aB stl).aB V1,q1.2⟩ ⟨z2.1.aB V1,z2.2⟩ ⟨z3.1.aB V1,z3.2⟩ ⟨z4.1.aB V1,z4.2⟩))
 have stn:aC (bJ l) ae w S ow _ Sl aT:=⟨sV.size,sV.os,sV.tape,sV.output,sV.B0,sV.free,sV.gV,sV.cell,fun b' l' h1 h2=>by
   rw[how]
   have h3:=sV.keep b' l' h1 h2
   split
   ·rename_i e
    have:=hw.o b' l' h1
    omega
   ·exact h3,sV.new,fun b' h1 h2=>by
   rw[how,if_neg (by omega)]
   exact sV.tu b' h1 h2,fun b' l' h1=>by
   rw[how]at h1
   split at h1
   ·injection h1 with h1;exact .inr h1.symm
   ·exact sV.fU b' l' h1⟩
 exact wp_ret (oQ ais k rfl ⟨bN,Sl,aT,rfl,stn,gX,ov,Zj⟩).1
end
def Ir(n:Nat):List D:=(List.range n).map fun i=> .int .i64 ((i+1:Nat):Int)
theorem Si(n:Nat):Ir (n+1)=Ir n++[.int .i64 ((n+1:Nat):Int)] :=by unfold Ir;rw[List.range_succ,List.map_append];rfl
theorem LH(n:Nat):(Ir n).length=n:=by unfold Ir;simp
def Ah:D:= .agg [.int .i64 0, .int .i64 0, .int .i64 0, .int .i64 0, .list [], .list [], .list [], .list []]
def pg(n i:Nat):RS:=IG ((i+1:Nat):Int) (Ir n) [] 0 0 []
def gB(n j:Nat):GS:=⟨Ir n,[],(List.range j).map (pg n),List.replicate j Ah,[],[],[],List.replicate j (.int .i64 0),[],List.replicate j [],false⟩
theorem Vx(n j:Nat):gB n (j+1)={gB n j with fZ:=(gB n j).fZ++[pg n j],saved:=(gB n j).saved++[Ah],aE:=(gB n j).aE++[[]],bW:=(gB n j).bW++[.int .i64 0]}:=by
 unfold gB
 simp only[List.range_succ,List.map_append,List.map_cons,List.map_nil,List.replicate_succ']
def eu:Value:= .slice none 0 0
def R0(v:Value):GR:=⟨v,eu,eu,eu,eu,eu,eu,eu,eu,eu,[],[],[],[]⟩
theorem ua:Has jP Ah:=
 cu.2 ⟨_,rfl,aa.2 ⟨_,_,rfl,⟨0,rfl,by decide⟩,aa.2 ⟨_,_,rfl,⟨0,rfl,by decide⟩,aa.2 ⟨_,_,rfl,⟨0,rfl,by decide⟩,aa.2 ⟨_,_,rfl,⟨0,rfl,by decide⟩,aa.2 ⟨_,_,rfl,aD.2 ⟨[],rfl,db _,fun _ h=>by cases h⟩,aa.2 ⟨_,_,rfl,aD.2 ⟨[],rfl,db _,fun _ h=>by cases h⟩,aa.2 ⟨_,_,rfl,aD.2 ⟨[],rfl,db _,fun _ h=>by cases h⟩,aa.2 ⟨_,_,rfl,aD.2 ⟨[],rfl,db _,fun _ h=>by cases h⟩,bE.2 rfl⟩⟩⟩⟩⟩⟩⟩⟩⟩
section
variable{w w':World}{S S':aO}{ow aT:Ow}{b i n:Nat}{vs:List Value}{R:GR}{g:GS}{X:Nat→Prop}
theorem GM.pg{j:Nat}(h:GM w S ow b vs R g)(st:aC (bJ (1000+j)) X w S ow w' S' aT)(hw:Wf w' S' aT)(hj:g.fZ.length≤j)(hv:g.aE.length≤5):GM w' S' aT b vs R g:=
 ⟨hw,h.obj.aB st (by simp only[bJ];omega),h.fv.aB st,h.fl.aB st,h.arr.aB h.wf st (by simp only[bJ];omega),h.yI,fun i s hi=>let ⟨bs,h1,h2,h3⟩:=h.fZ i s hi;⟨bs,h1,h2.aB h.wf hw st (by have:=(ai.1 hi).1;simp only[bJ];omega) rfl,h3⟩,h.saved.aB h.wf st (by simp only[bJ];omega),h.gW.aB h.wf st (by simp only[bJ];omega),h.told.aB h.wf st (by simp only[bJ];omega),h.aI.aB h.wf st (by simp only[bJ];omega),h.bW.aB h.wf st (by simp only[bJ];omega),h.read.aB h.wf st (by simp only[bJ];omega),h.CK.aB h.wf st (by simp only[bJ];omega),h.zf,fun i l hi=>let ⟨v,h1,h2⟩:=h.pf i l hi;⟨v,h1,h2.aB h.wf st (by have:=(ai.1 hi).1;simp only[bJ];omega)⟩⟩
theorem GM.ac8{bs:Nat}{s:RS}(h:GM w S ow b vs R g)(ho:hZ w S ow (1000+g.fZ.length) (bP 0) bs [cR s,cL s]):GM w S ow b vs {R with lb:=R.lb++[bs]} {g with fZ:=g.fZ++[s]}:=
 ⟨h.wf,h.obj,h.fv,h.fl,h.arr,by simp[h.yI],fun i s' hi=>by
  simp only at hi⊢
  rw[List.getElem?_append]at hi
  split at hi
  ·rename_i aL
   obtain⟨b2,h1,h2,h3⟩:=h.fZ i s' hi
   exact⟨b2,by rw[List.getElem?_append,if_pos (by rw[h.yI];exact aL)];exact h1,h2,h3⟩
  ·have hz:i=g.fZ.length:=by
    have:=(ai.1 hi).1
    simp at this;omega
   subst hz
   simp at hi
   subst hi
   exact⟨bs,by rw[List.getElem?_append,if_neg (by rw[h.yI];omega),h.yI];simp,ho,j5 ho⟩,h.saved,h.gW,h.told,h.aI,h.bW,h.read,h.CK,h.zf,h.pf⟩
theorem GM.VY(h:GM w S ow b vs R g)(hv:g.aE.length≤5):GM w S ow b vs {R with vv:=R.vv++[eu]} {g with aE:=g.aE++[[]]}:=
 ⟨h.wf,h.obj,h.fv,h.fl,h.arr,h.yI,h.fZ,h.saved,h.gW,h.told,h.aI,h.bW,h.read,h.CK,by simp[h.zf],fun i l hi=>by
  simp only at hi⊢
  rw[List.getElem?_append]at hi
  split at hi
  ·rename_i aL
   obtain⟨v,h1,h2⟩:=h.pf i l hi
   exact⟨v,by rw[List.getElem?_append,if_pos (by rw[h.zf];exact aL)];exact h1,h2⟩
  ·have hz:i=g.aE.length:=by
    have:=(ai.1 hi).1
    simp at this;omega
   subst hz
   simp at hi
   subst hi
   exact⟨eu,by rw[List.getElem?_append,if_neg (by rw[h.zf];omega),h.zf];simp,bU.nil (by decide) (by omega)⟩⟩
theorem GM.begin{v:Value}{xs:List D}(hw:Wf w S ow)(ob:wZ w ow 0 b 59 ((R0 v).cells false))(hv:bj w S v (.list xs)):GM w S ow b ((R0 v).cells false) (R0 v) ⟨xs,[],[],[],[],[],[],[],[],[],false⟩:=
 ⟨hw,ob,hv, .nil _ _,iJ.nil (by omega),rfl,fun i s h=>by simp at h,bU.nil (by decide) (by omega),bU.nil (by decide) (by omega),bU.nil (by decide) (by omega),bU.nil (by decide) (by omega),bU.nil (by decide) (by omega),bU.nil (by decide) (by omega),iJ.nil (by omega),rfl,fun i l h=>by simp at h⟩
end
def mA(w:World)(S:aO)(n:Nat):Exit→Act→World→Prop:=bodyPost Try.prog Try.f9 (fun e w'=> ∃b S' aT,e= .returned (aM b)∧aC LG ae w S (fun _=>none) w' S' aT∧th w' S' aT b (gB n n))
theorem HI{n:Nat}(h:n≤10):lP jP n:=by
 have hb:jP.bytes≤1000:=by decide
 refine⟨by simp only[maxLen];omega,?_⟩
 have:n*jP.bytes≤10*1000:=Nat.mul_le_mul h hb
 omega
theorem Hk{n:Nat}(h:n≤5):Has mK (.agg [.list (Ir n), .list []]):=
 cu.2 ⟨_,rfl,aa.2 ⟨_,_,rfl,aD.2 ⟨_,rfl,se (by rw[LH];omega),fun x hx=>by
  unfold Ir at hx
  obtain⟨i,hi,rfl⟩:=List.mem_map.1 hx
  have:=List.mem_range.1 hi
  exact⟨_,rfl,⟨by have:IntKind.i64.min= -9223372036854775808:=rfl;omega,by have:IntKind.i64.max=9223372036854775807:=rfl;omega⟩⟩⟩,aa.2 ⟨_,_,rfl,aD.2 ⟨[],rfl,db _,fun _ h=>by cases h⟩,bE.2 rfl⟩⟩⟩
theorem G9{n:Nat}(h1:1≤n)(h5:n≤5):dL (.agg [.list (Ir n), .list []])=true:=by
 obtain rfl|rfl|rfl|rfl|rfl:n=1∨n=2∨n=3∨n=4∨n=5:=by omega
 all_goals decide
section
variable{w:World}{S:aO}{ow:Ow}{b j n:Nat}{R:GR}{Q:Exit→Act→World→Prop}{a:Act}
noncomputable def E2:Code:= .seq (.region 13 PL false) (.seq (.region 14 PK true) (.seq (.region 15 PJ false) (.region 16 PI false)))
def zV:List Value:=[.int .i64 0, .int .i64 0, .int .i64 0, .int .i64 0,eu,eu,eu,eu]
theorem N0(hQ:QP Q)(gm:GM w S ow b (R.cells false) R (gB n j))(kV:R.la=R.lb)(lL:R.va=R.vv)(hj:j<n)(hn:n≤5)(k:Kn 97 a [(8, .int .i64 ((j+1:Nat):Int)),(5,aM b),(0, .int .i64 n)])
  (fO: ∀a W S' aT R',Kn 97 a [(8, .int .i64 ((j+1:Nat):Int)),(5,aM b),(0, .int .i64 n)] →aC LG ae w S ow W S' aT→GM W S' aT b (R'.cells false) R' (gB n (j+1))→R'.la=R'.lb→R'.va=R'.vv→Q .normal a W):E2.wp Try.prog Q a w:=by
 unfold E2
 have jG:=gm.wf
 have F1:(gB n j).fZ.length=j:=by unfold gB;simp
 have tE:(gB n j).aE.length=j:=by unfold gB;simp
 refine wp_seq (rg (fun bb=>ow bb=some 10) hQ aiB ?_)
 intro w1 e1
 have dB:=gm.aG e1
 have gC:=(aC.refl LG ae w S ow).aF jG jG (aC.aG e1 ae ae S ow) (fun _ h=>h.elim)
 have s0:=SX.refl (fun bb=>ow bb=some 10) w1
 have zh: ¬ow b=some 10:=by rw[dB.obj.ow];decide
 repeat (first|refine sm k fun a k=> ?_|refine ld k (dB.cell zh rfl) fun a k=> ?_)
 refine lh (ps:=[]) (vs:=zV) k (by assumption) rfl (by decide) rfl (by kernel_rfl) fun a k=> ?_
 refine nt (kk:=8) (T:=65) k (by decide) rfl (by decide) rfl (by kernel_rfl) rfl (fun _=>SX.alloc _ _ _) fun a k=> ?_
 obtain⟨tf,n8⟩:=aC.alloc dB.wf (.cells (Value.agg zV.toArray).cells 65)
 have KN:=dB.aB tf n8
 refine uG k (by decide) rfl (by decide) fun ty pos af=> ?_
 obtain⟨v',w',cM,aT,Gj,gw,Zd⟩:=KN.saved.MP (P:=Try.prog) (tt:=55) (by kernel_rfl) rfl n8 ty w1.heap.size (d:=Ah) ua (us:=zV) rfl (heap_alloc_new w1 _) (by
  intro q u c hu hc
  match q,hu,hc with
  |0,hu,hc=>injection hu with hu;injection hc with hc;subst hu hc;exact .int _ _
  |1,hu,hc=>injection hu with hu;injection hc with hc;subst hu hc;exact .int _ _
  |2,hu,hc=>injection hu with hu;injection hc with hc;subst hu hc;exact .int _ _
  |3,hu,hc=>injection hu with hu;injection hc with hc;subst hu hc;exact .int _ _
  |4,hu,hc=>injection hu with hu;injection hc with hc;subst hu hc;exact .nil _ _
  |5,hu,hc=>injection hu with hu;injection hc with hc;subst hu hc;exact .nil _ _
  |6,hu,hc=>injection hu with hu;injection hc with hc;subst hu hc;exact .nil _ _
  |7,hu,hc=>injection hu with hu;injection hc with hc;subst hu hc;exact .nil _ _) (HI (by unfold gB;simp;omega))
 have s1:SX (fun bb=>ow bb=some 10) w1 w':=(SX.alloc _ _ _).trans (SX.fU (fun _ h=>h) Gj)
 refine⟨v',w',iX (k.op rfl) (k.op rfl) cM,fun _=>s1,fun a k=> ?_⟩
 have ft:=KN.C9 Gj gw Zd
 obtain⟨Av,cv,ng⟩:=Zd.slice
 repeat refine sm k fun a k=> ?_
 refine iN (cur:=R.cells false) k (by decide) rfl (by kernel_rfl) rfl rfl (by rw[ng];rfl) ft.obj.heap (by show 3<11;omega) (by rw[ng];rfl) (fun h=>absurd rfl h) fun a k=> ?_
 refine ar ?_
 obtain⟨jr,m7,Tm⟩:=ft.obj.set gw (us:=(R.cells false).set (0+3) v')
 have j8:=ft.setObj jr m7 Tm
 have sw:=((gC.aF jG dB.wf tf (fun _ h=>h.elim)).dJ jG n8 Gj (.inl (by decide))).dJ jG gw jr (.inl (by decide))
 have k:=k.sub (l:=[(8, .int .i64 ((j+1:Nat):Int)),(5,aM b),(0, .int .i64 n)]) ⟨rfl,rfl,rfl,trivial⟩
 generalize hR1:({R with saved:=v'}:GR)=R1 at j8
 have Pj:R1.la=R1.lb:=by rw[←hR1];exact kV
 have Ul:R1.va=R1.vv:=by rw[←hR1];exact lL
 have qf:(R.cells false).set (0+3) v'=R1.cells false:=by rw[←hR1];rfl
 rw[qf]at j8
 clear jr Gj tf gC ft KN dB s1 s0 e1 Zd cM hR1 gm Tm
 rw[qf]at sw m7⊢
 generalize w'.setRow _ _=w4 at j8 sw m7⊢
 refine wp_seq (jJ (n0:=11) (fun bb=>aT bb=some (1000+j)∨aT bb=some 1) mix (fun c a d v w h=>hQ c a d v w h) aiA (fun _=>by kernel_rfl) ?_)
 intro w5 e5
 have j7:=j8.aG e5
 have jq:=sw.aF jG m7 (aC.aG e5 ae ae S aT) (fun _ h=>h.elim)
 have s0:=SX.refl (fun bb=>aT bb=some (1000+j)∨aT bb=some 1) w5
 have zh: ¬(aT b=some (1000+j)∨aT b=some 1):=by
  rw[j7.obj.ow]
  rintro(h|h)<;>injection h with h<;>omega
 repeat refine sm k fun a k=> ?_
 refine ld k (j7.cell zh (j:=2) rfl) fun a k=> ?_
 repeat refine sm k fun a k=> ?_
 refine lN (vs:=[R1.fv,R1.fl]) k rfl rfl (fun w' gX q v hv=>by
  match q,hv with
  |0,hv=>injection hv with hv;subst hv;exact j7.cell zh (j:=0) rfl w' gX
  |1,hv=>injection hv with hv;subst hv;exact j7.cell zh (j:=1) rfl w' gX) fun a k=> ?_
 refine lh (ps:=[]) (vs:=zV) k (by assumption) rfl (by decide) rfl (by kernel_rfl) fun a k=> ?_
 have aq0:qc ((j+1:Nat):Int) 1 5=true:=by simp only[qc,aw,aN];omega
 have Uy:kr .i64 ((j+1:Nat):Int):=⟨by have:IntKind.i64.min= -9223372036854775808:=rfl;omega,by have:IntKind.i64.max=9223372036854775807:=rfl;omega⟩
 have Zk:(jj 0 0 [] 0 0 []).2=[] :=rfl
 have fM:=Di (l:=1000+j) (id:=((j+1:Nat):Int)) (term:=0) (vote:=0) (fv:=Ir n) (fl:=[]) (es:=[]) (c0:=R1.fv) (c1:=R1.fl) (s4:=eu) (s5:=eu) (s6:=eu) (s7:=eu) j7.wf (by omega) aq0 Uy
  (.agg [R1.fv,R1.fl] _ rfl (fun q u y hu hy=>by
   match q,hu,hy with
   |0,hu,hy=>injection hu with hu;injection hy with hy;subst hu hy;exact j7.fv
   |1,hu,hy=>injection hu with hu;injection hy with hy;subst hu hy;exact j7.fl)) (Hk hn) (G9 (by omega) hn)
  (.agg [.int .i64 0, .int .i64 0, .int .i64 0, .int .i64 0,eu,eu,eu,eu] _ rfl (fun q u c hu hc=>by
   match q,hu,hc with
   |0,hu,hc=>injection hu with hu;injection hc with hc;subst hu hc;exact .int _ _
   |1,hu,hc=>injection hu with hu;injection hc with hc;subst hu hc;exact .int _ _
   |2,hu,hc=>injection hu with hu;injection hc with hc;subst hu hc;exact .int _ _
   |3,hu,hc=>injection hu with hu;injection hc with hc;subst hu hc;exact .int _ _
   |4,hu,hc=>injection hu with hu;injection hc with hc;subst hu hc;exact .nil _ _
   |5,hu,hc=>injection hu with hu;injection hc with hc;subst hu hc;exact .nil _ _
   |6,hu,hc=>injection hu with hu;injection hc with hc;subst hu hc;exact .nil _ _
   |7,hu,hc=>injection hu with hu;injection hc with hc;subst hu hc;exact .nil _ _)) ua (by decide) (by decide) (by decide) (by decide) (by rw[Zk];decide) (by decide) (by rw[Zk];decide)
 rw[Zk]at fM
 refine gU (vs:=[.int .i64 ((j+1:Nat):Int), .agg [R1.fv,R1.fl].toArray, .agg zV.toArray]) k (by decide) rfl (by decide) LN rfl fM ?_
 rintro e w6 ⟨bs,S6,ow6,rfl,kq,qd,Mz,Ip⟩
 have s6:SX (fun bb=>aT bb=some (1000+j)∨aT bb=some 1) w5 w6:=SX.fU (fun _ h=> .inl h) kq
 refine⟨_,rfl,fun _=>s6,fun a k=> ?_⟩
 have ta:=j7.pg kq qd (by show(gB n j).fZ.length≤j;omega) (by show(gB n j).aE.length≤5;omega)
 have tD:=jq.dJ jG j7.wf kq (.inr (by omega))
 refine nt (kk:=1) (T:=52) k (by decide) rfl (by decide) rfl (by kernel_rfl) rfl (fun _=>s6.trans (SX.alloc _ _ _)) fun a k=> ?_
 obtain⟨tf,n8⟩:=aC.alloc qd (.cells (aM bs).cells 52)
 have KN:=ta.aB tf n8
 have Pd:=Mz.aB qd n8 tf (fun h=>h) rfl
 have om:R1.la.length=j:=by rw[Pj];exact ta.yI.trans F1
 refine uG k (by decide) rfl (by decide) fun ty pos af=> ?_
 obtain⟨v7,w7,cM,N5,pb,CN,ho7⟩:=KN.arr.rJ (P:=Try.prog) (tt:=54) (u:=aM bs) (by kernel_rfl) n8 ty ⟨w6.heap.size,0,none⟩ 1 (gK (vs:=[aM bs]) (heap_alloc_new w6 _) rfl) rfl (by rw[List.length_map,om];omega)
 have s7:SX (fun bb=>aT bb=some (1000+j)∨aT bb=some 1) w5 w7:=(s6.trans (SX.alloc _ _ _)).trans (SX.fU (fun bb h=>(kq.fU bb 1 h).elim .inr (fun e=>by simp only[bJ]at e;omega)) pb)
 refine⟨v7,w7,iX (k.op rfl) (k.op rfl) cM,fun _=>s7,fun a k=> ?_⟩
 have aaJ:iJ w7 N5 1 52 v7 ((R1.la++[bs]).map aM):=by rw[List.map_append];exact ho7
 have Mi:=KN.abj pb CN aaJ
 have ahE:=Pd.aB n8 CN pb (by simp only[bJ];omega) rfl
 obtain⟨Av7,cv7,hv7⟩:=aaJ.slice
 repeat refine sm k fun a k=> ?_
 refine iN (cur:=R1.cells false) k (by decide) rfl (by kernel_rfl) rfl rfl (by rw[hv7];rfl) Mi.obj.heap (by show 2<11;omega) (by rw[hv7];rfl) (fun h=>absurd rfl h) fun a k=> ?_
 refine ar ?_
 obtain⟨ur,FW,ob8⟩:=Mi.obj.set CN (us:=(R1.cells false).set (0+2) v7)
 have yO:=Mi.setObj ur FW ob8
 have Us:=ahE.aB CN FW ur (by simp only[bJ];omega) rfl
 have Iq:=yO.ac8 (bs:=bs) (s:=pg n j) (by
  have e:1000+({gB n j with saved:=(gB n j).saved++[Ah]}:GS).fZ.length=1000+j:=by show 1000+(gB n j).fZ.length=1000+j;rw[F1]
  rw[e];exact Us)
 have wL:=((tD.aF jG qd tf (fun _ h=>h.elim)).dJ jG n8 pb (.inl (by decide))).dJ jG CN ur (.inl (by decide))
 have k:=k.sub (l:=[(8, .int .i64 ((j+1:Nat):Int)),(5,aM b),(0, .int .i64 n)]) ⟨rfl,rfl,rfl,trivial⟩
 generalize hR2:({R1 with l:=v7,la:=R1.la++[bs],lb:=R1.lb++[bs]}:GR)=R2 at Iq
 have aqS:R2.la=R2.lb:=by rw[←hR2];show R1.la++[bs] =R1.lb++[bs];rw[Pj]
 have ahm:R2.va=R2.vv:=by rw[←hR2];exact Ul
 have wH:(R1.cells false).set (0+2) v7=R2.cells false:=by rw[←hR2];rfl
 rw[wH]at Iq
 clear ur pb tf tD kq jq yO Mi KN ta j7 j8 s6 s7 s0 e5 ho7 aaJ cM hR2 Mz Pd ahE Us ob8 sw fM
 rw[wH]at wL FW⊢
 generalize w7.setRow _ _=w8 at Iq wL FW⊢
 refine wp_seq (rg (fun bb=>N5 bb=some 2) hQ aiz ?_)
 intro w9 e9
 have KN:=Iq.aG e9
 have su:=wL.aF jG FW (aC.aG e9 ae ae S6 N5) (fun _ h=>h.elim)
 have s0:=SX.refl (fun bb=>N5 bb=some 2) w9
 have zh: ¬N5 b=some 2:=by rw[KN.obj.ow];decide
 repeat (first|refine sm k fun a k=> ?_|refine ld k (KN.cell zh rfl) fun a k=> ?_)
 refine nt (kk:=1) (T:=29) k (by decide) rfl (by decide) rfl (by kernel_rfl) rfl (fun _=>SX.alloc _ _ _) fun a k=> ?_
 obtain⟨tf,n8⟩:=aC.alloc KN.wf (.cells eu.cells 29)
 have gmb:=KN.aB tf n8
 have wF:R2.va.length=j:=by rw[ahm];exact gmb.zf.trans tE
 refine uG k (by decide) rfl (by decide) fun ty pos af=> ?_
 obtain⟨va,wa,cM,FL,FF,Ic,hoa⟩:=gmb.CK.rJ (P:=Try.prog) (tt:=57) (u:=eu) (by kernel_rfl) n8 ty ⟨w9.heap.size,0,none⟩ 1 (gK (vs:=[eu]) (heap_alloc_new w9 _) rfl) rfl (by rw[wF];omega)
 have s1:SX (fun bb=>N5 bb=some 2) w9 wa:=(SX.alloc _ _ _).trans (SX.fU (fun _ h=>h) FF)
 refine⟨va,wa,iX (k.op rfl) (k.op rfl) cM,fun _=>s1,fun a k=> ?_⟩
 have gmc:=gmb.Q4 FF Ic hoa
 obtain⟨Ava,cva,ahn⟩:=hoa.slice
 repeat refine sm k fun a k=> ?_
 refine iN (cur:=R2.cells false) k (by decide) rfl (by kernel_rfl) rfl rfl (by rw[ahn];rfl) gmc.obj.heap (by show 7<11;omega) (by rw[ahn];rfl) (fun h=>absurd rfl h) fun a k=> ?_
 refine ar ?_
 obtain⟨L2,L7,obb⟩:=gmc.obj.set Ic (us:=(R2.cells false).set (0+7) va)
 have gmd:=(gmc.setObj L2 L7 obb).VY (by show(gB n j).aE.length≤5;omega)
 have V2:=((su.aF jG KN.wf tf (fun _ h=>h.elim)).dJ jG n8 FF (.inl (by decide))).dJ jG Ic L2 (.inl (by decide))
 have k:=k.sub (l:=[(8, .int .i64 ((j+1:Nat):Int)),(5,aM b),(0, .int .i64 n)]) ⟨rfl,rfl,rfl,trivial⟩
 generalize OP:({R2 with aE:=va,va:=R2.va++[eu],vv:=R2.vv++[eu]}:GR)=R3 at gmd
 have Ph:R3.la=R3.lb:=by rw[←OP];exact aqS
 have D2:R3.va=R3.vv:=by rw[←OP];show R2.va++[eu] =R2.vv++[eu];rw[ahm]
 have hc3:(R2.cells false).set (0+7) va=R3.cells false:=by rw[←OP];rfl
 rw[hc3]at gmd
 clear L2 FF tf su gmc gmb KN Iq s1 s0 e9 hoa cM OP obb wL
 rw[hc3]at V2 L7⊢
 generalize wa.setRow _ _=wc at gmd V2 L7⊢
 refine rg (fun bb=>FL bb=some 14) hQ aiy ?_
 intro wd ed
 have gme:=gmd.aG ed
 have stF:=V2.aF jG L7 (aC.aG ed ae ae S6 FL) (fun _ h=>h.elim)
 have s0:=SX.refl (fun bb=>FL bb=some 14) wd
 have zh: ¬FL b=some 14:=by rw[gme.obj.ow];decide
 repeat (first|refine sm k fun a k=> ?_|refine ld k (gme.cell zh rfl) fun a k=> ?_)
 refine nt (kk:=1) (T:=3) k (by decide) rfl (by decide) rfl (by kernel_rfl) rfl (fun _=>SX.alloc _ _ _) fun a k=> ?_
 obtain⟨tf,aaq⟩:=aC.alloc gme.wf (.cells (Value.int .i64 0).cells 3)
 have gmf:=gme.aB tf aaq
 refine uG k (by decide) rfl (by decide) fun ty pos af=> ?_
 obtain⟨vf,wf,cM,owf,L1,aao,hof⟩:=gmf.bW.MP (P:=Try.prog) (tt:=29) (by kernel_rfl) rfl aaq ty wd.heap.size (d:= .int .i64 0) ⟨0,rfl,by decide⟩ (us:=[.int .i64 0]) rfl (heap_alloc_new wd _) (by
   intro j u c hu hc
   match j,hu,hc with
   |0,hu,hc=>injection hu with hu;injection hc with hc;subst hu hc;exact .int _ _) (se (by unfold gB;simp;omega))
 have s1:SX (fun bb=>FL bb=some 14) wd wf:=(SX.alloc _ _ _).trans (SX.fU (fun _ h=>h) L1)
 refine⟨vf,wf,iX (k.op rfl) (k.op rfl) cM,fun _=>s1,fun a k=> ?_⟩
 have gmg:=gmf.C8 L1 aao hof
 obtain⟨Avf,cvf,hvf⟩:=hof.slice
 repeat refine sm k fun a k=> ?_
 refine iN (cur:=R3.cells false) k (by decide) rfl (by kernel_rfl) rfl rfl (by rw[hvf];rfl) gmg.obj.heap (by show 8<11;omega) (by rw[hvf];rfl) (fun h=>absurd rfl h) fun a k=> ?_
 refine ar ?_
 obtain⟨stg,Y0,obg⟩:=gmg.obj.set aao (us:=(R3.cells false).set (0+8) vf)
 have gmh:=gmg.setObj stg Y0 obg
 refine fO _ _ S6 owf {R3 with bW:=vf} (k.sub ⟨rfl,rfl,rfl,trivial⟩) (((stF.aF jG gme.wf tf (fun _ h=>h.elim)).dJ jG aaq L1 (.inl (by decide))).dJ jG aao stg (.inl (by decide))) ?_ Ph D2
 rw[Vx]
 exact gmh
end
section
variable{w w0:World}{S S0:aO}{ow:Ow}{b n:Nat}{R:GR}{v:Value}{Q:Exit→Act→World→Prop}{a:Act}
theorem _root_.Go.bZ.Wf.aG{w1:World}(h:Wf w S ow)(e:DV w w1):Wf w1 S ow:=⟨fun b o hs=>by rw[e.heap];exact h.s b o hs,fun b l hl=>by rw[e.heap];exact h.o b l hl,h.d⟩
noncomputable def aba:Code:= .seq (.seq (.region 10 PO false) (.block 4 (.loop (.seq (.seq (.region 11 PN false) (.cond (.tmp 49) .skip (.exit 4))) (.seq (.block 5 E2) (.region 12 PM false)))))) (.seq (.region 17 PH false) .ret)
theorem NZ(h5:n≤5)(gi:Wf w0 S0 (fun _=>none))(st:aC LG ae w0 S0 (fun _=>none) w S ow)(gm:GM w S ow b (R.cells false) R (gB n 0))(kV:R.la=R.lb)(lL:R.va=R.vv)(k:Kn 97 a [(5,aM b),(0, .int .i64 n)]):
  aba.wp Try.prog (mA w0 S0 n) a w:=by
 have hQ:QP (mA w0 S0 n):=gp
 unfold aba
 refine wp_seq (wp_seq (rg ae hQ aiE ?_))
 intro w1 e1
 have dB:=gm.aG e1
 have s0:=SX.refl ae w1
 repeat refine sm k fun a k=> ?_
 refine ar ?_
 have gC:=st.aF gi gm.wf (aC.aG e1 ae ae S ow) (fun _ h=>h.elim)
 refine wp_block (wp_loop_ghost (fun mm a W=> ∃(j:Nat) (S1:aO) (dA:Ow) (R1:GR),mm=n-j∧j≤n∧Kn 97 a [(8, .int .i64 ((j+1:Nat):Int)),(5,aM b),(0, .int .i64 n)] ∧aC LG ae w0 S0 (fun _=>none) W S1 dA∧
  GM W S1 dA b (R1.cells false) R1 (gB n j)∧R1.la=R1.lb∧R1.va=R1.vv) (n-0)
  ⟨0,S,ow,R,rfl,Nat.zero_le _,k.sub ⟨rfl,rfl,rfl,trivial⟩,gC,dB,kV,lL⟩ ?_)
 clear k dB gC s0 e1 w1
 rintro mm a W ⟨j,S1,dA,R1,rfl,hjn,k,gC,dB,Pj,Ul⟩
 refine wp_seq (wp_seq (rg ae hQ aiD ?_))
 intro w2 e2
 have gA:=dB.aG e2
 have en:=gC.aF gi dB.wf (aC.aG e2 ae ae S1 dA) (fun _ h=>h.elim)
 have s0:=SX.refl ae w2
 repeat refine sm k fun a k=> ?_
 refine cm (c:=decide (((j+1:Nat):Int)≤(n:Int))) k rfl rfl rfl fun a k=> ?_
 refine ar (aR k rfl ?_)
 have k:=k.sub (l:=[(8, .int .i64 ((j+1:Nat):Int)),(5,aM b),(0, .int .i64 n)]) ⟨rfl,rfl,rfl,trivial⟩
 by_cases aL:((j+1:Nat):Int)≤(n:Int)
 ·rw[if_pos (by simpa using aL)]
  refine wp_skip ?_
  refine wp_seq (wp_block (N0 (fun c a d v w h=>hQ c a d v w h) gA Pj Ul (by omega) h5 k ?_))
  intro a w3 S3 qp R3 k eY ft Ph D2
  refine rg ae hQ aiC ?_
  intro w4 e4
  have s0:=SX.refl ae w4
  repeat refine sm k fun a k=> ?_
  refine lH (s:=((j+1+1:Nat):Int)) k (by assumption) rfl (by decide) rfl rfl (wrap64 (by omega) (by omega)) fun a k=> ?_
  repeat refine sm k fun a k=> ?_
  refine ar ⟨n-(j+1),by omega,j+1,S3,qp,R3,rfl,by omega,k.sub ⟨rfl,rfl,rfl,trivial⟩,(uH gi gA.wf en eY (fun _ h=>h.elim)).aF gi ft.wf (aC.aG e4 ae ae S3 qp) (fun _ h=>h.elim),ft.aG e4,Ph,D2⟩
 ·rw[if_neg (by simpa using aL)]
  refine wp_exit ?_
  have DR:j=n:=by omega
  subst DR
  refine wp_seq (rg ae hQ aix ?_)
  intro w3 e3
  have s0:=SX.refl ae w3
  repeat refine sm k fun a k=> ?_
  refine ar (wp_ret (oQ apK k rfl ⟨b,S1,dA,rfl,en.aF gi gA.wf (aC.aG e3 ae ae S1 dA) (fun _ h=>h.elim),R1,gA.aG e3,Pj,Ul⟩).1)
noncomputable def aih:Code:= .seq (.seq (.region 6 Z6 false) (.block 2 (.loop (.seq (.seq (.region 7 Z5 false) (.cond (.tmp 32) .skip (.exit 2))) (.seq (.block 3 (.region 9 ag4 false)) (.region 8 ag5 false)))))) aba
theorem N1(h5:n≤5)(gi:Wf w0 S0 (fun _=>none))(st:aC LG ae w0 S0 (fun _=>none) w S ow)(gm:GM w S ow b (R.cells false) R (gB n 0))(kV:R.la=R.lb)(lL:R.va=R.vv)(k:Kn 97 a [(5,aM b),(1, .int .i64 n),(0, .int .i64 n)]):
  aih.wp Try.prog (mA w0 S0 n) a w:=by
 have hQ:QP (mA w0 S0 n):=gp
 unfold aih
 refine wp_seq (wp_seq (rg ae hQ apO ?_))
 intro w1 e1
 have dB:=gm.aG e1
 have gC:=st.aF gi gm.wf (aC.aG e1 ae ae S ow) (fun _ h=>h.elim)
 have s0:=SX.refl ae w1
 repeat refine sm k fun a k=> ?_
 refine lH (s:=((n+1:Nat):Int)) k (by assumption) rfl (by decide) rfl rfl (wrap64 (by omega) (by omega)) fun a k=> ?_
 repeat refine sm k fun a k=> ?_
 refine ar ?_
 have k:=k.sub (l:=[(7, .int .i64 ((n+1:Nat):Int)),(5,aM b),(0, .int .i64 n)]) ⟨rfl,rfl,rfl,trivial⟩
 refine wp_block (wp_loop_ghost (fun mm a' W=>W=w1∧Kn 97 a' [(7, .int .i64 ((n+1:Nat):Int)),(5,aM b),(0, .int .i64 n)]) 0 ⟨rfl,k⟩ ?_)
 clear k s0
 rintro mm a W ⟨rfl,k⟩
 refine wp_seq (wp_seq (rg ae hQ apN ?_))
 intro w2 e2
 have gA:=dB.aG e2
 have en:=gC.aF gi dB.wf (aC.aG e2 ae ae S ow) (fun _ h=>h.elim)
 have s0:=SX.refl ae w2
 repeat refine sm k fun a k=> ?_
 refine cm (c:=false) k rfl rfl (congrArg some (decide_eq_false (by omega))) fun a k=> ?_
 refine ar (aR k rfl (wp_exit ?_))
 exact NZ h5 gi en gA kV lL (k.sub ⟨rfl,rfl,trivial⟩)
end
theorem HT{w:World}{S:aO}{n:Nat}(hw:Wf w S (fun _=>none))(h1:1≤n)(h5:n≤5):Calls Try.prog 9 [.int .i64 n, .int .i64 n].toArray w fun e w'=> ∃b S' aT,e= .returned (aM b)∧aC LG ae w S (fun _=>none) w' S' aT∧th w' S' aT b (gB n n):=by
 refine jZ Try.func9 Wz akZ nt9 (by show 2≤97;omega) ?_
 intro a k
 have hQ:QP (mA w S n):=gp
 show Code.wp Try.prog _ (mA w S n) a w
 refine wp_seq (rg ae hQ apU ?_)
 intro w1 e1
 have s0:=SX.refl ae w1
 repeat refine sm k fun a k=> ?_
 refine ar ?_
 have fC:=hw.aG e1
 have sw:aC LG ae w S (fun _=>none) w1 S (fun _=>none):=aC.aG e1 LG ae S _
 refine wp_seq (rg ae hQ apT ?_)
 intro w2 e2
 have eK:=fC.aG e2
 have tD:=sw.aF hw fC (aC.aG e2 ae ae S _) (fun _ h=>h.elim)
 have s0:=SX.refl ae w2
 refine lh (ps:=[]) (vs:=(R0 eu).cells false) k (by assumption) rfl (by decide) rfl (by kernel_rfl) fun a k=> ?_
 refine qR (us:=(R0 eu).cells false) k (by decide) rfl (by decide) rfl rfl (fun _=>SX.alloc _ _ _) fun a k=> ?_
 have s1:=SX.alloc ae w2 (.cells ((R0 eu).cells false).toArray 59)
 repeat refine sm k fun a k=> ?_
 refine ar ?_
 obtain⟨eY,gw⟩:=aC.alloc eK (.cells ((R0 eu).cells false).toArray 59)
 have mi:=dP.new eK 59 ((R0 eu).cells false)
 have wL:=tD.aF hw eK eY (fun _ h=>h.elim)
 have Zj:w.heap.size≤w2.heap.size:=tD.size
 generalize hbN:w2.heap.size=b at k mi Zj
 generalize w2.alloc _=w3 at mi eY gw wL⊢
 have m7:Wf w3 S (fun k=>if k=b then some 0 else none):=by
  refine⟨gw.s,?_,?_⟩
  ·intro k l hl
   split at hl
   ·rename_i e;rw[e];exact mi.lt
   ·cases hl
  ·intro k o l hs hl
   split at hl
   ·rename_i e;rw[e]at hs;exact absurd hs (mi.s o)
   ·cases hl
 have su:aC LG ae w S (fun _=>none) w3 S (fun k=>if k=b then some 0 else none):=by
  refine⟨wL.size,wL.os,wL.tape,wL.output,fun _ _ _ h _=> ?_,wL.free,wL.gV,wL.cell,fun _ _ h=> ?_,wL.new,fun k hk _=>if_neg (by omega),?_⟩
  ·cases h
  ·cases h
  ·intro k l hl
   split at hl
   ·injection hl with hl;subst hl;exact .inr (.inl (by omega))
   ·cases hl
 have Tm:wZ w3 (fun k=>if k=b then some 0 else none) 0 b 59 ((R0 eu).cells false):=⟨mi.heap,if_pos rfl,by omega⟩
 generalize (fun k=>if k=b then some 0 else none:Ow)=L3 at m7 su Tm
 have k:=k.sub (l:=[(5,aM b),(1, .int .i64 n),(0, .int .i64 n)]) ⟨rfl,rfl,rfl,trivial⟩
 clear eY gw mi wL s1 s0 tD eK e2 sw fC e1
 refine wp_seq (wp_seq (rg ae hQ apS ?_))
 intro w5 e5
 have s0:=SX.refl ae w5
 repeat refine sm k fun a k=> ?_
 refine ar ?_
 have V2:=su.aF hw m7 (aC.aG e5 ae ae S L3) (fun _ h=>h.elim)
 have ob5:=Tm.aB (aC.aG e5 ae ae S L3) (fun h=>h)
 refine wp_block (wp_loop_ghost (fun mm a W=> ∃(i:Nat) (dA:Ow) (v:Value),mm=n-i∧i≤n∧Kn 97 a [(6, .int .i64 ((i+1:Nat):Int)),(5,aM b),(1, .int .i64 n),(0, .int .i64 n)] ∧aC LG ae w S (fun _=>none) W S dA∧Wf W S dA∧
  wZ W dA 0 b 59 ((R0 v).cells false)∧bU W S dA 20 3 I6 v (Ir i)) (n-0)
  ⟨0,L3,eu,rfl,Nat.zero_le _,k.sub ⟨rfl,rfl,rfl,rfl,trivial⟩,V2,m7.aG e5,ob5,bU.nil (by decide) (by omega)⟩ ?_)
 clear k V2 ob5 s0 e5 w5 Tm su m7 L3
 rintro mm a W ⟨i,dA,v,rfl,gY,k,gC,fC,ob1,ho1⟩
 refine wp_seq (wp_seq (rg ae hQ apR ?_))
 intro w2 e2
 have eK:=fC.aG e2
 have en:=gC.aF hw fC (aC.aG e2 ae ae S dA) (fun _ h=>h.elim)
 have ob2:=ob1.aB (aC.aG e2 ae ae S dA) (fun h=>h)
 have xQ:=ho1.aB fC (aC.aG e2 ae ae S dA) (fun h=>h)
 have s0:=SX.refl ae w2
 repeat refine sm k fun a k=> ?_
 refine cm (c:=decide (((i+1:Nat):Int)≤(n:Int))) k rfl rfl rfl fun a k=> ?_
 refine ar (aR k rfl ?_)
 have k:=k.sub (l:=[(6, .int .i64 ((i+1:Nat):Int)),(5,aM b),(1, .int .i64 n),(0, .int .i64 n)]) ⟨rfl,rfl,rfl,rfl,trivial⟩
 by_cases aL:((i+1:Nat):Int)≤(n:Int)
 ·rw[if_pos (by simpa using aL)]
  refine wp_skip ?_
  refine wp_seq (wp_block (rg (fun bb=>dA bb=some 20) hQ apP ?_))
  intro w3 e3
  have gw:=eK.aG e3
  have eY:=en.aF hw eK (aC.aG e3 ae ae S dA) (fun _ h=>h.elim)
  have ob3:=ob2.aB (aC.aG e3 ae ae S dA) (fun h=>h)
  have TC:=xQ.aB eK (aC.aG e3 ae ae S dA) (fun h=>h)
  have s0:=SX.refl (fun bb=>dA bb=some 20) w3
  have zh: ¬dA b=some 20:=by rw[ob3.ow];decide
  have cB: ∀w',SX (fun bb=>dA bb=some 20) w3 w'→w'.cell? ⟨b,0,none⟩=some v:=ez ob3.lt zh (gK (j:=0) ob3.heap rfl)
  repeat (first|refine sm k fun a k=> ?_|refine ld k (cB) fun a k=> ?_)
  refine nt (kk:=1) (T:=3) k (by decide) rfl (by decide) rfl (by kernel_rfl) rfl (fun _=>SX.alloc _ _ _) fun a k=> ?_
  obtain⟨tf,n8⟩:=aC.alloc gw (.cells (Value.int .i64 ((i+1:Nat):Int)).cells 3)
  have hoa:=TC.aB gw tf (fun h=>h)
  have oba:=ob3.aB tf (fun h=>h)
  have Md:kr .i64 ((i+1:Nat):Int):=⟨by have:IntKind.i64.min= -9223372036854775808:=rfl;omega,by have:IntKind.i64.max=9223372036854775807:=rfl;omega⟩
  refine uG k (by decide) rfl (by decide) fun ty pos af=> ?_
  obtain⟨v',w',cM,aT,L2,Ic,dw⟩:=hoa.MP (P:=Try.prog) (tt:=29) (by kernel_rfl) rfl n8 ty w3.heap.size (d:= .int .i64 ((i+1:Nat):Int)) ⟨_,rfl,Md⟩ (us:=[.int .i64 ((i+1:Nat):Int)]) rfl (heap_alloc_new w3 _) (by
   intro j u c hu hc
   match j,hu,hc with
   |0,hu,hc=>injection hu with hu;injection hc with hc;subst hu hc;exact .int _ _) (se (by rw[LH];omega))
  have s1:SX (fun bb=>dA bb=some 20) w3 w':=(SX.alloc _ _ _).trans (SX.fU (fun _ h=>h) L2)
  refine⟨v',w',iX (k.op rfl) (k.op rfl) cM,fun _=>s1,fun a k=> ?_⟩
  have obb:=oba.aB L2 (by simp only[bJ];omega)
  obtain⟨Av,cv,ng⟩:=dw.slice
  repeat refine sm k fun a k=> ?_
  refine iN (cur:=(R0 v).cells false) k (by decide) rfl (by kernel_rfl) rfl rfl (by rw[ng];rfl) obb.heap (by show 0<11;omega) (by rw[ng];rfl) (fun h=>absurd rfl h) fun a k=> ?_
  refine ar ?_
  obtain⟨Tk,L7,obc⟩:=obb.set Ic (us:=((R0 v).cells false).set (0+0+0) v')
  have Zc:=dw.aB Ic Tk (by simp only[bJ];omega)
  have stF:=((eY.aF hw gw tf (fun _ h=>h.elim)).dJ hw n8 L2 (.inl (by decide))).dJ hw Ic Tk (.inl (by decide))
  have k:=k.sub (l:=[(6, .int .i64 ((i+1:Nat):Int)),(5,aM b),(1, .int .i64 n),(0, .int .i64 n)]) ⟨rfl,rfl,rfl,rfl,trivial⟩
  refine rg ae hQ apQ ?_
  intro w4 e4
  have s0:=SX.refl ae w4
  repeat refine sm k fun a k=> ?_
  refine lH (s:=((i+1+1:Nat):Int)) k (by assumption) rfl (by decide) rfl rfl (wrap64 (by omega) (by omega)) fun a k=> ?_
  repeat refine sm k fun a k=> ?_
  refine ar ⟨n-(i+1),by omega,i+1,aT,v',rfl,by omega,k.sub ⟨rfl,rfl,rfl,rfl,trivial⟩,stF.aF hw L7 (aC.aG e4 ae ae S aT) (fun _ h=>h.elim),L7.aG e4,obc.aB (aC.aG e4 ae ae S aT) (fun h=>h),?_⟩
  rw[Si]
  exact Zc.aB L7 (aC.aG e4 ae ae S aT) (fun h=>h)
 ·rw[if_neg (by simpa using aL)]
  refine wp_exit ?_
  have DR:i=n:=by omega
  subst DR
  obtain⟨S',aT,L1,jG,hrf,_⟩:=xQ.freeze eK
  have obf:=ob2.aB L1 (by simp only[bJ];omega)
  exact N1 h5 hw (en.dJ hw eK L1 (.inl (by decide))) (GM.begin jG obf hrf) rfl rfl (k.sub ⟨rfl,rfl,rfl,trivial⟩)
def okS(s:RS)(k:Nat):Bool:=de s.li s.lt s.le&&decide (1≤s.id)&&decide (s.id≤5)&&decide (s.le.length+k≤4194304)&&decide (s.msgs.length+k≤4294967296)&&decide (s.dt.length+k≤4294967296)&&decide (s.bq.length+k*4194304≤274877906944)&&
 decide (s.aE.length+k≤4294967296)&&dL (.agg [.list s.fv, .list s.fl])&&(decide (s.li≤0)||dL (.agg [.list s.sv, .list s.sl]))&&cI s.le&&decide (0≤s.term)&&decide (s.term≤MX)&&s.reads.isEmpty
theorem Eo{s:RS}{k:Nat}(h:okS s k=true):Ok s k:=by
 simp only[okS,aw,aN,Bool.or_eq_true,List.isEmpty_iff]at h
 obtain⟨⟨⟨⟨⟨⟨⟨⟨⟨⟨⟨⟨⟨h1,h2⟩,h3⟩,h4⟩,h5⟩,h6⟩,h7⟩,h8⟩,h9⟩,Om⟩,TN⟩,h12⟩,Ol⟩,h14⟩:=h
 exact⟨h1,h2,h3,h4,h5,h6,by unfold G;exact h7,h8,h9,fun hp=>Om.resolve_left (by omega),TN,h12,Ol,h14⟩
def okG(g:GS):Bool:=decide (g.fZ.length≤5)&&decide (g.bW.length=g.fZ.length)&&decide (g.aE.length=g.fZ.length)&&decide (g.saved.length=g.fZ.length)&&decide (g.aI.length≤2000000)&&g.aE.all fun l=>decide (l.length≤2000000)
theorem abZ{g:GS}(h:okG g=true):IY g:=by
 simp only[okG,aw,aN,aV]at h
 obtain⟨⟨⟨⟨⟨h1,h2⟩,h3⟩,h4⟩,h5⟩,h6⟩:=h
 exact⟨h1,h2,h3,h4,h5,h6⟩
def isNil:D→Bool
 | .eW=>true
 |_=>false
theorem R4{d:D}(h:isNil d=true):d= .eW:=by
 cases d<;>first|rfl|cases h
def okT(i:Nat)(o:D)(g:GS):Bool:=okG g&&decide (i<g.fZ.length)&&okS (ji g i) 0&&isNil (cD 4 o)&&decide ((cD 7 (g.saved.getD i .top)).ak.length+(cD 3 o).ak.length≤300000000000)&&decide ((cD 5 o).ak.length≤5000000000)&&
 ((cD 6 o).ak.all fun x=>decide (0≤(cD 0 x).ab)&&decide ((cD 0 x).ab≤300000000000))&&decide (g.told.length≤300000000001)
section
variable{w:World}{S:aO}{ow:Ow}{b i:Nat}{g:GS}{Q:Exit→Act→World→Prop}{a:Act}
theorem Lm{vo:Value}{o:D}{lost:Bool}(h:th w S ow b g)(hn:Cb ow)(ho:bj w S vo o)(OA:Has IE o)(bM:okT i o g=true):
  Calls Try.prog 14 [aM b, .int .i64 i,vo, .bool lost].toArray w (oH w S ow b (CZ i o lost g)):=by
 simp only[okT,aw,aN,aV]at bM
 obtain⟨⟨⟨⟨⟨⟨⟨h1,h2⟩,h3⟩,h4⟩,h5⟩,h6⟩,h7⟩,h8⟩:=bM
 exact JM h hn (abZ h1) h2 (Eo h3) ho OA (R4 h4) h5 h6 h7 h8
def Iw(i:Nat)(s:RS)(g:GS):GS:={g with fZ:=g.fZ.set i s}
def XI(i:Nat)(x:Int)(g:GS):GS:=CZ i (js x (ji g i)).1 false (Iw i (js x (ji g i)).2 g)
def Jb(i:Nat)(x:Int)(g:GS):Bool:=decide (i<g.fZ.length)&&decide (g.aE.length≤5)&&okS (ji g i) 20&&okT i (js x (ji g i)).1 (Iw i (js x (ji g i)).2 g)
def DI(m:D):Nat:=((cD 2 m).ab-1).toNat
def YW(m:D)(g:GS):Bool:=decide (1≤(cD 2 m).ab)&&decide ((cD 2 m).ab≤g.fZ.length)
def uL(m:D)(g:GS):GS:=if YW m g then CZ (DI m) (eD m (ji g (DI m))).1 false (Iw (DI m) (eD m (ji g (DI m))).2 g) else g
def KZ(m:D)(g:GS):Bool:= !YW m g||(decide (g.aE.length≤5)&&decide (g.fZ.length≤5)&&okS (ji g (DI m)) (20+(cD 12 m).ak.length)&&decide ((cD 12 m).ak.length≤2147483648)&&okT (DI m) (eD m (ji g (DI m))).1 (Iw (DI m) (eD m (ji g (DI m))).2 g))
def UC(g:GS):GS:=g.gW.foldl (fun g m=>uL m g) {g with gW:=[]}
def xV:List D→GS→Bool
 | [],_=>true
 |m::r,g=>KZ m g&&xV r (uL m g)
theorem AM(hi:i<g.fZ.length):g.fZ[i]? =some (ji g i):=by
 unfold ji
 rw[List.getD_eq_getElem?_getD,av hi];rfl
theorem Ki{j:Int}(hQ:QP Q)(h:th w S ow b g)(hn:Cb ow)(bM:Jb 0 0 g=true)(k:Kn 54 a [(2, .int .i64 j),(1,aM b)])
  (fO: ∀a W S' aT,Kn 54 a [(2, .int .i64 j),(1,aM b)] →aC LG ae w S ow W S' aT→th W S' aT b (XI 0 0 g)→Q .normal a W):(Code.region 5 Qe false).wp Try.prog Q a w:=by
 obtain⟨R,gm,kV,lL⟩:=h
 simp only[Jb,aw,aN]at bM
 obtain⟨⟨⟨hi,hv5⟩,yT⟩,uJ⟩:=bM
 refine rg (fun bb=>ow bb=some 1000) hQ ajj ?_
 intro w1 e1
 have dB:=gm.aG e1
 have gC:=(aC.refl LG ae w S ow).aF gm.wf gm.wf (aC.aG e1 ae ae S ow) (fun _ h=>h.elim)
 have s0:=SX.refl (fun bb=>ow bb=some 1000) w1
 have zh: ¬ow b=some 1000:=by rw[dB.obj.ow];decide
 obtain⟨bs,Ip,dw,fV⟩:=dB.fZ 0 _ (AM hi)
 obtain⟨bl,cap,TK,OM,lQ,gz⟩:=dB.arr.elem (i:=0) (u:=aM bs) (by rw[kV,List.getElem?_map,Ip];rfl)
 have Te:(R.la.map aM).length=g.fZ.length:=by rw[List.length_map,kV];exact dB.yI
 have mZ: ¬ow bl=some 1000:=by rw[lQ];decide
 repeat (first|refine sm k fun a k=> ?_|refine ld k (dB.cell zh rfl) fun a k=> ?_)
 rw[TK]at k
 refine I2 (el:=52) (sz:=1) (s:=0) k (by assumption) rfl (by decide) rfl rfl (by kernel_rfl) (by kernel_rfl) (by rw[Te];exact hi) fun a k=> ?_
 refine ti (v:=aM bs) k (by assumption) rfl (by decide) rfl (by kernel_rfl) (by kernel_rfl) (ez OM mZ (by rw[Nat.mul_one];exact gz)) fun a k=> ?_
 refine gU (vs:=[aM bs, .int .i64 0]) k (by decide) rfl (by decide) c15.enter rfl (C6 dw dB.wf (by omega) (by decide) (Eo yT)) ?_
 rintro e w2 ⟨v,S2,te,rfl,en,eK,nN,lC,SR⟩
 refine⟨_,rfl,fun _=>SX.fU (fun _ h=>h) en,fun a k=> ?_⟩
 have gA:=dB.Q6 (i:=0) en eK hi Ip nN (j5 nN) hv5
 have eY:=gC.dJ gm.wf dB.wf en (.inr (by omega))
 have hn2:Cb te:=hn.aB en (fun l hl=>by simp only[bJ]at hl;subst hl;exact .inr (by omega))
 refine gU (vs:=[aM b, .int .i64 ((0:Nat):Int),v, .bool false]) k (by decide) rfl (by decide) LK rfl (Lm (g:=Iw 0 (js 0 (ji g 0)).2 g) ⟨_,gA,kV,lL⟩ hn2 lC SR uJ) ?_
 rintro e w4 ⟨S4,L3,rfl,jr,Ta⟩
 refine⟨_,rfl,fun h=>absurd rfl h,fun a k=> ?_⟩
 exact ar (fO _ _ S4 L3 (k.sub ⟨rfl,rfl,trivial⟩) (uH gm.wf eK eY jr (fun _ h=>h.elim)) Ta)
end
theorem AW:hY.cells.length=46:=rfl
section
variable{w w0:World}{S S0:aO}{ow kK:Ow}{b i j:Nat}{g:GS}{R:GR}{Q:Exit→Act→World→Prop}{a:Act}
theorem r7{x n:Int}(hw:Wf w S ow)(h1:kr .i64 x)(h2:kr .i64 n)(hn:n≠0):Calls Try.prog 8 [.int .i64 x, .int .i64 n].toArray w fun e w'=>e= .returned (.int .i64 (mH x n))∧aC ae ae w S ow w' S ow∧Wf w' S ow:=by
 refine(c8.calls rfl w S [.int .i64 x, .int .i64 n] [.int .i64 x, .int .i64 n] hw.s rfl (fun q v d hv hd=>by
  match q,hv,hd with
  |0,hv,hd=>injection hv with hv;injection hd with hd;subst hv hd;exact .int _ _
  |1,hv,hd=>injection hv with hv;injection hd with hd;subst hv hd;exact .int _ _) (aa.2 ⟨_,_,rfl,⟨_,rfl,h1⟩,aa.2 ⟨_,_,rfl,⟨_,rfl,h2⟩,bE.2 rfl⟩⟩) hn).mono ?_
 rintro e w1 ⟨v,S',τ,rfl,hb,_,_,_,cw,_⟩
 have mj:aC ae ae w S ow w1 S ow∧Wf w1 S ow:=⟨⟨hb.size,hb.os,hb.tape,hb.output,fun b _ fu _ _=>hb.block b fu,fun b fu _ _=>hb.block b fu,fun _ _ h=>h,fun b o hs=>World.cell?_of_block (hb.block b (hw.s b o hs)),fun _ _ h _=>h,fun _ _ h=> .inl h,fun _ _ h=>h,fun _ _ h=> .inl h⟩,
  ⟨fun b o hs=>Nat.lt_of_lt_of_le (hw.s b o hs) hb.size,fun b l hl=>Nat.lt_of_lt_of_le (hw.o b l hl) hb.size,hw.d⟩⟩
 refine⟨?_,mj⟩
 have e:aK 8 [.int .i64 x, .int .i64 n] = .int .i64 (mH x n):=rfl
 rw[e]at cw
 rcases cw with⟨c',hc,hq⟩|⟨hc,_⟩
 ·injection hc with hc
  subst hc
  unfold ep at hq
  simp only[Bool.false_eq_true,if_false]at hq
  obtain⟨y,hy,cB⟩:=hq
  injection hy with hy
  subst hy
  rw[cB.1.bD]
 ·exact absurd rfl hc
theorem Ls{A:Option Addr}{cap:Nat}{ms:List D}{m:D}(h:bj w S (.slice A ms.length cap) (.list ms))(hj:ms[j]? =some m)(hm:Has hY m)(hu: ∀bb off,A=some ⟨bb,off,none⟩→ow bb=none):
  ∃(bm:Nat) (us:List Value) (off:Nat),A=some ⟨bm,off,none⟩∧ow bm=none∧S bm (off+j*46)∧us.length=46∧(∀(q:Nat) u,us[q]? =some u→w.cell? ⟨bm,off+j*46+q,none⟩=some u)∧(∀(q:Nat) u c,us[q]? =some u→m.cells[q]? =some c→bj w S u c)∧us[2]? =some (.int .i64 (cD 2 m).ab):=by
 obtain⟨bm,off,Ec,us,hv,hs,zi,BV,KF⟩:=h.QC hj hm (by rw[AW];omega)
 rw[AW]at hs zi BV
 injection hv with hA _ _
 subst hA
 refine⟨bm,us,off,rfl,hu bm off rfl,hs,zi,BV,KF,?_⟩
 obtain⟨u2,hu2⟩: ∃u,us[2]? =some u:=⟨_,av (by omega)⟩
 obtain⟨l,rfl,om⟩:=cu.1 hm
 obtain⟨x2,B3,hh2⟩:=bX om 2 I6 (by rw[Ty.cC];rfl)
 obtain⟨n,rfl,hn⟩:=hh2
 have hc:cD 2 (D.agg l)= .int .i64 n:=by show l.getD 2 .top=_;rw[List.getD_eq_getElem?_getD,B3];rfl
 rw[hu2,hc,(KF 2 u2 _ hu2 B3).bD]
 rfl
theorem Vz{l:Nat}{T:TypeId}{t:Ty}{A:Option Addr}{n cap:Nat}{xs:List D}(h:bU w S ow l T t (.slice A n cap) xs)(hw:Wf w S ow):
  ∃S' aT,aC (bJ l) ae w S ow w S' aT∧Wf w S' aT∧bj w S' (.slice A n cap) (.list xs)∧ ∀bb off,A=some ⟨bb,off,none⟩→aT bb=none:=by
 obtain⟨S',aT,st,gX,hr,qe⟩:=h.freeze hw
 refine⟨S',aT,st,gX,hr,fun bb off hA=> ?_⟩
 obtain⟨vs,h1,_⟩:=h.own
 have aqR:ow bb=some l:=by
  rcases h1.2 with⟨he,_⟩|⟨g,Ec,cur,he,_⟩
  ·rw[hA]at he;cases he
  ·rw[hA]at he
   injection he with he _ _
   injection he with he
   injection he with B9 Wl
   subst B9 Wl
   exact h.fU bb (by rw[hA];rfl)
 cases hx:aT bb with
 |none=>rfl
 |some l'=>
  exfalso
  rcases st.fU bb l' hx with h2|h2
  ·rw[aqR]at h2
   injection h2 with h2
   subst h2
   exact qe bb hx
  ·simp only[bJ]at h2
   subst h2
   exact qe bb hx
theorem QQ{P:Program}{ops:Array Oper}{S:World→Prop}{n n0 i d:Nat}{m:List (Nat×Value)}{gd:Option (Nat×Bool)}{L r:List OK}{x y:Operand}{t t2:TypeId}{kk:IntKind}{p q s:Int}(k:Kn n a m)(hS:S w)(hg:pU L m gd=some true)(hd:d<n)(hx:lB m x=some (.int kk p))(hy:lB m y=some (.int kk q))
  (hc:kk.wrap (p-q)=s) (h: ∀a',Kn n a' ((d, .int kk s)::m)→TL P ops Q S n0 L r (i+1) a' w):TL P ops Q S n0 L ((some d, .binOp .sub t x y t2,gd)::r) i a w:=by
 subst hc
 refine qg k hS hg hd (fun _ _ _ w' _=> ?_) h
 have h1:=k.op hx
 have h2:=k.op hy
 unfold execOp
 simp[h1,h2,eqGuard,binOp,Op.intArith]
noncomputable def E0:Code:= .seq (.region 32 Jo true) (.cond (.tmp 196) (.region 33 Jn true) .skip)
theorem VK{A:Option Addr}{cap:Nat}{ms:List D}{m:D}(hQ:QP Q)(h:th w S ow b g)(hn:Cb ow)(hr:bj w S (.slice A ms.length cap) (.list ms))(hu: ∀bb off,A=some ⟨bb,off,none⟩→ow bb=none)(hj:ms[j]? =some m)(hm:Has hY m)(bM:KZ m g=true)
  (k:Kn 359 a [(11, .int .i64 (j:Int)),(10, .slice A ms.length cap),(0,aM b)])
  (fO: ∀a W S' aT,Kn 359 a [(11, .int .i64 (j:Int)),(10, .slice A ms.length cap),(0,aM b)] →aC LG ae w S ow W S' aT→th W S' aT b (uL m g)→Q .normal a W):E0.wp Try.prog Q a w:=by
 obtain⟨R,gm,kV,lL⟩:=h
 have jh:j<ms.length:=(ai.1 hj).1
 unfold E0
 refine wp_seq (jJ (n0:=19) ae mix (fun c a d v w h=>hQ c a d v w h) abM (fun _=>by kernel_rfl) ?_)
 intro w1 e1
 have dB:=gm.aG e1
 have gC:=(aC.refl LG ae w S ow).aF gm.wf gm.wf (aC.aG e1 ae ae S ow) (fun _ h=>h.elim)
 have s0:=SX.refl ae w1
 obtain⟨bm,us,off,rfl,hbm,hS,zi,BV,KF,OA⟩:=Ls (ow:=ow) (hr.aB (aC.aG e1 ae ae S ow)) hj hm hu
 have Ip:=dB.wf.s _ _ hS
 repeat refine sm k fun a k=> ?_
 refine oG (el:=49) (sz:=46) k (by assumption) rfl (by decide) rfl rfl (by kernel_rfl) (by kernel_rfl) (by omega) (by omega) fun a k=> ?_
 rw[Int.toNat_natCast]at k
 repeat (first|refine sm k fun a k=> ?_|refine ld k (ez Ip (fun h=>h) (BV 2 _ OA)) fun a k=> ?_)
 have aid: ∀(a:Act),YW m g=false→Kn 359 a [(11, .int .i64 (j:Int)),(10, .slice (some ⟨bm,off,none⟩) ms.length cap),(0,aM b)] →Q .normal a w1:=by
  intro a gY k
  have hg:uL m g=g:=by unfold uL;rw[gY];rfl
  refine fO _ _ S ow k gC ?_
  rw[hg];exact⟨R,dB,kV,lL⟩
 obtain⟨Al,arD,TK⟩:=dB.arr.slice
 have Te:(R.la.map aM).length=g.fZ.length:=by rw[List.length_map,kV];exact dB.yI
 by_cases h1:decide ((cD 2 m).ab≥1)=true
 ·refine cm (c:=true) k rfl rfl (congrArg some h1) fun a k=> ?_
  repeat refine sm k fun a k=> ?_
  refine oG (el:=49) (sz:=46) k (by assumption) rfl (by decide) rfl rfl (by kernel_rfl) (by kernel_rfl) (by omega) (by omega) fun a k=> ?_
  rw[Int.toNat_natCast]at k
  repeat (first|refine sm k fun a k=> ?_|refine ld k (dB.cell (fun h=>h) rfl) fun a k=> ?_|refine ld k (ez Ip (fun h=>h) (BV 2 _ OA)) fun a k=> ?_)
  rw[TK]at k
  repeat refine sm k fun a k=> ?_
  rw[Te]at k
  by_cases h2:decide ((cD 2 m).ab≤(g.fZ.length:Int))=true
  ·refine cm (c:=true) k rfl rfl (congrArg some h2) fun a k=> ?_
   refine pk k rfl rfl fun a k=> ?_
   refine ar (aR k rfl ?_)
   have k:=k.sub (l:=[(11, .int .i64 (j:Int)),(10, .slice (some ⟨bm,off,none⟩) ms.length cap),(0,aM b)]) ⟨rfl,rfl,rfl,trivial⟩
   have h1':=of_decide_eq_true h1
   have h2':=of_decide_eq_true h2
   have gY:YW m g=true:=by unfold YW;rw[h2,show decide (1≤(cD 2 m).ab)=true from h1];rfl
   have hg:uL m g=CZ (DI m) (eD m (ji g (DI m))).1 false (Iw (DI m) (eD m (ji g (DI m))).2 g):=by unfold uL;rw[gY];rfl
   unfold KZ at bM
   rw[gY,Bool.not_true,Bool.false_or]at bM
   simp only[aw,aN]at bM
   obtain⟨⟨⟨⟨hv5,Og⟩,yT⟩,F3⟩,uJ⟩:=bM
   have ahp:(cD 2 m).ab-1=((DI m:Nat):Int):=by unfold DI;omega
   have hi:DI m<g.fZ.length:=by unfold DI;omega
   have D4:IntKind.i64.wrap ((cD 2 m).ab-1)=((DI m:Nat):Int):=by rw[ahp];exact wrap64 (by omega) (by omega)
   generalize Tr:DI m=i at ahp hi D4 yT uJ hg
   obtain⟨bs,aa3,dw,fV⟩:=dB.fZ i _ (AM hi)
   refine aiv (n0:=23) (fun bb=>ow bb=some (1000+i)) mix (by intro c a d v w h;exact hQ c a d v w h) abL (by kernel_rfl) ?_
   intro w2 e2
   have gA:=dB.aG e2
   have en:=gC.aF gm.wf dB.wf (aC.aG e2 ae ae S ow) (fun _ h=>h.elim)
   have Ot:=aC.aG e2 ae ae S ow
   have nN:=dw.aB dB.wf gA.wf Ot (fun h=>h) rfl
   have s1:=SX.refl (fun bb=>ow bb=some (1000+i)) w2
   have fL: ¬ow b=some (1000+i):=by rw[gA.obj.ow];intro h;injection h with h;omega
   have H3: ¬ow bm=some (1000+i):=by rw[hbm];intro h;cases h
   have aa4:=gA.wf.s _ _ hS
   have Mv: ∀(q:Nat) u,us[q]? =some u→w2.cell? ⟨bm,off+j*46+q,none⟩=some u:=fun q u h=>(World.cell?_of_block (by rw[e2.heap])).trans (BV q u h)
   obtain⟨bl,atH,arl,OM,lQ,gz⟩:=gA.arr.elem (i:=i) (u:=aM bs) (by rw[kV,List.getElem?_map,aa3];rfl)
   have mZ: ¬ow bl=some (1000+i):=by rw[lQ];intro h;injection h with h;omega
   repeat refine sm k fun a k=> ?_
   refine oG (el:=49) (sz:=46) k (by assumption) rfl (by decide) rfl rfl (by kernel_rfl) (by kernel_rfl) (by omega) (by omega) fun a k=> ?_
   rw[Int.toNat_natCast]at k
   repeat refine sm k fun a k=> ?_
   refine ld k (ez aa4 H3 (Mv 2 _ OA)) fun a k=> ?_
   refine QQ (s:=((i:Nat):Int)) k (by assumption) rfl (by decide) rfl rfl D4 fun a k=> ?_
   repeat refine sm k fun a k=> ?_
   refine ld k (gA.cell fL (j:=2) rfl) fun a k=> ?_
   repeat refine sm k fun a k=> ?_
   refine oG (el:=49) (sz:=46) k (by assumption) rfl (by decide) rfl rfl (by kernel_rfl) (by kernel_rfl) (by omega) (by omega) fun a k=> ?_
   rw[Int.toNat_natCast]at k
   repeat refine sm k fun a k=> ?_
   refine ld k (ez aa4 H3 (Mv 2 _ OA)) fun a k=> ?_
   refine QQ (s:=((i:Nat):Int)) k (by assumption) rfl (by decide) rfl rfl D4 fun a k=> ?_
   rw[arl]at k
   refine FU (el:=52) (sz:=1) k rfl rfl (by rw[Te];exact hi) fun a k=> ?_
   refine ti (v:=aM bs) k (by assumption) rfl (by decide) rfl (by kernel_rfl) (by kernel_rfl) (ez OM mZ (by rw[Nat.mul_one];exact gz)) fun a k=> ?_
   repeat refine sm k fun a k=> ?_
   refine oG (el:=49) (sz:=46) k (by assumption) rfl (by decide) rfl rfl (by kernel_rfl) (by kernel_rfl) (by omega) (by omega) fun a k=> ?_
   rw[Int.toNat_natCast]at k
   refine lN (vs:=us) k rfl zi (fun w' gX q v hv=>ez aa4 H3 (Mv q v hv) w' gX) fun a k=> ?_
   have Tv:bj w2 S (.agg us.toArray) m:=by
    obtain⟨lm,rfl,F2⟩:=cu.1 hm
    refine .agg us lm ?_ (fun q u y h3 h4=>(KF q u y h3 h4).aB Ot)
    have:=dZ F2
    rw[this,zi,Ty.cC];rfl
   refine gU (vs:=[aM bs, .agg us.toArray]) k (by decide) rfl (by decide) c17.enter rfl (xn nN gA.wf (by omega) hm Tv (Eo yT) F3) ?_
   rintro e w3 ⟨v,S3,qp,rfl,eY,gw,qj,Oc,ht3⟩
   refine⟨_,rfl,fun _=>SX.fU (fun _ h=>h) eY,fun a k=> ?_⟩
   have ft:=gA.Q6 (i:=i) eY gw hi aa3 qj (j5 qj) hv5
   have jr:=en.dJ gm.wf gA.wf eY (.inr (by omega))
   have hn3:Cb qp:=hn.aB eY (fun l hl=>by simp only[bJ]at hl;subst hl;exact .inr (by omega))
   refine gU (vs:=[aM b, .int .i64 ((i:Nat):Int),v, .bool false]) k (by decide) rfl (by decide) LK rfl (Lm (g:=Iw i (eD m (ji g i)).2 g) ⟨_,ft,kV,lL⟩ hn3 Oc ht3 uJ) ?_
   rintro e w5 ⟨S5,ow5,rfl,jq,Og⟩
   refine⟨_,rfl,fun h=>absurd rfl h,fun a k=> ?_⟩
   refine ar (fO _ _ S5 ow5 (k.sub ⟨rfl,rfl,rfl,trivial⟩) (uH gm.wf gw jr jq (fun _ h=>h.elim)) ?_)
   rw[hg];exact Og
  ·refine cm (c:=false) k rfl rfl (congrArg some (Bool.eq_false_iff.2 h2)) fun a k=> ?_
   refine pk k rfl rfl fun a k=> ?_
   refine ar (aR k rfl (wp_skip (aid _ (by unfold YW;rw[Bool.eq_false_iff.2 h2,Bool.and_false]) (k.sub ⟨rfl,rfl,rfl,trivial⟩))))
 ·refine cm (c:=false) k rfl rfl (congrArg some (Bool.eq_false_iff.2 h1)) fun a k=> ?_
  repeat refine sm k fun a k=> ?_
  refine pk k rfl rfl fun a k=> ?_
  refine ar (aR k rfl (wp_skip (aid _ (by unfold YW;rw[show decide (1≤(cD 2 m).ab)=false from Bool.eq_false_iff.2 h1,Bool.false_and]) (k.sub ⟨rfl,rfl,rfl,trivial⟩))))
end
theorem Kc{ms:List D}{j:Nat}{m:D}{g:GS}(hj:ms[j]? =some m)(h:xV (ms.drop j) g=true):KZ m g=true∧xV (ms.drop (j+1)) (uL m g)=true:=by
 have jh:j<ms.length:=(ai.1 hj).1
 have hd:ms.drop j=m::ms.drop (j+1):=by
  rw[List.drop_eq_getElem_cons jh,(ai.1 hj).2]
 rw[hd]at h
 simpa only[xV,aw]using h
theorem Dv{ms:List D}{j:Nat}{m:D}(hj:ms[j]? =some m)(g:GS):(ms.take (j+1)).foldl (fun g m=>uL m g) g=uL m ((ms.take j).foldl (fun g m=>uL m g) g):=by
 have:ms.take (j+1)=ms.take j++[m] :=by rw[List.take_add_one,hj];rfl
 rw[this,List.foldl_append];rfl
section
variable{w w0:World}{S S0:aO}{ow kK:Ow}{b i j:Nat}{g g':GS}{R:GR}{Q:Exit→Act→World→Prop}{a:Act}
noncomputable def Lo:Code:= .seq (.region 27 Jt false) (.seq (.region 28 Js false) (.seq (.region 29 Jr false) (.block 5 (.loop (.seq (.seq (.region 30 Jq false) (.cond (.tmp 175) .skip (.exit 5))) (.seq (.block 6 E0) (.region 31 Jp false)))))))
theorem RE(hQ:QP Q)(h:th w S ow b g)(hn:Cb ow)(bM:xV g.gW {g with gW:=[]}=true)(k:Kn 359 a [(0,aM b)])
  (fO: ∀a W S' aT,Kn 359 a [(0,aM b)] →aC LG ae w S ow W S' aT→th W S' aT b (UC g)→Q .normal a W):Lo.wp Try.prog Q a w:=by
 obtain⟨R,gm,kV,lL⟩:=h
 have jG:=gm.wf
 have gz:g.gW.length≤maxLen:=gm.gW.len.1
 have H6:maxLen≤9223372036854775807:=by decide
 have Ut:=gm.gW.all
 unfold Lo
 refine wp_seq (rg ae hQ abR ?_)
 intro w1 e1
 have dB:=gm.aG e1
 have gC:=(aC.refl LG ae w S ow).aF jG jG (aC.aG e1 ae ae S ow) (fun _ h=>h.elim)
 have s0:=SX.refl ae w1
 obtain⟨A,cap,hv⟩:=dB.gW.slice
 repeat (first|refine sm k fun a k=> ?_|refine ld k (dB.cell (fun h=>h) rfl) fun a k=> ?_)
 refine ar ?_
 have k:=k.sub (l:=[(10,R.gW),(0,aM b)]) ⟨rfl,rfl,trivial⟩
 rw[hv]at k
 have aaK:=dB.gW
 rw[hv]at aaK
 obtain⟨S2,te,en,eK,lC,hu2⟩:=Vz aaK dB.wf
 have gA:=dB.Lp en eK (bU.nil (w:=w1) (S:=S2) (ow:=te) (T:=49) (t:=hY) (l:=11) (by rw[AW];omega) (by omega))
 have sw:=gC.dJ jG dB.wf en (.inl (by decide))
 clear aaK dB gC s0 e1
 refine wp_seq (rg ae hQ abQ ?_)
 intro w3 e3
 have ft:=gA.aG e3
 have eY:=sw.aF jG eK (aC.aG e3 ae ae S2 te) (fun _ h=>h.elim)
 have s0:=SX.refl ae w3
 repeat refine sm k fun a k=> ?_
 refine iN (cur:=R.cells g.bad) k (by decide) rfl (by kernel_rfl) rfl rfl rfl ft.obj.heap (by show 4<11;omega) rfl (fun h=>absurd rfl h) fun a k=> ?_
 refine ar ?_
 obtain⟨jr,m7,Tm⟩:=ft.obj.set ft.wf (us:=(R.cells g.bad).set (0+4) eu)
 have j8:=ft.setObj jr m7 Tm
 have tD:=eY.dJ jG ft.wf jr (.inl (by decide))
 have Ma:=(lC.aB (aC.aG e3 ae ae S2 te)).aB jr
 have Ta:th (w3.setRow b ((R.cells g.bad).set (0+4) eu).toArray) S2 te b {g with gW:=[]}:=⟨{R with gW:=eu},j8,kV,lL⟩
 have hn2:Cb te:=hn.aB en (fun l hl=>by simp only[bJ]at hl;subst hl;exact .inl (by omega))
 have k:=k.sub (l:=[(10, .slice A g.gW.length cap),(0,aM b)]) ⟨rfl,rfl,trivial⟩
 have Uj:Wf (w3.setRow b ((R.cells g.bad).set (0+4) eu).toArray) S2 te:=m7
 show Code.wp Try.prog _ _ a (w3.setRow b ((R.cells g.bad).set (0+4) eu).toArray)
 generalize w3.setRow b ((R.cells g.bad).set (0+4) eu).toArray=w4 at Ta Ma tD Uj⊢
 clear j8 ft gA jr eY sw m7 Tm s0 e3 en eK lC
 refine wp_seq (rg ae hQ abP ?_)
 intro w5 e5
 have s0:=SX.refl ae w5
 repeat refine sm k fun a k=> ?_
 refine ar ?_
 have Og:th w5 S2 te b {g with gW:=[]}:=by obtain⟨R',F7,h1,h2⟩:=Ta;exact⟨R',F7.aG e5,h1,h2⟩
 have jq:=tD.aF jG Uj (aC.aG e5 ae ae S2 te) (fun _ h=>h.elim)
 have xN:Wf w5 S2 te:=Uj.aG e5
 have Wc:=Ma.aB (aC.aG e5 ae ae S2 te)
 have aL: ∀bb off,A=some ⟨bb,off,none⟩→bb<w5.heap.size∨g.gW.length=0:=by
  intro bb off hA
  by_cases hz:g.gW.length=0
  ·exact .inr hz
  ·left
   obtain⟨m,hm⟩: ∃m,g.gW[0]? =some m:=⟨_,av (by omega)⟩
   obtain⟨bm,us,awf,hA',_,hS,_⟩:=Ls (ow:=te) Wc hm (Ut m (aS hm)) hu2
   rw[hA]at hA'
   injection hA' with hA'
   injection hA' with hA' _
   subst hA'
   exact(Uj.aG e5).s _ _ hS
 refine wp_block (wp_loop_ghost (fun mm a W=> ∃(j:Nat) (S1:aO) (dA:Ow),mm=g.gW.length-j∧j≤g.gW.length∧Kn 359 a [(11, .int .i64 (j:Int)),(10, .slice A g.gW.length cap),(0,aM b)] ∧aC LG ae w S ow W S1 dA∧aC LG ae w5 S2 te W S1 dA∧
  th W S1 dA b ((g.gW.take j).foldl (fun g m=>uL m g) {g with gW:=[]})∧xV (g.gW.drop j) ((g.gW.take j).foldl (fun g m=>uL m g) {g with gW:=[]})=true) (g.gW.length-0)
  ⟨0,S2,te,rfl,Nat.zero_le _,k.sub ⟨rfl,rfl,rfl,trivial⟩,jq,aC.refl _ _ _ _ _,Og,bM⟩ ?_)
 clear k s0 Ta Ma tD Og jq
 rintro mm a W ⟨j,S1,dA,rfl,hjn,k,kq,apG,hg6,aqC⟩
 refine wp_seq (wp_seq (rg ae hQ abO ?_))
 intro w7 e7
 have qd:Wf W S1 dA:=by obtain⟨_,F7,_⟩:=hg6;exact F7.wf
 have hg7:th w7 S1 dA b ((g.gW.take j).foldl (fun g m=>uL m g) {g with gW:=[]}):=by obtain⟨R',F7,h1,h2⟩:=hg6;exact⟨R',F7.aG e7,h1,h2⟩
 have pb:=kq.aF jG qd (aC.aG e7 ae ae S1 dA) (fun _ h=>h.elim)
 have ZX:=apG.aF xN qd (aC.aG e7 ae ae S1 dA) (fun _ h=>h.elim)
 have s0:=SX.refl ae w7
 repeat refine sm k fun a k=> ?_
 refine cm (c:=decide ((j:Int)<(g.gW.length:Int))) k rfl rfl rfl fun a k=> ?_
 refine ar (aR k rfl ?_)
 have k:=k.sub (l:=[(11, .int .i64 (j:Int)),(10, .slice A g.gW.length cap),(0,aM b)]) ⟨rfl,rfl,rfl,trivial⟩
 by_cases tP:(j:Int)<(g.gW.length:Int)
 ·rw[if_pos (by simpa using tP)]
  refine wp_skip ?_
  obtain⟨m,hm⟩: ∃m,g.gW[j]? =some m:=⟨_,av (by omega)⟩
  obtain⟨hd1,hd2⟩:=Kc hm aqC
  have hn7:Cb dA:=hn.aB pb (fun l hl=>hl)
  refine wp_seq (wp_block (VK (fun c a d v w h=>hQ c a d v w h) hg7 hn7 (Wc.aB ZX) (fun bb off hA=> ?_) hm (Ut m (aS hm)) hd1 k ?_))
  ·rcases aL bb off hA with h1|h1
   ·exact ZX.tu bb h1 (hu2 bb off hA)
   ·omega
  intro a w8 S8 ow8 k ur hg8
  have CN:Wf w7 S1 dA:=qd.aG e7
  have FW:Wf w8 S8 ow8:=by obtain⟨_,F7,_⟩:=hg8;exact F7.wf
  refine rg ae hQ abN ?_
  intro w9 e9
  have s0:=SX.refl ae w9
  repeat refine sm k fun a k=> ?_
  refine lH (s:=((j+1:Nat):Int)) k (by assumption) rfl (by decide) rfl rfl (wrap64 (by omega) (by omega)) fun a k=> ?_
  repeat refine sm k fun a k=> ?_
  refine ar ⟨g.gW.length-(j+1),by omega,j+1,S8,ow8,rfl,by omega,k.sub ⟨rfl,rfl,rfl,trivial⟩,(uH jG CN pb ur (fun _ h=>h.elim)).aF jG FW (aC.aG e9 ae ae S8 ow8) (fun _ h=>h.elim),(uH xN CN ZX ur (fun _ h=>h.elim)).aF xN FW (aC.aG e9 ae ae S8 ow8) (fun _ h=>h.elim),?_,?_⟩
  ·rw[Dv hm]
   obtain⟨R',F7,h1,h2⟩:=hg8
   exact⟨R',F7.aG e9,h1,h2⟩
  ·rw[Dv hm];exact hd2
 ·rw[if_neg (by simpa using tP)]
  refine wp_exit ?_
  have DR:j=g.gW.length:=by omega
  subst DR
  rw[List.take_length]at hg7
  exact fO _ _ S1 dA (k.sub ⟨rfl,trivial⟩) pb hg7
end
end Go.Proofs.Ytjhmkaninmgilaa
