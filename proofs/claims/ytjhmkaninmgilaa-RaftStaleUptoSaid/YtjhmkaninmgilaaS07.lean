/- Part 7 of the proof of RaftStale; no condition. -/
import Derived.Test.YtjhmkaninmgilaaS04
import Derived.Test.YtjhmkaninmgilaaS06
import Derived.Test.YtjhmkaninmgilaaProg
set_option linter.unusedVariables false
set_option linter.unusedSimpArgs false
set_option maxHeartbeats 4000000
namespace Go.Proofs.Ytjhmkaninmgilaa
open Go Go.RowKit Go.bZ Go.Proofs
structure GS where
 fv:List D
 fl:List D
 fZ:List RS
 saved:List D
 gW:List D
 told:List D
 aI:List D
 bW:List D
 read:List D
 aE:List (List D)
 bad:Bool
structure GR where
 fv:Value
 fl:Value
 l:Value
 saved:Value
 gW:Value
 told:Value
 aI:Value
 bW:Value
 read:Value
 aE:Value
 la:List Nat
 lb:List Nat
 va:List Value
 vv:List Value
def aM(b:Nat):Value:= .pointer (some ⟨b,0,none⟩)
structure GM(w:World)(S:aO)(ow:Ow)(b:Nat)(vs:List Value)(R:GR)(g:GS):Prop where
 wf:Wf w S ow
 obj:wZ w ow 0 b 59 vs
 fv:bj w S R.fv (.list g.fv)
 fl:bj w S R.fl (.list g.fl)
 arr:iJ w ow 1 52 R.l (R.la.map aM)
 yI:R.lb.length=g.fZ.length
 fZ: ∀(i:Nat) s,g.fZ[i]? =some s→ ∃bs,R.lb[i]? =some bs∧hZ w S ow (1000+i) (bP 0) bs [cR s,cL s] ∧bV (.bQ cY) (encS s)
 saved:bU w S ow 10 65 jP R.saved g.saved
 gW:bU w S ow 11 49 hY R.gW g.gW
 told:bU w S ow 12 78 cX R.told g.told
 aI:bU w S ow 13 3 I6 R.aI g.aI
 bW:bU w S ow 14 3 I6 R.bW g.bW
 read:bU w S ow 15 3 I6 R.read g.read
 CK:iJ w ow 2 29 R.aE R.va
 zf:R.vv.length=g.aE.length
 pf: ∀(i:Nat) l,g.aE[i]? =some l→ ∃v,R.vv[i]? =some v∧bU w S ow (100+i) 3 I6 v l
def GR.cells(R:GR)(bad:Bool):List Value:=[R.fv,R.fl,R.l,R.saved,R.gW,R.told,R.aI,R.aE,R.bW,R.read, .bool bad]
def th(w:World)(S:aO)(ow:Ow)(b:Nat)(g:GS):Prop:= ∃R:GR,GM w S ow b (R.cells g.bad) R g∧R.la=R.lb∧R.va=R.vv
section
variable{w w':World}{S S':aO}{ow aT:Ow}{b:Nat}{vs:List Value}{R:GR}{g:GS}{L X:Nat→Prop}
theorem GM.aB(h:GM w S ow b vs R g)(st:aC ae X w S ow w' S' aT)(hw:Wf w' S' aT):GM w' S' aT b vs R g:=
 ⟨hw,h.obj.aB st (fun h=>h),h.fv.aB st,h.fl.aB st,h.arr.aB h.wf st (fun h=>h),h.yI,fun i s hi=>let ⟨bs,h1,h2,h3⟩:=h.fZ i s hi;⟨bs,h1,h2.aB h.wf hw st (fun h=>h) rfl,h3⟩,h.saved.aB h.wf st (fun h=>h),h.gW.aB h.wf st (fun h=>h),h.told.aB h.wf st (fun h=>h),h.aI.aB h.wf st (fun h=>h),h.bW.aB h.wf st (fun h=>h),h.read.aB h.wf st (fun h=>h),h.CK.aB h.wf st (fun h=>h),h.zf,fun i l hi=>let ⟨v,h1,h2⟩:=h.pf i l hi;⟨v,h1,h2.aB h.wf st (fun h=>h)⟩⟩
theorem GM.loc{l:Nat}(h:GM w S ow b vs R g)(st:aC (bJ l) X w S ow w' S' aT)(hw:Wf w' S' aT)(hl:60≤l∧l<100):GM w' S' aT b vs R g:=
 ⟨hw,h.obj.aB st (by simp only[bJ];omega),h.fv.aB st,h.fl.aB st,h.arr.aB h.wf st (by simp only[bJ];omega),h.yI,fun i s hi=>let ⟨bs,h1,h2,h3⟩:=h.fZ i s hi;⟨bs,h1,h2.aB h.wf hw st (by simp only[bJ];omega) rfl,h3⟩,h.saved.aB h.wf st (by simp only[bJ];omega),h.gW.aB h.wf st (by simp only[bJ];omega),h.told.aB h.wf st (by simp only[bJ];omega),h.aI.aB h.wf st (by simp only[bJ];omega),h.bW.aB h.wf st (by simp only[bJ];omega),h.read.aB h.wf st (by simp only[bJ];omega),h.CK.aB h.wf st (by simp only[bJ];omega),h.zf,fun i l hi=>let ⟨v,h1,h2⟩:=h.pf i l hi;⟨v,h1,h2.aB h.wf st (by simp only[bJ];omega)⟩⟩
theorem GM.setObj{DH:List Value}(h:GM w S ow b vs R g)(st:aC (bJ 0) X w S ow w' S' aT)(hw:Wf w' S' aT)(ho:wZ w' aT 0 b 59 DH):GM w' S' aT b DH R g:=
 ⟨hw,ho,h.fv.aB st,h.fl.aB st,h.arr.aB h.wf st (by simp only[bJ];omega),h.yI,fun i s hi=>let ⟨bs,h1,h2,h3⟩:=h.fZ i s hi;⟨bs,h1,h2.aB h.wf hw st (by simp only[bJ];omega) rfl,h3⟩,h.saved.aB h.wf st (by simp only[bJ];omega),h.gW.aB h.wf st (by simp only[bJ];omega),h.told.aB h.wf st (by simp only[bJ];omega),h.aI.aB h.wf st (by simp only[bJ];omega),h.bW.aB h.wf st (by simp only[bJ];omega),h.read.aB h.wf st (by simp only[bJ];omega),h.CK.aB h.wf st (by simp only[bJ];omega),h.zf,fun i l hi=>let ⟨v,h1,h2⟩:=h.pf i l hi;⟨v,h1,h2.aB h.wf st (by simp only[bJ];omega)⟩⟩
theorem GM.abj{v:Value}{la:List Nat}(h:GM w S ow b vs R g)(st:aC (bJ 1) X w S ow w' S' aT)(hw:Wf w' S' aT)(ho:iJ w' aT 1 52 v (la.map aM)):GM w' S' aT b vs {R with l:=v,la:=la} g:=
 ⟨hw,h.obj.aB st (by simp only[bJ];omega),h.fv.aB st,h.fl.aB st,ho,h.yI,fun i s hi=>let ⟨bs,h1,h2,h3⟩:=h.fZ i s hi;⟨bs,h1,h2.aB h.wf hw st (by simp only[bJ];omega) rfl,h3⟩,h.saved.aB h.wf st (by simp only[bJ];omega),h.gW.aB h.wf st (by simp only[bJ];omega),h.told.aB h.wf st (by simp only[bJ];omega),h.aI.aB h.wf st (by simp only[bJ];omega),h.bW.aB h.wf st (by simp only[bJ];omega),h.read.aB h.wf st (by simp only[bJ];omega),h.CK.aB h.wf st (by simp only[bJ];omega),h.zf,fun i l hi=>let ⟨v,h1,h2⟩:=h.pf i l hi;⟨v,h1,h2.aB h.wf st (by simp only[bJ];omega)⟩⟩
theorem GM.Q4{v:Value}{va:List Value}(h:GM w S ow b vs R g)(st:aC (bJ 2) X w S ow w' S' aT)(hw:Wf w' S' aT)(ho:iJ w' aT 2 29 v va):GM w' S' aT b vs {R with aE:=v,va:=va} g:=
 ⟨hw,h.obj.aB st (by simp only[bJ];omega),h.fv.aB st,h.fl.aB st,h.arr.aB h.wf st (by simp only[bJ];omega),h.yI,fun i s hi=>let ⟨bs,h1,h2,h3⟩:=h.fZ i s hi;⟨bs,h1,h2.aB h.wf hw st (by simp only[bJ];omega) rfl,h3⟩,h.saved.aB h.wf st (by simp only[bJ];omega),h.gW.aB h.wf st (by simp only[bJ];omega),h.told.aB h.wf st (by simp only[bJ];omega),h.aI.aB h.wf st (by simp only[bJ];omega),h.bW.aB h.wf st (by simp only[bJ];omega),h.read.aB h.wf st (by simp only[bJ];omega),ho,h.zf,fun i l hi=>let ⟨v,h1,h2⟩:=h.pf i l hi;⟨v,h1,h2.aB h.wf st (by simp only[bJ];omega)⟩⟩
theorem GM.C9{v:Value}{xs:List D}(h:GM w S ow b vs R g)(st:aC (bJ 10) X w S ow w' S' aT)(hw:Wf w' S' aT)(ho:bU w' S' aT 10 65 jP v xs):GM w' S' aT b vs {R with saved:=v} {g with saved:=xs}:=
 ⟨hw,h.obj.aB st (by simp only[bJ];omega),h.fv.aB st,h.fl.aB st,h.arr.aB h.wf st (by simp only[bJ];omega),h.yI,fun i s hi=>let ⟨bs,h1,h2,h3⟩:=h.fZ i s hi;⟨bs,h1,h2.aB h.wf hw st (by simp only[bJ];omega) rfl,h3⟩,ho,h.gW.aB h.wf st (by simp only[bJ];omega),h.told.aB h.wf st (by simp only[bJ];omega),h.aI.aB h.wf st (by simp only[bJ];omega),h.bW.aB h.wf st (by simp only[bJ];omega),h.read.aB h.wf st (by simp only[bJ];omega),h.CK.aB h.wf st (by simp only[bJ];omega),h.zf,fun i l hi=>let ⟨v,h1,h2⟩:=h.pf i l hi;⟨v,h1,h2.aB h.wf st (by simp only[bJ];omega)⟩⟩
theorem GM.Lp{v:Value}{xs:List D}(h:GM w S ow b vs R g)(st:aC (bJ 11) X w S ow w' S' aT)(hw:Wf w' S' aT)(ho:bU w' S' aT 11 49 hY v xs):GM w' S' aT b vs {R with gW:=v} {g with gW:=xs}:=
 ⟨hw,h.obj.aB st (by simp only[bJ];omega),h.fv.aB st,h.fl.aB st,h.arr.aB h.wf st (by simp only[bJ];omega),h.yI,fun i s hi=>let ⟨bs,h1,h2,h3⟩:=h.fZ i s hi;⟨bs,h1,h2.aB h.wf hw st (by simp only[bJ];omega) rfl,h3⟩,h.saved.aB h.wf st (by simp only[bJ];omega),ho,h.told.aB h.wf st (by simp only[bJ];omega),h.aI.aB h.wf st (by simp only[bJ];omega),h.bW.aB h.wf st (by simp only[bJ];omega),h.read.aB h.wf st (by simp only[bJ];omega),h.CK.aB h.wf st (by simp only[bJ];omega),h.zf,fun i l hi=>let ⟨v,h1,h2⟩:=h.pf i l hi;⟨v,h1,h2.aB h.wf st (by simp only[bJ];omega)⟩⟩
theorem GM.GV{v:Value}{xs:List D}(h:GM w S ow b vs R g)(st:aC (bJ 12) X w S ow w' S' aT)(hw:Wf w' S' aT)(ho:bU w' S' aT 12 78 cX v xs):GM w' S' aT b vs {R with told:=v} {g with told:=xs}:=
 ⟨hw,h.obj.aB st (by simp only[bJ];omega),h.fv.aB st,h.fl.aB st,h.arr.aB h.wf st (by simp only[bJ];omega),h.yI,fun i s hi=>let ⟨bs,h1,h2,h3⟩:=h.fZ i s hi;⟨bs,h1,h2.aB h.wf hw st (by simp only[bJ];omega) rfl,h3⟩,h.saved.aB h.wf st (by simp only[bJ];omega),h.gW.aB h.wf st (by simp only[bJ];omega),ho,h.aI.aB h.wf st (by simp only[bJ];omega),h.bW.aB h.wf st (by simp only[bJ];omega),h.read.aB h.wf st (by simp only[bJ];omega),h.CK.aB h.wf st (by simp only[bJ];omega),h.zf,fun i l hi=>let ⟨v,h1,h2⟩:=h.pf i l hi;⟨v,h1,h2.aB h.wf st (by simp only[bJ];omega)⟩⟩
theorem GM.Bq{v:Value}{xs:List D}(h:GM w S ow b vs R g)(st:aC (bJ 13) X w S ow w' S' aT)(hw:Wf w' S' aT)(ho:bU w' S' aT 13 3 I6 v xs):GM w' S' aT b vs {R with aI:=v} {g with aI:=xs}:=
 ⟨hw,h.obj.aB st (by simp only[bJ];omega),h.fv.aB st,h.fl.aB st,h.arr.aB h.wf st (by simp only[bJ];omega),h.yI,fun i s hi=>let ⟨bs,h1,h2,h3⟩:=h.fZ i s hi;⟨bs,h1,h2.aB h.wf hw st (by simp only[bJ];omega) rfl,h3⟩,h.saved.aB h.wf st (by simp only[bJ];omega),h.gW.aB h.wf st (by simp only[bJ];omega),h.told.aB h.wf st (by simp only[bJ];omega),ho,h.bW.aB h.wf st (by simp only[bJ];omega),h.read.aB h.wf st (by simp only[bJ];omega),h.CK.aB h.wf st (by simp only[bJ];omega),h.zf,fun i l hi=>let ⟨v,h1,h2⟩:=h.pf i l hi;⟨v,h1,h2.aB h.wf st (by simp only[bJ];omega)⟩⟩
theorem GM.C8{v:Value}{xs:List D}(h:GM w S ow b vs R g)(st:aC (bJ 14) X w S ow w' S' aT)(hw:Wf w' S' aT)(ho:bU w' S' aT 14 3 I6 v xs):GM w' S' aT b vs {R with bW:=v} {g with bW:=xs}:=
 ⟨hw,h.obj.aB st (by simp only[bJ];omega),h.fv.aB st,h.fl.aB st,h.arr.aB h.wf st (by simp only[bJ];omega),h.yI,fun i s hi=>let ⟨bs,h1,h2,h3⟩:=h.fZ i s hi;⟨bs,h1,h2.aB h.wf hw st (by simp only[bJ];omega) rfl,h3⟩,h.saved.aB h.wf st (by simp only[bJ];omega),h.gW.aB h.wf st (by simp only[bJ];omega),h.told.aB h.wf st (by simp only[bJ];omega),h.aI.aB h.wf st (by simp only[bJ];omega),ho,h.read.aB h.wf st (by simp only[bJ];omega),h.CK.aB h.wf st (by simp only[bJ];omega),h.zf,fun i l hi=>let ⟨v,h1,h2⟩:=h.pf i l hi;⟨v,h1,h2.aB h.wf st (by simp only[bJ];omega)⟩⟩
theorem GM.Q6{i bs:Nat}{s':RS}(h:GM w S ow b vs R g)(st:aC (bJ (1000+i)) X w S ow w' S' aT)(hw:Wf w' S' aT)(hi:i<g.fZ.length)(hb:R.lb[i]? =some bs)(ho:hZ w' S' aT (1000+i) (bP 0) bs [cR s',cL s'])(fV:bV (.bQ cY) (encS s'))(hv:g.aE.length≤5):GM w' S' aT b vs R {g with fZ:=g.fZ.set i s'}:=
 ⟨hw,h.obj.aB st (by simp only[bJ];omega),h.fv.aB st,h.fl.aB st,h.arr.aB h.wf st (by simp only[bJ];omega),by rw[List.length_set];exact h.yI,fun j s hj=>(by
  rw[List.getElem?_set]at hj
  by_cases B8:i=j
  ·subst B8
   rw[if_pos rfl,if_pos hi]at hj
   injection hj with hj
   subst hj
   exact⟨bs,hb,ho,fV⟩
  ·rw[if_neg B8]at hj
   obtain⟨b2,h1,h2,h3⟩:=h.fZ j s hj
   exact⟨b2,h1,h2.aB h.wf hw st (by simp only[bJ];omega) rfl,h3⟩),h.saved.aB h.wf st (by simp only[bJ];omega),h.gW.aB h.wf st (by simp only[bJ];omega),h.told.aB h.wf st (by simp only[bJ];omega),h.aI.aB h.wf st (by simp only[bJ];omega),h.bW.aB h.wf st (by simp only[bJ];omega),h.read.aB h.wf st (by simp only[bJ];omega),h.CK.aB h.wf st (by simp only[bJ];omega),h.zf,fun j l hj=>let ⟨v,h1,h2⟩:=h.pf j l hj;⟨v,h1,h2.aB h.wf st (by have h9:j<g.aE.length:=(ai.1 hj).1;simp only[bJ];omega)⟩⟩
theorem GM.Lq{i:Nat}{v:Value}{l:List D}(h:GM w S ow b vs R g)(st:aC (bJ (100+i)) X w S ow w' S' aT)(hw:Wf w' S' aT)(hi:i<g.aE.length)(ho:bU w' S' aT (100+i) 3 I6 v l)(hn:i<100):GM w' S' aT b vs {R with vv:=R.vv.set i v} {g with aE:=g.aE.set i l}:=
 ⟨hw,h.obj.aB st (by simp only[bJ];omega),h.fv.aB st,h.fl.aB st,h.arr.aB h.wf st (by simp only[bJ];omega),h.yI,fun i s hi=>let ⟨bs,h1,h2,h3⟩:=h.fZ i s hi;⟨bs,h1,h2.aB h.wf hw st (by simp only[bJ];omega) rfl,h3⟩,h.saved.aB h.wf st (by simp only[bJ];omega),h.gW.aB h.wf st (by simp only[bJ];omega),h.told.aB h.wf st (by simp only[bJ];omega),h.aI.aB h.wf st (by simp only[bJ];omega),h.bW.aB h.wf st (by simp only[bJ];omega),h.read.aB h.wf st (by simp only[bJ];omega),h.CK.aB h.wf st (by simp only[bJ];omega),by rw[List.length_set,List.length_set];exact h.zf,fun j x hj=>(by
  rw[List.getElem?_set]at hj
  by_cases B8:i=j
  ·subst B8
   rw[if_pos rfl,if_pos hi]at hj
   injection hj with hj
   subst hj
   exact⟨v,by rw[List.getElem?_set,if_pos rfl,if_pos (by rw[h.zf];exact hi)],ho⟩
  ·rw[if_neg B8]at hj
   obtain⟨b2,h1,h2⟩:=h.pf j x hj
   exact⟨b2,by rw[List.getElem?_set,if_neg B8];exact h1,h2.aB h.wf st (by simp only[bJ];omega)⟩)⟩
theorem GM.cell(h:GM w S ow b vs R g){X:Nat→Prop}(hX: ¬X b){j:Nat}{v:Value}(hj:vs[j]? =some v): ∀w',SX X w w'→w'.cell? ⟨b,j,none⟩=some v:=by
 intro w' hw
 rw[World.cell?_of_block (hw.2 b h.obj.lt hX)]
 exact gK h.obj.heap hj
theorem GM.aG{w1:World}(h:GM w S ow b vs R g)(e:DV w w1):GM w1 S ow b vs R g:=by
 refine h.aB (aC.aG e ae ae S ow) ⟨fun b o hs=>by rw[e.heap];exact h.wf.s b o hs,fun b l hl=>by rw[e.heap];exact h.wf.o b l hl,h.wf.d⟩
end
end Go.Proofs.Ytjhmkaninmgilaa
namespace Go.Proofs.Ytjhmkaninmgilaa
open Go Go.bZ Go.Proofs Go.Shelf
def Fq:Go.Shelf.Ren:=⟨fun|189=>82|125=>86|257=>85|128=>96|129=>97|294=>87|295=>88|296=>89|297=>90|298=>91|299=>92|216=>93|300=>94|301=>95|328=>98|329=>99|330=>100|331=>101|332=>102|215=>103|343=>104|n=>n,fun|28=>29|3=>3|46=>156|0=>0|51=>165|53=>167|4=>4|183=>159|182=>158|131=>92|5=>5|9=>9|218=>168|222=>172|228=>174|229=>95|n=>n,fun|n=>n⟩
theorem RY:Go.Proofs.Lays.n189 Try.prog Fq:={
 mixed:=by kernel_rfl,
 f125:=Try.func86.trans (congrArg some (by kernel_rfl)),
 f128:=Try.func96.trans (congrArg some (by kernel_rfl)),
 f129:=Try.func97.trans (congrArg some (by kernel_rfl)),
 f189:=Try.func82.trans (congrArg some (by kernel_rfl)),
 f215:=Try.func103.trans (congrArg some (by kernel_rfl)),
 f216:=Try.func93.trans (congrArg some (by kernel_rfl)),
 f257:=Try.func85.trans (congrArg some (by kernel_rfl)),
 f294:=Try.func87.trans (congrArg some (by kernel_rfl)),
 f295:=Try.func88.trans (congrArg some (by kernel_rfl)),
 f296:=Try.func89.trans (congrArg some (by kernel_rfl)),
 f297:=Try.func90.trans (congrArg some (by kernel_rfl)),
 f298:=Try.func91.trans (congrArg some (by kernel_rfl)),
 f299:=Try.func92.trans (congrArg some (by kernel_rfl)),
 f300:=Try.func94.trans (congrArg some (by kernel_rfl)),
 f301:=Try.func95.trans (congrArg some (by kernel_rfl)),
 f328:=Try.func98.trans (congrArg some (by kernel_rfl)),
 f329:=Try.func99.trans (congrArg some (by kernel_rfl)),
 f330:=Try.func100.trans (congrArg some (by kernel_rfl)),
 f331:=Try.func101.trans (congrArg some (by kernel_rfl)),
 f332:=Try.func102.trans (congrArg some (by kernel_rfl)),
 f343:=Try.func104.trans (congrArg some (by kernel_rfl)),
 t0:=Try.underlying0,
 a0:=Try.isAgg0,
 z0:=Try.sizeOf0,
 v0:=Try.zeroValue0,
 t3:=Try.underlying3,
 a3:=Try.isAgg3,
 z3:=Try.sizeOf3,
 v3:=Try.zeroValue3,
 t4:=Try.underlying4,
 a4:=Try.isAgg4,
 z4:=Try.sizeOf4,
 v4:=Try.zeroValue4,
 t5:=Try.underlying5,
 a5:=Try.isAgg5,
 z5:=Try.sizeOf5,
 v5:=Try.zeroValue5,
 t9:=Try.underlying9,
 a9:=Try.isAgg9,
 z9:=Try.sizeOf9,
 v9:=Try.zeroValue9,
 t28:=Try.underlying29,
 a28:=Try.isAgg29,
 z28:=Try.sizeOf29,
 v28:=Try.zeroValue29,
 t46:=Try.underlying156,
 a46:=Try.isAgg156,
 z46:=Try.sizeOf156,
 v46:=Try.zeroValue156,
 t51:=Try.underlying165,
 a51:=Try.isAgg165,
 z51:=Try.sizeOf165,
 v51:=Try.zeroValue165,
 t53:=Try.underlying167,
 a53:=Try.isAgg167,
 z53:=Try.sizeOf167,
 v53:=Try.zeroValue167,
 t131:=Try.underlying92,
 a131:=Try.isAgg92,
 z131:=Try.sizeOf92,
 v131:=Try.zeroValue92,
 t182:=Try.underlying158,
 a182:=Try.isAgg158,
 z182:=Try.sizeOf158,
 v182:=Try.zeroValue158,
 t183:=Try.underlying159,
 a183:=Try.isAgg159,
 z183:=Try.sizeOf159,
 v183:=Try.zeroValue159,
 t218:=Try.underlying168,
 a218:=Try.isAgg168,
 z218:=Try.sizeOf168,
 v218:=Try.zeroValue168,
 t222:=Try.underlying172,
 a222:=Try.isAgg172,
 z222:=Try.sizeOf172,
 v222:=Try.zeroValue172,
 t228:=Try.underlying174,
 a228:=Try.isAgg174,
 z228:=Try.sizeOf174,
 v228:=Try.zeroValue174,
 t229:=Try.underlying95,
 a229:=Try.isAgg95,
 z229:=Try.sizeOf95,
 v229:=Try.zeroValue95}
def ze:Go.Shelf.Ren:=⟨fun|20=>83|n=>n,fun|22=>29|3=>3|4=>4|0=>0|n=>n,fun|n=>n⟩
theorem HJ:Go.Proofs.Lays2.n20 Try.prog ze:={
 mixed:=by kernel_rfl,
 f20:=Try.func83.trans (congrArg some (by kernel_rfl)),
 t0:=Try.underlying0,
 a0:=Try.isAgg0,
 z0:=Try.sizeOf0,
 v0:=Try.zeroValue0,
 t3:=Try.underlying3,
 a3:=Try.isAgg3,
 z3:=Try.sizeOf3,
 v3:=Try.zeroValue3,
 t4:=Try.underlying4,
 a4:=Try.isAgg4,
 z4:=Try.sizeOf4,
 v4:=Try.zeroValue4,
 t22:=Try.underlying29,
 a22:=Try.isAgg29,
 z22:=Try.sizeOf29,
 v22:=Try.zeroValue29,
 i3:=by kernel_rfl}
def CH:Go.Shelf.Ren:=⟨fun|15=>61|n=>n,fun|22=>29|3=>3|4=>4|n=>n,fun|n=>n⟩
theorem ND:Go.Proofs.Lays2.n15 Try.prog CH:={
 mixed:=by kernel_rfl,
 f15:=Try.func61.trans (congrArg some (by kernel_rfl)),
 t3:=Try.underlying3,
 a3:=Try.isAgg3,
 z3:=Try.sizeOf3,
 v3:=Try.zeroValue3,
 t4:=Try.underlying4,
 a4:=Try.isAgg4,
 z4:=Try.sizeOf4,
 v4:=Try.zeroValue4,
 t22:=Try.underlying29,
 a22:=Try.isAgg29,
 z22:=Try.sizeOf29,
 v22:=Try.zeroValue29,
 i3:=by kernel_rfl}
end Go.Proofs.Ytjhmkaninmgilaa
namespace Go.Proofs.Ytjhmkaninmgilaa
open Go Go.RowKit Go.bZ Go.Proofs
variable{C:Nat}
theorem bB.le{s:RS}{k j:Nat}(h:bB C s k)(hj:j≤k):bB C s j:=
 ⟨h.may,h.DL,h.DK,by have:=h.xM;omega,by have:=h.nm;omega,by have:=h.ne;omega,by have:=h.nc;have:=aii hj;omega,by have:=h.nv;omega,h.cf,h.cs,h.cl,h.tm,h.tx,h.rd⟩
structure yZ(s t:RS):Prop where
 li:t.li=s.li
 lt:t.lt=s.lt
 le:t.le=s.le
 id:t.id=s.id
 msgs:t.msgs=s.msgs
 dt:t.dt=s.dt
 bq:t.bq=s.bq
 aE:t.aE=s.aE
 fv:t.fv=s.fv
 fl:t.fl=s.fl
 sv:t.sv=s.sv
 sl:t.sl=s.sl
 term:t.term=s.term
 reads:t.reads=s.reads
theorem bB.same{s t:RS}{k:Nat}(h:bB C s k)(e:yZ s t):bB C t k:=by
 obtain⟨e1,e2,e3,e4,e5,e6,e7,e8,e9,e10,e11,e12,e13,e14⟩:=e
 refine⟨?_,?_,?_,?_,?_,?_,?_,?_,?_,?_,?_,?_,?_,?_⟩
 all_goals first
  |(rw[e1,e2,e3];exact h.may)
  |(rw[e4];first|exact h.DL|exact h.DK)
  |(rw[e3];first|exact h.xM|exact h.cl)
  |(rw[e5];exact h.nm)
  |(rw[e6];exact h.ne)
  |(rw[e7];exact h.nc)
  |(rw[e8];exact h.nv)
  |(rw[e9,e10];exact h.cf)
  |(rw[e1,e11,e12];exact h.cs)
  |(rw[e13];first|exact h.tm|exact h.tx)
  |(rw[e14];exact h.rd)
theorem bB.send{s:RS}{k:Nat}{x:D}(h:bB C s (k+1)):bB C (aX x s) k:=by
 refine⟨h.may,h.DL,h.DK,by have:=h.xM;show s.le.length+k≤_;omega,?_,by have:=h.ne;show s.dt.length+_≤_;omega,by have:=h.nc;have:=EJ k;show s.bq.length+_≤_;omega,by have:=h.nv;show s.aE.length+k≤_;omega,h.cf,h.cs,h.cl,h.tm,h.tx,h.rd⟩
 have:=h.nm
 simp only[aX,List.length_append,List.length_singleton]
 omega
theorem bB.saved{s:RS}{k:Nat}(h:bB C s k):bB C (dQ s) k:=h.same ⟨rfl,rfl,rfl,rfl,rfl,rfl,rfl,rfl,rfl,rfl,rfl,rfl,rfl,rfl⟩
theorem bB.Q7{s:RS}{k:Nat}(h:bB C s k):bB C (lO s) k:=h.same ⟨rfl,rfl,rfl,rfl,rfl,rfl,rfl,rfl,rfl,rfl,rfl,rfl,rfl,rfl⟩
theorem bB.follow{s:RS}{k:Nat}{x y:Int}(h:bB C s k)(h0:0≤x)(h1:x≤MX):bB C (iE x y s) k:=by
 have hv:([] :List D).length+k≤4294967296:=by have:=h.nv;simp;omega
 unfold iE
 split
 ·exact⟨h.may,h.DL,h.DK,h.xM,h.nm,h.ne,h.nc,hv,h.cf,h.cs,h.cl,h0,h1,rfl⟩
 ·exact⟨h.may,h.DL,h.DK,h.xM,h.nm,h.ne,h.nc,hv,h.cf,h.cs,h.cl,h.tm,h.tx,rfl⟩
theorem bB.done{s:RS}{k:Nat}(h:bB C s k):bB C (cE s).2 k:=
 ⟨h.may,h.DL,h.DK,h.xM,by have:=h.nm;show([] :List D).length+k≤_;simp;omega,by have:=h.ne;show([] :List D).length+_≤_;simp;omega,by have:=h.nc;show([] :List D).length+_≤_;simp;omega,h.nv,h.cf,h.cs,h.cl,h.tm,h.tx,h.rd⟩
theorem bB.O6{s:RS}{k:Nat}(h:bB C s k):okB s.li s.lt=true:=by
 have:=h.may
 unfold de at this
 exact(aw _ _▸this).1
theorem bB.li{s:RS}{k:Nat}(h:bB C s k):0≤s.li∧s.li+s.le.length≤MX:=by
 obtain⟨⟨h1,h2,_,_⟩,h3⟩:=fk.1 h.may
 exact⟨h1,xh h2 h3⟩
theorem Na{i f m:Int}{l:List D}{x:D}(h:x∈fi i l f m):x∈l:=by
 unfold fi at h
 split at h
 ·simp at h
 ·exact List.mem_of_mem_drop (List.mem_of_mem_take h)
theorem bB.bq{s:RS}{k:Nat}{x:Int}(h:bB C s (k+1)):bB C (iq x s).2 k:=by
 have e:iq x s=if decide (x≤s.aJ) then(false,s) else(mT (cT s.li s.lt s.le (IntKind.i64.wrap (s.aJ+1)) (IntKind.i64.wrap (x-s.aJ))) (D.fn 84 []),{s with bq:=s.bq++cT s.li s.lt s.le (IntKind.i64.wrap (s.aJ+1)) (IntKind.i64.wrap (x-s.aJ)),aJ:=x}):=rfl
 rw[e]
 by_cases hq:decide (x≤s.aJ)=true
 ·rw[if_pos hq];exact h.le (by omega)
 ·rw[if_neg hq]
  refine⟨h.may,h.DL,h.DK,by have:=h.xM;show s.le.length+k≤_;omega,by have:=h.nm;show s.msgs.length+_≤_;omega,by have:=h.ne;show s.dt.length+_≤_;omega,?_,by have:=h.nv;show s.aE.length+k≤_;omega,h.cf,h.cs,h.cl,h.tm,h.tx,h.rd⟩
  have h1:=h.nc
  have hG:=EJ k
  have h2:=h.xM
  have h3:=rU (i:=s.li) (f:=IntKind.i64.wrap (s.aJ+1)) (m:=IntKind.i64.wrap (x-s.aJ)) (l:=s.le)
  show(s.bq++fi _ _ _ _).length+_≤_
  rw[List.length_append]
  omega
theorem eG{l:List D}:cI l=true↔ ∀x∈l,qT x=true→dL (cfE x)=true:=by
 unfold cI
 rw[Bool.not_eq_true',List.any_eq_false]
 constructor
 ·intro h x hx h1
  have:=h x hx
  rw[h1]at this
  simpa using this
 ·intro h x hx h1
  rw[aw]at h1
  rw[h x hx h1.1]at h1
  simp at h1
theorem Fv{l r:List D}(h:cI l=true)(hs: ∀x∈r,x∈l):cI r=true:=eG.2 fun x hx=>eG.1 h x (hs x hx)
theorem Fw{l r:List D}(h:cI l=true)(h2:cI r=true):cI (l++r)=true:=eG.2 fun x hx=>(List.mem_append.1 hx).elim (eG.1 h x) (eG.1 h2 x)
theorem bB.put{s:RS}{k:Nat}{c:D}(h:bB C s (k+1))(hc:(cD 0 c).ab=2→dL (.agg [cD 25 c,cD 26 c])=true):bB C (DY c s).2 k:=by
 obtain⟨p1,p2⟩:=RN (m:=s.term) (c:=ah 27 c []) h.may
 have gz:cI (tL s.li s.lt s.le s.term (ah 27 c []))=true:=by
  unfold tL
  split
  ·refine Fw h.cl (eG.2 fun x hx hq=> ?_)
   rw[List.mem_singleton]at hx
   subst hx
   exact hc (eq_of_beq (show((cD 0 c).ab==2)=true from hq))
  ·exact h.cl
 have h1:=h.xM
 have h2:=h.nm
 have h3:=h.ne
 have h4:=h.nc
 have h5:=h.nv
 have hG:=EJ k
 have e:DY c s=if(tc s.li s.lt s.le s.term==0) then((ah 29 (DZ s.li s.lt s.le s.term (ah 27 c [])) [],tc s.li s.lt s.le s.term),{dQ {s with li:=s.li,lt:=s.lt,le:=tL s.li s.lt s.le s.term (ah 27 c [])} with dt:=s.dt++[ah 29 (DZ s.li s.lt s.le s.term (ah 27 c [])) []]})
  else((ah 29 (DZ s.li s.lt s.le s.term (ah 27 c [])) [],tc s.li s.lt s.le s.term),{s with li:=s.li,lt:=s.lt,le:=tL s.li s.lt s.le s.term (ah 27 c [])}):=rfl
 rw[e]
 by_cases hq:(tc s.li s.lt s.le s.term==0)=true
 ·rw[if_pos hq]
  refine⟨p1,h.DL,h.DK,?_,?_,?_,?_,?_,h.cf,h.cs,gz,h.tm,h.tx,h.rd⟩
  ·show(tL _ _ _ _ _).length+k≤_;omega
  ·show s.msgs.length+k≤_;omega
  ·show(s.dt++[_]).length+k≤_;rw[List.length_append,List.length_singleton];omega
  ·show s.bq.length+_≤_;omega
  ·show s.aE.length+k≤_;omega
 ·rw[if_neg hq]
  refine⟨p1,h.DL,h.DK,?_,?_,?_,?_,?_,h.cf,h.cs,gz,h.tm,h.tx,h.rd⟩
  ·show(tL _ _ _ _ _).length+k≤_;omega
  ·show s.msgs.length+k≤_;omega
  ·show s.dt.length+_≤_;omega
  ·show s.bq.length+_≤_;omega
  ·show s.aE.length+k≤_;omega
theorem NG{s:RS}{x:Int}(h0:0≤x)(h5:x≤5): ∃m t,yZ s t∧cq x s=aX m t:=by
 have hx:x=0∨x=1∨x=2∨x=3∨x=4∨x=5:=by omega
 rcases hx with rfl|rfl|rfl|rfl|rfl|rfl
 ·unfold cq
  rw[if_pos (by decide)]
  by_cases hq:decide (s.wE≤(fh s.li s.lt s.le).1)=true
  ·dsimp only
   rw[if_pos hq]
   refine⟨_,_,?_,rfl⟩
   exact⟨rfl,rfl,rfl,rfl,rfl,rfl,rfl,rfl,rfl,rfl,rfl,rfl,rfl,rfl⟩
  ·dsimp only
   rw[if_neg hq]
   refine⟨_,_,?_,rfl⟩
   exact⟨rfl,rfl,rfl,rfl,rfl,rfl,rfl,rfl,rfl,rfl,rfl,rfl,rfl,rfl⟩
 ·unfold cq
  rw[if_neg (by decide),if_pos (by decide)]
  by_cases hq:decide (s.wD≤(fh s.li s.lt s.le).1)=true
  ·dsimp only
   rw[if_pos hq]
   refine⟨_,_,?_,rfl⟩
   exact⟨rfl,rfl,rfl,rfl,rfl,rfl,rfl,rfl,rfl,rfl,rfl,rfl,rfl,rfl⟩
  ·dsimp only
   rw[if_neg hq]
   refine⟨_,_,?_,rfl⟩
   exact⟨rfl,rfl,rfl,rfl,rfl,rfl,rfl,rfl,rfl,rfl,rfl,rfl,rfl,rfl⟩
 ·unfold cq
  rw[if_neg (by decide),if_neg (by decide),if_pos (by decide)]
  by_cases hq:decide (s.wC≤(fh s.li s.lt s.le).1)=true
  ·dsimp only
   rw[if_pos hq]
   refine⟨_,_,?_,rfl⟩
   exact⟨rfl,rfl,rfl,rfl,rfl,rfl,rfl,rfl,rfl,rfl,rfl,rfl,rfl,rfl⟩
  ·dsimp only
   rw[if_neg hq]
   refine⟨_,_,?_,rfl⟩
   exact⟨rfl,rfl,rfl,rfl,rfl,rfl,rfl,rfl,rfl,rfl,rfl,rfl,rfl,rfl⟩
 ·unfold cq
  rw[if_neg (by decide),if_neg (by decide),if_neg (by decide),if_pos (by decide)]
  by_cases hq:decide (s.wB≤(fh s.li s.lt s.le).1)=true
  ·dsimp only
   rw[if_pos hq]
   refine⟨_,_,?_,rfl⟩
   exact⟨rfl,rfl,rfl,rfl,rfl,rfl,rfl,rfl,rfl,rfl,rfl,rfl,rfl,rfl⟩
  ·dsimp only
   rw[if_neg hq]
   refine⟨_,_,?_,rfl⟩
   exact⟨rfl,rfl,rfl,rfl,rfl,rfl,rfl,rfl,rfl,rfl,rfl,rfl,rfl,rfl⟩
 ·unfold cq
  rw[if_neg (by decide),if_neg (by decide),if_neg (by decide),if_neg (by decide),if_pos (by decide)]
  by_cases hq:decide (s.wA≤(fh s.li s.lt s.le).1)=true
  ·dsimp only
   rw[if_pos hq]
   refine⟨_,_,?_,rfl⟩
   exact⟨rfl,rfl,rfl,rfl,rfl,rfl,rfl,rfl,rfl,rfl,rfl,rfl,rfl,rfl⟩
  ·dsimp only
   rw[if_neg hq]
   refine⟨_,_,?_,rfl⟩
   exact⟨rfl,rfl,rfl,rfl,rfl,rfl,rfl,rfl,rfl,rfl,rfl,rfl,rfl,rfl⟩
 ·unfold cq
  rw[if_neg (by decide),if_neg (by decide),if_neg (by decide),if_neg (by decide),if_neg (by decide),if_pos (by decide)]
  by_cases hq:decide (s.wy≤(fh s.li s.lt s.le).1)=true
  ·dsimp only
   rw[if_pos hq]
   refine⟨_,_,?_,rfl⟩
   exact⟨rfl,rfl,rfl,rfl,rfl,rfl,rfl,rfl,rfl,rfl,rfl,rfl,rfl,rfl⟩
  ·dsimp only
   rw[if_neg hq]
   refine⟨_,_,?_,rfl⟩
   exact⟨rfl,rfl,rfl,rfl,rfl,rfl,rfl,rfl,rfl,rfl,rfl,rfl,rfl,rfl⟩
theorem bB.Ms{s:RS}{k:Nat}{x:Int}(h:bB C s (k+1))(h0:0≤x)(h5:x≤5):bB C (cq x s) k:=by
 obtain⟨m,t,e,e2⟩:=NG (s:=s) h0 h5
 rw[e2];exact(h.same e).send
theorem bB.refuse{s:RS}{k:Nat}{x:D}(h:bB C s (k+1)):bB C (gR x s) k:=by
 unfold gR
 repeat' split
 all_goals first
  |exact h.send
  |exact h.le (by omega)
theorem bB.vote{s:RS}{k:Nat}{x:D}(h:bB C s (k+1)):bB C (uQ x s) k:=by
 unfold uQ
 have go: ∀(t:RS) (m:D),yZ s t→bB C (aX m t) k:=fun t m e=>(h.same e).send
 dsimp only
 split
 ·split
  ·exact go _ _ ⟨rfl,rfl,rfl,rfl,rfl,rfl,rfl,rfl,rfl,rfl,rfl,rfl,rfl,rfl⟩
  ·exact go _ _ ⟨rfl,rfl,rfl,rfl,rfl,rfl,rfl,rfl,rfl,rfl,rfl,rfl,rfl,rfl⟩
 ·exact h.send
theorem bB.Lb{s:RS}{k:Nat}{x:D}(h:bB C s k):bB C (ik x s).2 k:=by
 unfold ik
 split
 ·exact h
 ·exact(h.follow h.tm h.tx).Q7
theorem Fy(x:D):dL (D.agg ((x.ak.drop 27).take 2))=dL (cfE x):=by
 have e: ∀j,j<2→((x.ak.drop 27).take 2).getD j .top=x.ak.getD (27+j) .top:=by
  intro j hj
  rw[List.getD_eq_getElem?_getD,List.getD_eq_getElem?_getD,List.getElem?_take,if_pos hj,List.getElem?_drop]
 unfold dL vo lr
 show zU (fP (((x.ak.drop 27).take 2).getD 0 .top)) (fP (((x.ak.drop 27).take 2).getD 1 .top))=_
 rw[e 0 (by omega),e 1 (by omega)];rfl
theorem Ni{s:RS}{k:Nat}{x:Int}(h:bB C s k)(hx:x≤9223372036854775807):dL (z7 x s)=true:=by
 obtain⟨l0,l1⟩:=h.li
 unfold z7 q8
 refine kC (fun a:Int×List D×List D=>a.1≤9223372036854775807) (fun d=>dL d=true) (fun a=>(a.1-s.li).toNat) ?_ _ _ hx (Nat.lt_succ_self _)
 intro a ha
 have e:oO s (fh s.li s.lt s.le) a.1 a.2.1 a.2.2=if decide (a.1>s.li) then
   (if(decide (((cT s.li s.lt s.le a.1 1).length:Int)=1))&&((cD 2 ((cT s.li s.lt s.le a.1 1).getD 0 .top)).ab==2) then .inr (ah 2 (D.agg ((((cT s.li s.lt s.le a.1 1).getD 0 .top).ak.drop 27).take 2)) [])
    else .inl (IntKind.wrap .i64 (a.1-1),a.2.1,a.2.2)) else .inr (q9 s (fh s.li s.lt s.le)):=rfl
 rw[e]
 by_cases OI:decide (a.1>s.li)=true
 ·rw[if_pos OI]
  rw[aN]at OI
  generalize hc:((decide (((cT s.li s.lt s.le a.1 1).length:Int)=1))&&((cD 2 ((cT s.li s.lt s.le a.1 1).getD 0 .top)).ab==2))=c
  cases c with
  |true=>
   simp only[aw,aN,beq_iff_eq]at hc
   show dL (D.agg ((((cT s.li s.lt s.le a.1 1).getD 0 .top).ak.drop 27).take 2))=true
   rw[Fy]
   obtain⟨qf,wH⟩:=hc
   have hl:(cT s.li s.lt s.le a.1 1).length=1:=by omega
   obtain⟨y,hy⟩:=List.length_eq_one_iff.1 hl
   rw[hy]at wH⊢
   have hm:y∈s.le:=Na (i:=s.li) (f:=a.1) (m:=1) (by show y∈cT s.li s.lt s.le a.1 1;rw[hy];simp)
   exact eG.1 h.cl y hm (by unfold qT;rw[beq_iff_eq];exact wH)
  |false=>
   show IntKind.wrap .i64 (a.1-1)≤_∧(IntKind.wrap .i64 (a.1-1)-s.li).toNat<_
   rw[wrap64 (by omega) (by omega)]
   exact⟨by omega,by omega⟩
 ·rw[if_neg OI]
  show dL (q9 s (fh s.li s.lt s.le))=true
  have e2:q9 s (fh s.li s.lt s.le)=if decide (s.li>0) then ah 2 (D.agg [.list s.sv, .list s.sl]) [] else ah 2 (D.agg [.list s.fv, .list s.fl]) [] :=rfl
  rw[e2]
  by_cases h1:decide (s.li>0)=true
  ·rw[if_pos h1];exact h.cs (by simpa using h1)
  ·rw[if_neg h1];exact h.cf
theorem jt{s:RS}{k:Nat}(h:bB C s k):dL (cH s)=true:=by
 obtain⟨l0,l1⟩:=h.li
 show dL (z7 (s.li+s.le.length) s)=true
 refine Ni h ?_
 simp only[MX]at l1
 omega
theorem Fo{c y:D}(hc:dL c=true)(hy:y∈fR c):1≤y.ab∧y.ab≤5:=by
 unfold fR at hy
 rw[←Jv]at hy
 obtain⟨n,hn,rfl⟩:=List.mem_map.1 hy
 obtain⟨h1,h2,_,_⟩:=Ha.1 hc
 rcases G8.1 hn with h|h
 ·exact AN h1 n h
 ·exact AN h2 n h
theorem Bb{c:D}(hc:dL c=true):(vo c).length≤5∧(lr c).length≤5:=by
 obtain⟨h1,h2,_,_⟩:=Ha.1 hc
 have a:=AO (Int.le_refl 0) h1
 have b:=AO (Int.le_refl 0) h2
 omega
theorem wu{c:D}(hc:dL c=true):(fR c).length≤10:=by
 obtain⟨a,b⟩:=Bb hc
 have h:(Ge (vo c) (lr c)).length≤(vo c++lr c).length:=by
  unfold Ge
  exact Nat.le_trans (Lib.compact_length_le _) (by rw[oZ];exact Nat.le_refl _)
 unfold fR
 rw[←Jv,List.length_map]
 simp only[List.length_append]at h
 omega
theorem jn{c:D}{s:RS}(hc:dL c=true):(eO c s).length≤10∧ ∀y∈eO c s,1≤y.ab∧y.ab≤5:=by
 have xR:dL (ah 2 c [])=true:=hc
 have hlen:=wu xR
 unfold eO o5
 generalize SN:fR (ah 2 c [])=x6 at hlen
 have hm: ∀y∈x6,1≤y.ab∧y.ab≤5:=fun y hy=>Fo xR (SN▸hy)
 refine kC (fun a:List D×Int=>0≤a.2∧a.1.length≤a.2.toNat∧a.2.toNat≤x6.length∧ ∀y∈a.1,1≤y.ab∧y.ab≤5) (fun(l:List D)=>l.length≤10∧ ∀y∈l,1≤y.ab∧y.ab≤5) (fun a=>x6.length-a.2.toNat) ?_ _ _ ⟨by show(0:Int)≤0;omega,by simp,by simp,by simp⟩ (Nat.lt_succ_self _)
 rintro⟨l,j⟩ ⟨h0,h1,h2,h3⟩
 simp only at h0 h1 h2 h3
 unfold rY
 by_cases aL:decide (j<(x6.length:Int))=true
 ·rw[if_pos aL]
  rw[aN]at aL
  have hw:IntKind.wrap .i64 (j+1)=j+1:=wrap64 (by omega) (by omega)
  have jh:j.toNat<x6.length:=by omega
  by_cases dH:((x6.getD j.toNat .top).ab !=s.id)=true
  ·rw[if_pos dH,hw]
   refine⟨⟨by show 0≤j+1;omega,?_,by show(j+1).toNat≤_;omega,?_⟩,by show x6.length-(j+1).toNat<x6.length-j.toNat;omega⟩
   ·show(l++[_]).length≤(j+1).toNat
    rw[List.length_append,List.length_singleton];omega
   intro y hy
   rcases List.mem_append.1 hy with hy|hy
   ·exact h3 y hy
   ·rw[List.mem_singleton]at hy
    subst hy
    rw[List.getD_eq_getElem?_getD,av jh,Option.getD_some]
    exact hm _ (List.getElem_mem jh)
  ·rw[if_neg dH,hw]
   exact⟨⟨by show 0≤j+1;omega,by show l.length≤(j+1).toNat;omega,by show(j+1).toNat≤_;omega,h3⟩,by show x6.length-(j+1).toNat<x6.length-j.toNat;omega⟩
 ·rw[if_neg aL]
  exact⟨by show l.length≤10;omega,h3⟩
theorem RP(o:Int)(n:Nat)(hn:n≤140737488355328):(decide (0≤az (ay 0 o) n)&&(decide (az (ay 0 o) n≤az (IntKind.i64.wrap (az (ay 0 o) n+256)) n)&&decide (az (IntKind.i64.wrap (az (ay 0 o) n+256)) n≤n)))=true:=by
 have h1:0≤az (ay 0 o) n∧az (ay 0 o) n≤n:=by
  unfold az ay
  split<;>split<;>omega
 obtain⟨a,b⟩:=h1
 generalize az (ay 0 o) n=m at a b
 rw[wrap64 (by omega) (by omega)]
 simp only[aw,aN]
 unfold az
 split<;>omega
theorem Nc{s:RS}(hs:bV (.bQ cY) (encS s)):s.au.length≤140737488355328:=by
 obtain⟨x,hx,hh⟩:=bX hs 18 (.list (.int .u8)) (by rw[Ty.cC];rfl)
 have e:(encS s)[18]? =some (.list s.au):=rfl
 rw[e]at hx
 injection hx with hx
 subst hx
 obtain⟨l,hl,h1,_⟩:=aD.1 hh
 injection hl with hl
 subst hl
 have h2:=h1.2
 have h3:(Ty.int .u8).bytes=1:=rfl
 rw[h3,Nat.mul_one]at h2
 exact h2
theorem bB.alike{s t:RS}{k j:Nat}(h:bB C s k)(hj:j≤k)(e:yZ s t):bB C t j:=(h.same e).le hj
variable{C:Nat}
theorem bB.ac7{s:RS}{k:Nat}{a:Int×Int}{l:List D}(h:bB C s (k+1)):bB C (rX s a l) k:=by
 unfold rX
 dsimp only
 split
 ·exact h.le (by omega)
 ·split
  ·have hc:=h.bq (x:=rR (ah 2 (cH s) []) (.list (l.take (IntKind.i64.wrap (s.id-1)).toNat++(.int .i64 a.1::(l.drop (IntKind.i64.wrap (s.id-1)).toNat).drop (1:Int).toNat))))
   exact(hc.follow hc.tm hc.tx).Q7
  ·exact h.bq
theorem bB.agree{s:RS}{k:Nat}(h:bB C s (k+1)):bB C (fx s) k:=by
 unfold fx o4
 refine kC (fun a:List D×Int=>0≤a.2∧a.2≤5) (fun t=>bB C t k) (fun a=>5-a.2.toNat) ?_ _ _ ⟨by show(0:Int)≤0;omega,by show(0:Int)≤5;omega⟩ (Nat.lt_succ_self _)
 intro a ha
 revert ha
 generalize a.2=j
 generalize a.1=l
 rintro⟨h0,h5⟩
 unfold ml
 have hj:j=0∨j=1∨j=2∨j=3∨j=4∨j=5:=by omega
 rcases hj with rfl|rfl|rfl|rfl|rfl|rfl
 ·rw[if_pos (by decide),if_pos (by decide)];refine⟨⟨?_,?_⟩,?_⟩<;>(dsimp only;decide)
 ·rw[if_pos (by decide),if_neg (by decide),if_pos (by decide)];refine⟨⟨?_,?_⟩,?_⟩<;>(dsimp only;decide)
 ·rw[if_pos (by decide),if_neg (by decide),if_neg (by decide),if_pos (by decide)];refine⟨⟨?_,?_⟩,?_⟩<;>(dsimp only;decide)
 ·rw[if_pos (by decide),if_neg (by decide),if_neg (by decide),if_neg (by decide),if_pos (by decide)];refine⟨⟨?_,?_⟩,?_⟩<;>(dsimp only;decide)
 ·rw[if_pos (by decide),if_neg (by decide),if_neg (by decide),if_neg (by decide),if_neg (by decide),if_pos (by decide)];refine⟨⟨?_,?_⟩,?_⟩<;>(dsimp only;decide)
 ·rw[if_neg (by decide)];exact h.ac7
theorem uf{B:Type}{x:List D}{step:Int→RS→(Int×RS)⊕B}{ex:RS→B}{bad:B}{m:Int→RS→Nat}{Q:B→Prop}{k:Nat}{s:RS}(hx:x.length≤10∧ ∀y∈x,1≤y.ab∧y.ab≤5)
  (mj: ∀i t,step i t=if decide (i<(x.length:Int)) then .inl (IntKind.i64.wrap (i+1),cq ((x.getD i.toNat .top).ab) t) else .inr (ex t)) (hm: ∀i t,m i t=x.length-i.toNat) (hs:bB C s (k+10)) (hQ: ∀t,bB C t k→Q (ex t)):
  Q (gI (fun a:Int×RS=>step a.1 a.2) bad (m 0 s+1) (0,s)):=by
 refine kC (fun a:Int×RS=>0≤a.1∧a.1≤x.length∧bB C a.2 (k+(10-a.1.toNat))) Q (fun a=>m a.1 a.2) ?_ _ _ ⟨Int.le_refl 0,Int.natCast_nonneg _,hs⟩ (Nat.lt_succ_self _)
 rintro⟨i,t⟩ ⟨h0,h1,h2⟩
 simp only at h0 h1 h2
 obtain⟨hl,hr⟩:=hx
 rw[mj]
 by_cases aL:decide (i<(x.length:Int))=true
 ·rw[if_pos aL]
  rw[aN]at aL
  have eX:i.toNat<x.length:=by omega
  have hy:=hr _ (List.getElem_mem eX)
  have hg:x.getD i.toNat .top=x[i.toNat] :=by rw[List.getD_eq_getElem?_getD,av eX];rfl
  rw[hg,wrap64 (by omega) (by omega)]
  refine⟨⟨by show 0≤i+1;omega,by show i+1≤_;omega,?_⟩,by show m (i+1) _<m i t;rw[hm,hm];omega⟩
  show bB C (cq _ t) (k+(10-(i+1).toNat))
  refine bB.Ms (h2.le ?_) (by omega) hy.2
  omega
 ·rw[if_neg aL]
  exact hQ t (h2.le (by omega))
theorem bB.aj1{s:RS}{k:Nat}(h:bB C s (k+12)):bB C (AQ s) k:=by
 unfold AQ
 dsimp only
 have hp:bB C (DY (ah 27 Pw [(0, .int .i64 1)]) s).2 (k+11):=h.put (by intro hq;exact absurd hq (by decide))
 exact uf (k:=k+1) (Q:=fun t=>bB C t k) (jn (c:=ah 2 (cH _) []) (jt hp)) (fun _ _=>rfl) (fun _ _=>rfl) hp (fun t ht=>ht.agree)
theorem bB.lead{s:RS}{k:Nat}(h:bB C s (k+12)):bB C (xU s) k:=by
 unfold xU qZ
 refine kC (fun a:Int×RS=>0≤a.1∧a.1≤6∧bB C a.2 (k+12)) (fun t=>bB C t k) (fun a=>6-a.1.toNat) ?_ _ _ ⟨by show(0:Int)≤0;omega,by show(0:Int)≤6;omega,⟨h.may,h.DL,h.DK,h.xM,h.nm,h.ne,h.nc,h.nv,h.cf,h.cs,h.cl,h.tm,h.tx,rfl⟩⟩ (Nat.lt_succ_self _)
 intro a ha
 revert ha
 generalize a.2=t
 generalize a.1=j
 rintro⟨h0,h5,ht⟩
 unfold vF
 have hj:j=0∨j=1∨j=2∨j=3∨j=4∨j=5∨j=6:=by omega
 rcases hj with rfl|rfl|rfl|rfl|rfl|rfl|rfl
 ·rw[if_pos (by decide),if_pos (by decide)];refine⟨⟨?_,?_,ht.same ⟨rfl,rfl,rfl,rfl,rfl,rfl,rfl,rfl,rfl,rfl,rfl,rfl,rfl,rfl⟩⟩,?_⟩<;>(dsimp only;decide)
 ·rw[if_pos (by decide),if_neg (by decide),if_pos (by decide)];refine⟨⟨?_,?_,ht.same ⟨rfl,rfl,rfl,rfl,rfl,rfl,rfl,rfl,rfl,rfl,rfl,rfl,rfl,rfl⟩⟩,?_⟩<;>(dsimp only;decide)
 ·rw[if_pos (by decide),if_neg (by decide),if_neg (by decide),if_pos (by decide)];refine⟨⟨?_,?_,ht.same ⟨rfl,rfl,rfl,rfl,rfl,rfl,rfl,rfl,rfl,rfl,rfl,rfl,rfl,rfl⟩⟩,?_⟩<;>(dsimp only;decide)
 ·rw[if_pos (by decide),if_neg (by decide),if_neg (by decide),if_neg (by decide),if_pos (by decide)];refine⟨⟨?_,?_,ht.same ⟨rfl,rfl,rfl,rfl,rfl,rfl,rfl,rfl,rfl,rfl,rfl,rfl,rfl,rfl⟩⟩,?_⟩<;>(dsimp only;decide)
 ·rw[if_pos (by decide),if_neg (by decide),if_neg (by decide),if_neg (by decide),if_neg (by decide),if_pos (by decide)];refine⟨⟨?_,?_,ht.same ⟨rfl,rfl,rfl,rfl,rfl,rfl,rfl,rfl,rfl,rfl,rfl,rfl,rfl,rfl⟩⟩,?_⟩<;>(dsimp only;decide)
 ·rw[if_pos (by decide),if_neg (by decide),if_neg (by decide),if_neg (by decide),if_neg (by decide),if_neg (by decide),if_pos (by decide)];refine⟨⟨?_,?_,ht.same ⟨rfl,rfl,rfl,rfl,rfl,rfl,rfl,rfl,rfl,rfl,rfl,rfl,rfl,rfl⟩⟩,?_⟩<;>(dsimp only;decide)
 ·rw[if_neg (by decide)];exact ht.aj1
theorem Hx{c:D}{p:Int×Int}{x:List D}{t0:RS}{k:Nat}(hx:x.length≤10)(h:bB C t0 (k+10)):bB C (kE c p x 0 t0) k:=by
 unfold kE
 refine kC (fun a:Int×RS=>0≤a.1∧a.1≤x.length∧bB C a.2 (k+(10-a.1.toNat))) (fun t=>bB C t k) (fun a=>x.length-a.1.toNat) ?_ _ _ ⟨Int.le_refl 0,Int.natCast_nonneg _,h⟩ (Nat.lt_succ_self _)
 intro a ha
 revert ha
 generalize a.2=t
 generalize a.1=i
 rintro⟨i0,i1,i2⟩
 unfold pH
 dsimp only
 by_cases aL:decide (i<(x.length:Int))=true
 ·rw[if_pos aL]
  rw[aN]at aL
  have Wb:IntKind.wrap .i64 (i+1)=i+1:=wrap64 (by omega) (by omega)
  rw[Wb]
  by_cases hv:lI (ah 2 c []) ((x.getD i.toNat .top).ab)=true
  ·rw[if_pos hv]
   refine⟨⟨by show 0≤i+1;omega,by show i+1≤_;omega,?_⟩,by show x.length-(i+1).toNat<x.length-i.toNat;omega⟩
   show bB C (aX _ t) (k+(10-(i+1).toNat))
   exact bB.send (i2.le (by omega))
  ·rw[if_neg hv]
   exact⟨⟨by show 0≤i+1;omega,by show i+1≤_;omega,i2.le (by show k+(10-(i+1).toNat)≤_;omega)⟩,by show x.length-(i+1).toNat<x.length-i.toNat;omega⟩
 ·rw[if_neg aL]
  exact i2.le (by omega)
theorem bB.QV{s:RS}{k:Nat}(h:bB C s k)(ht:s.term<MX):bB C ({dQ ({s with term:=IntKind.i64.wrap (s.term+1),vote:=s.id}:RS) with role:=1,aI:=0,aE:=[.int .i64 s.id]}:RS) k:=by
 have hw:IntKind.wrap .i64 (s.term+1)=s.term+1:=wrap64 (by have:=h.tm;omega) (by simp only[MX]at ht;omega)
 have h1:=h.tm
 have h2:=h.xM
 refine⟨h.may,h.DL,h.DK,h.xM,h.nm,h.ne,h.nc,?_,h.cf,h.cs,h.cl,?_,?_,h.rd⟩
 ·show([D.int .i64 s.id] :List D).length+k≤_
  simp only[List.length_singleton];omega
 ·show 0≤IntKind.wrap .i64 (s.term+1)
  rw[hw];omega
 ·show IntKind.wrap .i64 (s.term+1)≤MX
  rw[hw];omega
theorem bB.aim{s:RS}{k:Nat}{c:D}(h:bB C s (k+13))(hc:dL c=true)(ht:s.term<MX):bB C (mM c s) k:=by
 have h0:=h.QV ht
 unfold mM
 dsimp only
 split
 ·exact(h0.le (by omega:k+12≤k+13)).lead
 ·exact Hx (jn hc).1 (h0.le (by omega))
variable{C:Nat}
theorem bB.ite{k:Nat}{c:Prop}[Decidable c]{a b:RS}(h1:c→bB C a k)(h2: ¬c→bB C b k):bB C (if c then a else b) k:=by
 split
 ·exact h1 (by assumption)
 ·exact h2 (by assumption)
theorem bB.Gf{α:Type}{k:Nat}{c:Prop}[Decidable c]{a b:α×RS}(h1:c→bB C a.2 k)(h2: ¬c→bB C b.2 k):bB C (if c then a else b).2 k:=by
 split
 ·exact h1 (by assumption)
 ·exact h2 (by assumption)
theorem bB.Hs{s:RS}{k:Nat}{x:D}(h:bB C s k):bB C (iG x s) k:=by
 unfold iG j4
 dsimp only
 unfold gI l6
 rw[if_neg (by rw[h.rd];exact(by decide: ¬decide ((0:Int)<(([] :List D).length:Int))=true))]
 exact⟨h.may,h.DL,h.DK,h.xM,h.nm,h.ne,h.nc,h.nv,h.cf,h.cs,h.cl,h.tm,h.tx,rfl⟩
theorem Sh{s:RS}{x y:Int}(h0:0≤x)(h5:x≤5): ∃t,yZ s t∧(ou x y s=fx t∨ou x y s=cq x (fx t)):=by
 have hx:x=0∨x=1∨x=2∨x=3∨x=4∨x=5:=by omega
 unfold ou
 dsimp only
 rcases hx with rfl|rfl|rfl|rfl|rfl|rfl
 ·rw[if_pos (by rfl)];split
  ·refine⟨_,?_, .inr rfl⟩;exact⟨rfl,rfl,rfl,rfl,rfl,rfl,rfl,rfl,rfl,rfl,rfl,rfl,rfl,rfl⟩
  ·refine⟨_,?_, .inl rfl⟩;exact⟨rfl,rfl,rfl,rfl,rfl,rfl,rfl,rfl,rfl,rfl,rfl,rfl,rfl,rfl⟩
 ·rw[if_neg (by simp),if_pos (by rfl)];split
  ·refine⟨_,?_, .inr rfl⟩;exact⟨rfl,rfl,rfl,rfl,rfl,rfl,rfl,rfl,rfl,rfl,rfl,rfl,rfl,rfl⟩
  ·refine⟨_,?_, .inl rfl⟩;exact⟨rfl,rfl,rfl,rfl,rfl,rfl,rfl,rfl,rfl,rfl,rfl,rfl,rfl,rfl⟩
 ·rw[if_neg (by simp),if_neg (by simp),if_pos (by rfl)];split
  ·refine⟨_,?_, .inr rfl⟩;exact⟨rfl,rfl,rfl,rfl,rfl,rfl,rfl,rfl,rfl,rfl,rfl,rfl,rfl,rfl⟩
  ·refine⟨_,?_, .inl rfl⟩;exact⟨rfl,rfl,rfl,rfl,rfl,rfl,rfl,rfl,rfl,rfl,rfl,rfl,rfl,rfl⟩
 ·rw[if_neg (by simp),if_neg (by simp),if_neg (by simp),if_pos (by rfl)];split
  ·refine⟨_,?_, .inr rfl⟩;exact⟨rfl,rfl,rfl,rfl,rfl,rfl,rfl,rfl,rfl,rfl,rfl,rfl,rfl,rfl⟩
  ·refine⟨_,?_, .inl rfl⟩;exact⟨rfl,rfl,rfl,rfl,rfl,rfl,rfl,rfl,rfl,rfl,rfl,rfl,rfl,rfl⟩
 ·rw[if_neg (by simp),if_neg (by simp),if_neg (by simp),if_neg (by simp),if_pos (by rfl)];split
  ·refine⟨_,?_, .inr rfl⟩;exact⟨rfl,rfl,rfl,rfl,rfl,rfl,rfl,rfl,rfl,rfl,rfl,rfl,rfl,rfl⟩
  ·refine⟨_,?_, .inl rfl⟩;exact⟨rfl,rfl,rfl,rfl,rfl,rfl,rfl,rfl,rfl,rfl,rfl,rfl,rfl,rfl⟩
 ·rw[if_neg (by simp),if_neg (by simp),if_neg (by simp),if_neg (by simp),if_neg (by simp),if_pos (by rfl)];split
  ·refine⟨_,?_, .inr rfl⟩;exact⟨rfl,rfl,rfl,rfl,rfl,rfl,rfl,rfl,rfl,rfl,rfl,rfl,rfl,rfl⟩
  ·refine⟨_,?_, .inl rfl⟩;exact⟨rfl,rfl,rfl,rfl,rfl,rfl,rfl,rfl,rfl,rfl,rfl,rfl,rfl,rfl⟩
theorem bB.has{s:RS}{k:Nat}{x y:Int}(h:bB C s (k+2))(h0:0≤x)(h5:x≤5):bB C (ou x y s) k:=by
 obtain⟨t,e,hr⟩:=Sh (s:=s) (y:=y) h0 h5
 have ht:bB C (fx t) (k+1):=(h.same e).agree
 rcases hr with hr|hr
 ·rw[hr];exact ht.le (by omega)
 ·rw[hr];exact ht.Ms h0 h5
theorem Hu{i t:Int}{l:List D}{y:D}: ∀{es:List D},y∈(wY i t l es).2→y∈l∨y∈es
 | [],h=> .inl h
 |x::r,h=>by
  unfold wY at h
  split at h
  ·exact(Hu h).imp id (List.mem_cons_of_mem _)
  ·rcases List.mem_append.1 h with h|h
   ·exact .inl (List.mem_of_mem_take h)
   ·exact .inr h
theorem SB{i t:Int}{l es:List D}{pi pt:Int}{y:D}(h:y∈(jj i t l pi pt es).2):y∈l∨y∈es:=by
 unfold jj at h
 split at h
 ·exact Hu h
 ·exact .inl h
theorem bB.log{s t:RS}{k j:Nat}(h:bB C s k)(KH:j≤k)(hm:de t.li t.lt t.le=true)(hl:t.le.length+j≤4194304)(gz:cI t.le=true)(gS:0<t.li→dL (.agg [.list t.sv, .list t.sl])=true)
  (he:t.id=s.id∧t.msgs=s.msgs∧t.dt=s.dt∧t.bq=s.bq∧t.aE=s.aE∧t.fv=s.fv∧t.fl=s.fl∧t.term=s.term∧t.reads=s.reads):bB C t j:=by
 obtain⟨e4,e5,e6,e7,e8,e9,e10,e13,e14⟩:=he
 have h':=h.le KH
 refine⟨hm,by rw[e4];exact h.DL,by rw[e4];exact h.DK,hl,by rw[e5];exact h'.nm,by rw[e6];exact h'.ne,by rw[e7];exact h'.nc,by rw[e8];exact h'.nv,by rw[e9,e10];exact h.cf,gS,gz,by rw[e13];exact h.tm,by rw[e13];exact h.tx,by rw[e14];exact h.rd⟩
theorem bB.accept{s:RS}{k:Nat}{pi pt:Int}{es:List D}(h:bB C s (k+es.length))(pe:cI es=true):bB C ({s with li:=s.li,lt:=s.lt,le:=(jj s.li s.lt s.le pi pt es).2}:RS) k:=by
 obtain⟨h1,h2⟩:=SD (pi:=pi) (pt:=pt) (es:=es) h.may
 have h3:=h.xM
 refine h.log (by omega) h1 ?_ ?_ h.cs ⟨rfl,rfl,rfl,rfl,rfl,rfl,rfl,rfl,rfl⟩
 ·show(jj s.li s.lt s.le pi pt es).2.length+k≤_
  omega
 ·refine eG.2 fun y hy=> ?_
  rcases SB hy with hy|hy
  ·exact eG.1 h.cl y hy
  ·exact eG.1 pe y hy
theorem bB.dt{s:RS}{k:Nat}{f m:Int}(h:bB C s k):bB C ({dQ s with dt:=cT s.li s.lt s.le f m}:RS) k:=by
 have h1:=h.xM
 have h2:=rU (i:=s.li) (f:=f) (m:=m) (l:=s.le)
 refine⟨h.may,h.DL,h.DK,h.xM,h.nm,?_,h.nc,h.nv,h.cf,h.cs,h.cl,h.tm,h.tx,h.rd⟩
 show(fi s.li s.le f m).length+k≤_
 omega
theorem bB.append{s:RS}{k:Nat}{x:D}(h:bB C s (k+3+(cD 12 x).ak.length))(pe:cI (cD 12 x).ak=true):bB C (lW x s) k:=by
 have h1:bB C (ik (ah 46 x []) s).2 (k+3+(cD 12 x).ak.length):=h.Lb
 unfold lW
 generalize ik (ah 46 x []) s=aY at h1
 dsimp only
 have ha:=bB.accept (pi:=(cD 4 x).ab) (pt:=(cD 5 x).ab) h1 pe
 split
 ·exact h1.le (by omega)
 split
 ·exact bB.send (h1.le (by omega))
 split
 ·exact bB.send (ha.le (by omega))
 split
 ·exact bB.send (bB.bq ((bB.dt ha).le (by omega)))
 ·exact bB.send (bB.bq (ha.le (by omega)))
theorem bB.appended{s:RS}{k:Nat}{x:D}(h:bB C s (k+2))(h0:0≤(cD 1 x).ab)(h5:(cD 1 x).ab≤5):bB C (iF x s) k:=by
 have ha:bB C (iG (ah 46 x []) s) (k+2):=h.Hs
 unfold iF
 generalize iG (ah 46 x []) s=dj at ha
 have hx:(cD 1 x).ab=0∨(cD 1 x).ab=1∨(cD 1 x).ab=2∨(cD 1 x).ab=3∨(cD 1 x).ab=4∨(cD 1 x).ab=5:=by omega
 dsimp only
 refine bB.ite (fun _=>h.le (by omega)) (fun _=> ?_)
 have hl: ∀(t:RS) (n:Int),yZ dj t→0≤n→n≤5→bB C (cq n t) k:=fun t n e h0 h5=>((ha.same e).le (by omega:k+1≤k+2)).Ms h0 h5
 (repeat' (first|(with_reducible refine bB.ite (fun _=> ?_) (fun _=> ?_))|(with_reducible refine bB.Gf (fun _=> ?_) (fun _=> ?_))))
 all_goals first
  |exact ha.has (by decide) (by decide)
  |(refine hl _ _ ?_ (by decide) (by decide);exact⟨rfl,rfl,rfl,rfl,rfl,rfl,rfl,rfl,rfl,rfl,rfl,rfl,rfl,rfl⟩)
  |(simp only[beq_iff_eq]at*;omega)
theorem bB.UP{s:RS}{k:Nat}{x:D}(h:bB C s (k+2))(h0:0≤(cD 1 x).ab)(h5:(cD 1 x).ab≤5):bB C (jX x s) k:=by
 unfold jX
 have hx:(cD 1 x).ab=0∨(cD 1 x).ab=1∨(cD 1 x).ab=2∨(cD 1 x).ab=3∨(cD 1 x).ab=4∨(cD 1 x).ab=5:=by omega
 dsimp only
 have hl: ∀(t:RS) (n:Int),yZ s t→0≤n→n≤5→bB C (cq n t) k:=fun t n e h0 h5=>((h.same e).le (by omega:k+1≤k+2)).Ms h0 h5
 refine bB.ite (fun _=>h.le (by omega)) (fun _=> ?_)
 refine bB.ite (fun _=>h.has h0 h5) (fun _=> ?_)
 (repeat' (first|(with_reducible refine bB.ite (fun _=> ?_) (fun _=> ?_))|(with_reducible refine bB.Gf (fun _=> ?_) (fun _=> ?_))))
 all_goals first
  |exact h.le (by omega)
  |(refine hl _ _ ?_ (by decide) (by decide);exact⟨rfl,rfl,rfl,rfl,rfl,rfl,rfl,rfl,rfl,rfl,rfl,rfl,rfl,rfl⟩)
  |(simp only[beq_iff_eq]at*;omega)
theorem vH{a b:Bool}(h: ¬(a|| !b)=true):b=true:=by cases a<;>cases b<;>simp_all
theorem NT{i t:Int}{l:List D}{k:Int}{y:D}(h:y∈(iW i t l k).2.2):y∈l:=by
 unfold iW at h
 split at h
 ·exact h
 ·exact List.mem_of_mem_drop h
theorem VD{i t:Int}(h: ¬(cD 0 (iU i t)).dT=true):okB i t=true∧cD 1 (iU i t)=su i t [] :=by
 unfold iU at h⊢
 split
 ·rename_i h1;exact⟨h1.1,rfl⟩
 ·rename_i h1;rw[if_neg h1]at h;exact absurd rfl h
theorem bB.WD{s t:RS}{k j:Nat}{c:Int}(h:bB C s k)(KH:j≤k)(hl:(t.li,t.lt,t.le)=iW s.li s.lt s.le c)(hc:dL (.agg [.list t.sv, .list t.sl])=true)
  (he:t.id=s.id∧t.msgs=s.msgs∧t.dt=s.dt∧t.bq=s.bq∧t.aE=s.aE∧t.fv=s.fv∧t.fl=s.fl∧t.term=s.term∧t.reads=s.reads):bB C t j:=by
 obtain⟨h1,h2⟩:=NU (k:=c) h.may
 have h3:=h.xM
 rw[←hl]at h1 h2
 simp only at h1 h2
 refine h.log KH h1 (by omega) (Fv h.cl fun y hy=>NT (i:=s.li) (t:=s.lt) (k:=c) ?_) (fun _=>hc) he
 rw[←hl];exact hy
theorem bB.WC{s t:RS}{k j:Nat}{i m:Int}(h:bB C s k)(KH:j≤k)(hn: ¬(cD 0 (iU i m)).dT=true)(hl:(t.li,t.lt,t.le)=((cD 0 (cD 1 (iU i m))).ab,(cD 1 (cD 1 (iU i m))).ab,(cD 2 (cD 1 (iU i m))).ak))(hc:dL (.agg [.list t.sv, .list t.sl])=true)
  (he:t.id=s.id∧t.msgs=s.msgs∧t.dt=s.dt∧t.bq=s.bq∧t.aE=s.aE∧t.fv=s.fv∧t.fl=s.fl∧t.term=s.term∧t.reads=s.reads):bB C t j:=by
 obtain⟨h1,h2⟩:=VD hn
 have h3:=h.xM
 rw[h2]at hl
 injection hl with e1 e2
 injection e2 with e2 e3
 replace e1:t.li=i:=e1
 replace e2:t.lt=m:=e2
 replace e3:t.le=[] :=e3
 refine h.log KH ?_ (by rw[e3];simp;omega) (by rw[e3];rfl) (fun _=>hc) he
 rw[e1,e2,e3]
 exact fk.2 ⟨jd.1 h1,rfl⟩
theorem bB.snap{s:RS}{k:Nat}{x:D}(h:bB C s (k+1)):bB C (uR x s) k:=by
 have h1:bB C (ik (ah 46 x []) s).2 (k+1):=h.Lb
 unfold uR
 generalize ik (ah 46 x []) s=aY at h1
 dsimp only
 refine bB.ite (fun _=>h1.le (by omega)) (fun _=> ?_)
 refine bB.ite (fun _=>bB.send h1) (fun _=> ?_)
 have hA: ∀(t:RS) (m:D),yZ aY.2 t→bB C (aX m t) k:=fun t m e=>bB.send (h1.same e)
 have hB: ∀(t:RS) (m:D) (c:Int),(t.li,t.lt,t.le)=iW aY.2.li aY.2.lt aY.2.le c→dL (.agg [.list t.sv, .list t.sl])=true→(t.id=aY.2.id∧t.msgs=aY.2.msgs∧t.dt=aY.2.dt∧t.bq=aY.2.bq∧t.aE=aY.2.aE∧t.fv=aY.2.fv∧t.fl=aY.2.fl∧t.term=aY.2.term∧t.reads=aY.2.reads)→bB C (aX m (dQ t)) k:=fun t m c e1 e2 e3=>bB.send (bB.saved (h1.WD (Nat.le_refl _) e1 e2 e3))
 have hC: ∀(t:RS) (m:D) (i n:Int),¬(cD 0 (iU i n)).dT=true→(t.li,t.lt,t.le)=((cD 0 (cD 1 (iU i n))).ab,(cD 1 (cD 1 (iU i n))).ab,(cD 2 (cD 1 (iU i n))).ak)→dL (.agg [.list t.sv, .list t.sl])=true→(t.id=aY.2.id∧t.msgs=aY.2.msgs∧t.dt=aY.2.dt∧t.bq=aY.2.bq∧t.aE=aY.2.aE∧t.fv=aY.2.fv∧t.fl=aY.2.fl∧t.term=aY.2.term∧t.reads=aY.2.reads)→bB C (aX m (dQ t)) k:=fun t m i n e0 e1 e2 e3=>bB.send (bB.saved (h1.WC (Nat.le_refl _) e0 e1 e2 e3))
 (repeat' (first|(with_reducible refine bB.ite (fun _=> ?_) (fun _=> ?_))|(with_reducible refine bB.Gf (fun _=> ?_) (fun _=> ?_))))
 all_goals first
  |(refine hA _ _ ?_;exact⟨rfl,rfl,rfl,rfl,rfl,rfl,rfl,rfl,rfl,rfl,rfl,rfl,rfl,rfl⟩)
  |(refine hB _ _ (cD 4 x).ab ?_ ?_ ?_;exact rfl;exact vH ‹¬(_|| !_)=true›;exact⟨rfl,rfl,rfl,rfl,rfl,rfl,rfl,rfl,rfl⟩)
  |(refine hC _ _ (cD 4 x).ab (cD 5 x).ab ?_ ?_ ?_ ?_;assumption;exact rfl;exact vH ‹¬(_|| !_)=true›;exact⟨rfl,rfl,rfl,rfl,rfl,rfl,rfl,rfl,rfl⟩)
theorem bB.aik{s:RS}{k:Nat}{x:D}(h:bB C s (k+13)):bB C (pq x s) k:=by
 have hv:=h.nv
 have ho:bB C ({s with aE:=s.aE++[cD 1 x]}:RS) (k+12):=by
  have h':=h.le (by omega:k+12≤k+13)
  refine⟨h'.may,h'.DL,h'.DK,h'.xM,h'.nm,h'.ne,h'.nc,?_,h'.cf,h'.cs,h'.cl,h'.tm,h'.tx,h'.rd⟩
  show(s.aE++[cD 1 x]).length+(k+12)≤_
  rw[List.length_append,List.length_singleton];omega
 unfold pq
 dsimp only
 (repeat' (first|(with_reducible refine bB.ite (fun _=> ?_) (fun _=> ?_))|(with_reducible refine bB.Gf (fun _=> ?_) (fun _=> ?_))))
 all_goals first
  |exact h.le (by omega)
  |exact ho.le (by omega)
  |exact ho.lead
theorem bB.tick{s:RS}{k:Nat}{x:Int}(h:bB C s (k+13)):bB C (js x s).2 k:=by
 unfold js
 dsimp only
 have hq: ∀t:RS,yZ s t→bB C (cE t).2 k:=fun t e=>((h.same e).le (by omega:k≤k+13)).done
 have mj: ∀t:RS,yZ s t→t.term<1099511627776→bB C (cE (mM (ah 2 (cH t) []) t)).2 k:=fun t e ht=>((h.same e).aim (jt (h.same e)) ht).done
 have xf:bB C (mQ (eO (ah 2 (cH ({s with wait:=0}:RS)) []) ({s with wait:=0}:RS)) 0 ({s with wait:=0}:RS)).2 k:=by
  have h0:bB C ({s with wait:=0}:RS) (k+13):=h.same ⟨rfl,rfl,rfl,rfl,rfl,rfl,rfl,rfl,rfl,rfl,rfl,rfl,rfl,rfl⟩
  exact uf (k:=k) (Q:=fun t:D×RS=>bB C t.2 k) (jn (c:=ah 2 (cH _) []) (jt h0)) (fun _ _=>rfl) (fun _ _=>rfl) (h0.le (by omega)) (fun t ht=>ht.done)
 (repeat' (first|(with_reducible refine bB.ite (fun _=> ?_) (fun _=> ?_))|(with_reducible refine bB.Gf (fun _=> ?_) (fun _=> ?_))))
 all_goals (try dsimp only)
 all_goals first
  |with_reducible exact xf
  |(with_reducible refine hq _ ?_;exact⟨rfl,rfl,rfl,rfl,rfl,rfl,rfl,rfl,rfl,rfl,rfl,rfl,rfl,rfl⟩)
  |(rename_i hz;simp only[aw,aN]at hz;with_reducible refine mj _ ?_ hz.2;exact⟨rfl,rfl,rfl,rfl,rfl,rfl,rfl,rfl,rfl,rfl,rfl,rfl,rfl,rfl⟩)
theorem bB.step{s:RS}{k:Nat}{x:D}(h:bB C s (k+20+(cD 12 x).ak.length)):bB C (eD x s).2 k:=by
 unfold eD
 dsimp only
 have hd: ∀(t:RS) (j:Nat),k≤j→bB C t j→bB C (cE t).2 k:=fun t j hj ht=>(ht.le hj).done
 refine bB.Gf (fun _=>(h.le (by omega)).done) (fun hq1=> ?_)
 have pe:cI (cD 12 x).ak=true:=vH hq1
 refine bB.Gf (fun _=>(h.le (by omega)).done) (fun Y7=> ?_)
 have gY:qc (cD 1 x).ab 1 5=true∧qc (cD 3 x).ab 1 1099511627776=true:=by
  simp only[Bool.not_eq_true,Bool.or_eq_false_iff,Bool.not_eq_false',aw]at Y7
  exact⟨Y7.1.1.1.2,Y7.1.1.2⟩
 obtain⟨Wg,KJ⟩:=gY
 simp only[qc,aw,aN]at Wg KJ
 have hf:bB C (iE (cD 3 x).ab 0 s) (k+20+(cD 12 x).ak.length):=h.follow (by omega) KJ.2
 have h0:0≤(cD 1 (ah 46 x [])).ab:=by show 0≤(cD 1 x).ab;omega
 have h5:(cD 1 (ah 46 x [])).ab≤5:=Wg.2
 have eI: ∀t:RS,bB C t (k+20+(cD 12 x).ak.length)→bB C (cE t).2 k∧bB C (cE (gR (ah 46 x []) t)).2 k∧bB C (cE (uQ (ah 46 x []) t)).2 k∧bB C (cE (pq (ah 46 x []) t)).2 k∧bB C (cE (lW (ah 46 x []) t)).2 k∧bB C (cE (iF (ah 46 x []) t)).2 k∧bB C (cE (uR (ah 46 x []) t)).2 k∧bB C (cE (jX (ah 46 x []) t)).2 k:=fun t ht=>
  ⟨(ht.le (by omega)).done,(bB.refuse (ht.le (by omega))).done,(bB.vote (ht.le (by omega))).done,(bB.aik (ht.le (by omega))).done,(bB.append (x:=ah 46 x []) (ht.le (by show k+3+(cD 12 x).ak.length≤_;omega)) pe).done,(bB.appended (ht.le (by omega)) h0 h5).done,(bB.snap (ht.le (by omega))).done,(bB.UP (ht.le (by omega)) h0 h5).done⟩
 obtain⟨a1,a2,a3,a4,a5,a6,a7,a8⟩:=eI _ h
 obtain⟨b1,b2,b3,b4,b5,b6,b7,b8⟩:=eI _ hf
 (repeat' (first|(with_reducible refine bB.ite (fun _=> ?_) (fun _=> ?_))|(with_reducible refine bB.Gf (fun _=> ?_) (fun _=> ?_))))
 all_goals first|exact a1|exact a2|exact a3|exact a4|exact a5|exact a6|exact a7|exact a8|exact b1|exact b2|exact b3|exact b4|exact b5|exact b6|exact b7|exact b8
theorem HK(x:D)(s:RS):(ik x s).2.bc.length≤s.bc.length:=by
 unfold ik iE
 by_cases h:(s.role==2)=true
 ·rw[if_pos h];exact Nat.le_refl _
 ·rw[if_neg h]
  by_cases h2:decide (s.term>s.term)=true
  ·rw[if_pos h2];exact Nat.le_refl _
  ·rw[if_neg h2];exact Nat.le_refl _
theorem Nn{s:RS}(hs:bV (.bQ cY) (encS s)):s.bc.length≤140737488355328:=by
 obtain⟨x,hx,hh⟩:=bX hs 50 (.list (.int .u8)) (by rw[Ty.cC];rfl)
 have e:(encS s)[50]? =some (.list s.bc):=rfl
 rw[e]at hx
 injection hx with hx
 subst hx
 obtain⟨l,hl,h1,_⟩:=aD.1 hh
 injection hl with hl
 subst hl
 have h2:=h1.2
 have h3:(Ty.int .u8).bytes=1:=rfl
 rw[h3,Nat.mul_one]at h2
 exact h2
theorem c79:ax Try.prog 79 s79 (pre 79) (aK 79):=by
 refine aH (given:=[]) mix (vt (Φ:=aK) (Pre:=pre)) Try.func79 (by kernel_rfl) (v:=aeQ) (by kernel_rfl) ?_
 intro ds h hp
 obtain⟨_,_,rfl,gl,_,_,rfl,gb,rfl⟩:=h
 obtain⟨l,rfl,hl,Zf⟩:=uW gl
 obtain⟨b,rfl,hb⟩:=bF.1 gb
 rw[tn]at hb
 have hR:aK 79 [.list (l.map (D.int .i64)), .int .i64 b] = .int .i64 (findF (fun y=>y==b) l 0):=by simp[aK,cK,aQ]
 simp[aeQ,cO,cg,cb,bh,cd,bG,cN,cQ,cP,dI,den,U.den,B.den,dp,aq,bu,cn,ch,ck,df,aQ,bn,List.getElem?_map,Option.map_some,Option.getD_some,List.length_map,pre,hR]
 refine jS.intro (fun xs=> ∃n:Nat,xs=[.int .i64 0, .int .i64 n] ∧n≤l.length∧findF (fun y=>y==b) (l.drop n) n=findF (fun y=>y==b) l 0) (fun xs=>l.length-(I (.list xs) 1).toNat) ⟨0,rfl,Nat.zero_le _,by simp⟩ ?_
 intro xs pT hJ
 obtain⟨n,rfl,hle,qe⟩:=hJ
 clear pT
 rcases hx:l[n]? with _|x
 ·have lR:=rQ hx
  have aL: ¬((n:Int)<l.length):=by omega
  rw[List.drop_of_length_le lR,findF]at qe
  simp[aQ,aL,←qe]
 ·have aL:=rN hx
  have iR:(n:Int)<l.length:=by omega
  have H3:=aS hx
  have fC:IntKind.wrap .i64 ((n:Int)+1)=(n:Int)+1:=wrap64 (by omega) (by omega)
  rw[Dw hx,findF]at qe
  simp[aQ,hx,iR,fC,Nat.not_le.2 aL]
  refine⟨fun h=> ?_,fun h=>⟨⟨n+1,by simp,aL,?_⟩,?_⟩⟩
  ·rw[←qe,if_pos (by simp[h])]
  ·rw[←qe,if_neg (by simp;exact fun e=>h e.symm)];congr 1
  ·show l.length-((n:Int)+1).toNat<l.length-(n:Int).toNat
   omega
theorem XU:gM Try.prog pre aK afx:=aj c79 vt
theorem c56:ax Try.prog 56 s56 (pre 56) (aK 56):=by
 refine aH (given:=[]) mix XU Try.func56 (by kernel_rfl) (v:=ae4) (by kernel_rfl) ?_
 intro ds h hp
 obtain⟨_,_,rfl,gl,_,_,rfl,gb,rfl⟩:=h
 obtain⟨l,rfl,hl,Zf⟩:=uW gl
 obtain⟨b,rfl,hb⟩:=bF.1 gb
 rw[tn]at hb
 have hR:aK 56 [.list (l.map (D.int .i64)), .int .i64 b] = .bool (decide (b∈l)):=by simp[aK,cK,aQ]
 have hI:aK 79 [.list (l.map (D.int .i64)), .int .i64 b] = .int .i64 (findF (fun y=>y==b) l 0):=by simp[aK,cK,aQ]
 simp[ae4,cO,cg,cb,bh,cd,bG,cN,cQ,cP,dI,den,U.den,B.den,dp,aq,bu,cn,ch,ck,df,aQ,bn,List.getElem?_map,Option.map_some,Option.getD_some,List.length_map,pre,hR,hI]
 rcases yu (fun y=>y==b) l 0 with⟨h1,h2⟩|⟨n,y,h1,h2,h3,_⟩
 ·have:b∉l:=fun h=>by have:=h2 b h;simp at this
  simp[h1,this]
 ·have hm:=aS h2
  rw[beq_iff_eq]at h3;subst h3
  simp only[h1,hm,iff_true];omega
theorem akS:gM Try.prog pre aK afK:=aj c56 XU
theorem c61:ax Try.prog 61 s61 (pre 61) (aK 61):=Ky ND Try.func61 (by kernel_rfl)
theorem akR:gM Try.prog pre aK afG:=aj c61 akS
theorem c82:ax Try.prog 82 s82 (pre 82) (aK 82):=M8 RY Try.func82 (by kernel_rfl)
theorem akQ:gM Try.prog pre aK afw:=aj c82 akR
theorem c83:ax Try.prog 83 s83 (pre 83) (aK 83):=FA HJ Try.func83 (by kernel_rfl)
theorem XS:gM Try.prog pre aK afv:=aj c83 akQ
theorem c55:ax Try.prog 55 s55 (pre 55) (aK 55):=by
 refine aH (given:=[]) mix XS Try.func55 (by kernel_rfl) (v:=ae5) (by kernel_rfl) ?_
 intro ds h hp
 obtain⟨_,_,rfl,gl,rfl⟩:=h
 obtain⟨l,rfl,hl,Zf⟩:=uW gl
 have hR:aK 55 [.list (l.map (D.int .i64))] = .bool (qz 0 l):=by simp[aK,cK]
 simp[ae5,cO,cg,cb,bh,cd,bG,cN,cQ,cP,dI,den,U.den,B.den,dp,aq,bu,cn,ch,ck,df,aQ,bn,List.getElem?_map,Option.map_some,Option.getD_some,List.length_map,pre,hR]
 obtain⟨J,wJ⟩: ∃J:List D→Prop,∀xs,J xs↔ ∃n:Nat,xs=[.bool false, .int .i64 n] ∧n≤l.length∧qz (uU 0 (l.take n)) (l.drop n)=qz 0 l:=⟨_,fun _=>Iff.rfl⟩
 obtain⟨M,BZ⟩: ∃M:List D→Nat,∀xs,M xs=l.length-(I (.list xs) 1).toNat:=⟨_,fun _=>rfl⟩
 refine jS.intro J M ((wJ _).2 ⟨0,rfl,Nat.zero_le _,by simp[uU]⟩) ?_
 intro xs pT hJ
 obtain⟨n,rfl,hle,hf⟩:=(wJ _).1 hJ
 clear hJ
 clear pT
 rcases hx:l[n]? with _|x
 ·have lR:=rQ hx
  have aL: ¬((n:Int)<l.length):=by omega
  rw[List.drop_of_length_le lR,qz]at hf
  simp[aQ,aL,←hf]
 ·have aL:=rN hx
  have iR:(n:Int)<l.length:=by omega
  have H3:=aS hx
  have fC:IntKind.wrap .i64 ((n:Int)+1)=(n:Int)+1:=wrap64 (by omega) (by omega)
  have ht:l.take (n+1)=l.take n++[x] :=by rw[List.take_add_one,hx,Option.toList_some]
  have kZ:uU 0 (l.take (n+1))=x:=by rw[ht,pQ];rfl
  obtain⟨p,hp⟩: ∃p,p=uU 0 (l.take n):=⟨_,rfl⟩
  rw[←hp,Dw hx,qz]at hf
  have fO:1≤x→x≤5→p<x→J [.bool false, .int .i64 ((n:Int)+1)] ∧M [.bool false, .int .i64 ((n:Int)+1)] <M [.bool false, .int .i64 (n:Int)] :=by
   intro h1 h2 h3
   refine⟨(wJ _).2 ⟨n+1,rfl,aL,?_⟩,?_⟩
   ·rw[kZ,←hf];simp[h1,h2,h3]
   ·rw[BZ,BZ]
    show l.length-((n:Int)+1).toNat<l.length-(n:Int).toNat
    omega
  have Pq: ¬(1≤x∧x≤5∧p<x)→qz 0 l=false:=by
   intro hc
   rw[←hf]
   have:(decide (1≤x)&&decide (x≤5)&&decide (p<x))=false:=by
    rw[Bool.eq_false_iff];intro h
    simp only[aw,aN]at h
    exact hc ⟨h.1.1,h.1.2,h.2⟩
   rw[this,Bool.false_and]
  by_cases hn:n=0
  ·have hp0:p=0:=by rw[hp,hn];rfl
   have TD: ¬0<n:=by omega
   simp[aQ,hx,iR,fC,Nat.not_le.2 aL,TD]
   refine⟨fun h=>Pq (by omega),fun h1 h2=>fO h1 h2 (by omega)⟩
  ·obtain⟨y,hy⟩: ∃y,l[n-1]? =some y:=⟨_,av (by omega)⟩
   have hpy:p=y:=by
    rw[hp]
    have e:n=n-1+1:=by omega
    rw[e,List.take_add_one,hy,Option.toList_some,pQ];rfl
   have hwm:IntKind.wrap .i64 ((n:Int)-1)=((n-1:Nat):Int):=by rw[wrap64 (by omega) (by omega)];omega
   have aqM:((n-1:Nat):Int)<l.length:=by omega
   have TD:0<n:=by omega
   simp[aQ,hx,hy,iR,fC,hwm,aqM,Nat.not_le.2 aL,TD]
   exact⟨fun h=>Pq (by omega),fun h1 h2 h3=>fO h1 h2 (by omega)⟩
theorem Yg:gM Try.prog pre aK afL:=aj c55 XS
theorem c21:ax Try.prog 21 s21 (pre 21) (aK 21):=by
 refine aH (given:=[]) mix Yg Try.func21 (by kernel_rfl) (v:=afq) (by kernel_rfl) ?_
 intro ds h hp
 obtain⟨_,_,rfl,ga,rfl⟩:=h
 obtain⟨va,la,rfl,lL,MB,kV,MC⟩:=vg ga
 simp[afq,cO,cg,cb,bh,cd,bG,cN,cQ,cP,dI,den,U.den,B.den,dp,aq,bu,cn,ch,ck,df,aQ,bn,List.getElem?_map,Option.map_some,Option.getD_some,List.length_map,pre,arn,ah8]
 refine⟨fun h=> ?_,fun h1 h2 h3=> ?_⟩
 ·simp only[zU,Bool.and_eq_false_iff]
  rcases h with(h|h)|h
  ·exact .inl (.inl (.inl h))
  ·exact .inl (.inl (.inr h))
  ·exact .inl (.inr (by simp[h]))
 have hm:zU va la=decide (∀x∈la,x∉va):=by simp[zU,h1,h2,h3]
 obtain⟨J,wJ⟩: ∃J:List D→Prop,∀xs,J xs↔ ∃n:Nat,xs=[.bool false, .int .i64 n] ∧n≤la.length∧ ∀y∈la.take n,y∉va:=⟨_,fun _=>Iff.rfl⟩
 obtain⟨M,BZ⟩: ∃M:List D→Nat,∀xs,M xs=la.length-(I (.list xs) 1).toNat:=⟨_,fun _=>rfl⟩
 refine jS.intro J M ((wJ _).2 ⟨0,rfl,Nat.zero_le _,by simp⟩) ?_
 intro xs pT hJ
 obtain⟨n,rfl,hle,qe⟩:=(wJ _).1 hJ
 clear hJ
 clear pT
 rcases hx:la[n]? with _|x
 ·have lR:=rQ hx
  have aL: ¬((n:Int)<la.length):=by omega
  have e:n=la.length:=by omega
  subst e
  rw[List.take_length]at qe
  simp[aQ,hm]
  exact qe
 ·have aL:=rN hx
  have iR:(n:Int)<la.length:=by omega
  have H3:=aS hx
  have fC:IntKind.wrap .i64 ((n:Int)+1)=(n:Int)+1:=wrap64 (by omega) (by omega)
  have ht:la.take (n+1)=la.take n++[x] :=by rw[List.take_add_one,hx,Option.toList_some]
  simp[aQ,bn,hx,iR,fC,Nat.not_le.2 aL,aa7,hm]
  refine⟨fun h=>⟨x,H3,h⟩,fun h=>⟨(wJ _).2 ⟨n+1,rfl,aL,?_⟩,?_⟩⟩
  ·intro y hy
   rw[ht]at hy
   rcases List.mem_append.1 hy with hy|hy
   ·exact qe y hy
   ·rw[List.mem_singleton]at hy;rw[hy];exact h
  ·rw[BZ,BZ]
   show la.length-((n:Int)+1).toNat<la.length-(n:Int).toNat
   omega
theorem YI:gM Try.prog pre aK af2:=aj c21 Yg
theorem c36:ax Try.prog 36 s36 (pre 36) (aK 36):=by
 refine aH (given:=[]) mix YI Try.func36 (by kernel_rfl) (v:=afj) (by kernel_rfl) ?_
 intro ds h hp
 obtain⟨_,_,rfl,ga,_,_,rfl,gb,rfl⟩:=h
 obtain⟨va,la,rfl,lL,MB,kV,MC⟩:=vg ga
 obtain⟨b,rfl,hb⟩:=bF.1 gb
 rw[tn]at hb
 simp[afj,cO,cg,cb,bh,cd,bG,cN,cQ,cP,dI,den,U.den,B.den,dp,aq,bu,cn,ch,ck,df,aQ,bn,List.getElem?_map,Option.map_some,Option.getD_some,List.length_map,pre,aa7,ah4]
theorem Yw:gM Try.prog pre aK afT:=aj c36 YI
theorem c63:ax Try.prog 63 s63 (pre 63) (aK 63):=by
 refine aH (given:=[]) mix Yw Try.func63 (by kernel_rfl) (v:=ae0) (by kernel_rfl) ?_
 intro ds h hp
 obtain⟨_,_,rfl,ga,rfl⟩:=h
 obtain⟨va,la,rfl,lL,MB,kV,MC⟩:=vg ga
 replace hp:(va.length+la.length)*8≤140737488355328:=by
  have h0:((vo (.agg [.list (va.map (D.int .i64)), .list (la.map (D.int .i64))])).length+(lr (.agg [.list (va.map (D.int .i64)), .list (la.map (D.int .i64))])).length)*8≤140737488355328:=hp
  rwa [xS,Gs]at h0
 simp[ae0,cO,cg,cb,bh,cd,bG,cN,cQ,cP,dI,den,U.den,B.den,dp,aq,bu,cn,ch,ck,df,aQ,bn,List.getElem?_map,Option.map_some,Option.getD_some,List.length_map,pre,aru,akE,art,arp,Ge]
 exact⟨Nat.le_trans (show _≤140737488355328 by omega) (by decide),hp⟩
theorem Yb:gM Try.prog pre aK afF:=aj c63 Yw
theorem c66:ax Try.prog 66 s66 (pre 66) (aK 66):=by
 refine aH (given:=[]) mix Yb Try.func66 (by kernel_rfl) (v:=aeY) (by kernel_rfl) ?_
 intro ds h hp
 obtain⟨_,_,rfl,ga,_,_,rfl,gy,rfl⟩:=h
 obtain⟨va,la,rfl,lL,MB,kV,MC⟩:=vg ga
 obtain⟨y,rfl,hy,hky⟩:=uW gy
 simp[aeY,cO,cg,cb,bh,cd,bG,cN,cQ,cP,dI,den,U.den,B.den,dp,aq,bu,cn,ch,ck,df,aQ,bn,List.getElem?_map,Option.map_some,Option.getD_some,List.length_map,pre,arq]
 obtain⟨J,wJ⟩: ∃J:List D→Prop,∀xs,J xs↔ ∃n:Nat,xs=[.int .i64 (yY (va.take n) y), .int .i64 n] ∧n≤va.length:=⟨_,fun _=>Iff.rfl⟩
 obtain⟨M,BZ⟩: ∃M:List D→Nat,∀xs,M xs=va.length-(I (.list xs) 1).toNat:=⟨_,fun _=>rfl⟩
 refine jS.intro J M ((wJ _).2 ⟨0,rfl,Nat.zero_le _⟩) ?_
 intro xs pT hJ
 obtain⟨n,rfl,hle⟩:=(wJ _).1 hJ
 clear hJ
 have gz:=VM (va.take n) y
 rw[List.length_take]at gz
 clear pT
 rcases hx:va[n]? with _|x
 ·have lR:=rQ hx
  have aL: ¬((n:Int)<va.length):=by omega
  have e:n=va.length:=by omega
  subst e
  rw[List.take_length]at gz⊢
  have eK:IntKind.wrap .i64 (2*(yY va y:Int))=2*(yY va y:Int):=wrap64 (by omega) (by omega)
  simp[aQ,eK,II]
 ·have aL:=rN hx
  have iR:(n:Int)<va.length:=by omega
  have H3:=aS hx
  have fC:IntKind.wrap .i64 ((n:Int)+1)=(n:Int)+1:=wrap64 (by omega) (by omega)
  have F5:=NV (y:=y) hx
  have eK:IntKind.wrap .i64 ((yY (va.take n) y:Int)+1)=(yY (va.take n) y:Int)+1:=wrap64 (by omega) (by omega)
  have hme:va.length-((n:Int)+1).toNat<va.length-(n:Int).toNat:=by omega
  simp[aQ,bn,hx,iR,fC,eK,Nat.not_le.2 aL,aa7]
  refine⟨fun h=>⟨(wJ _).2 ⟨n+1,?_,aL⟩,?_⟩,fun h=>⟨(wJ _).2 ⟨n+1,?_,aL⟩,?_⟩⟩
  ·rw[F5,if_pos h];rfl
  ·rw[BZ,BZ];exact hme
  ·rw[F5,if_neg h];rfl
  ·rw[BZ,BZ];exact hme
theorem X8:gM Try.prog pre aK afE:=aj c66 Yb
theorem c72:ax Try.prog 72 YS (pre 72) (aK 72):=by
 refine aH (given:=[]) mix X8 Try.func72 (by kernel_rfl) (v:=aeV) (by kernel_rfl) ?_
 intro ds h hp
 obtain⟨_,_,rfl,ga,_,_,rfl,gm,rfl⟩:=h
 obtain⟨va,la,rfl,lL,MB,kV,MC⟩:=vg ga
 obtain⟨m,rfl,hm,hkm⟩:=uW gm
 simp[aeV,cO,cg,cb,bh,cd,bG,cN,cQ,cP,dI,den,U.den,B.den,dp,aq,bu,cn,ch,ck,df,aQ,bn,List.getElem?_map,Option.map_some,Option.getD_some,List.length_map,pre,arw]
 obtain⟨J,wJ⟩: ∃J:List D→Prop,∀xs,J xs↔ ∃n:Nat,xs=[.list (((va.take n).map (lT m)).map (D.int .i64)), .int .i64 n] ∧n≤va.length:=⟨_,fun _=>Iff.rfl⟩
 obtain⟨M,BZ⟩: ∃M:List D→Nat,∀xs,M xs=va.length-(I (.list xs) 1).toNat:=⟨_,fun _=>rfl⟩
 refine jS.intro J M ((wJ _).2 ⟨0,rfl,Nat.zero_le _⟩) ?_
 intro xs pT hJ
 obtain⟨n,rfl,hle⟩:=(wJ _).1 hJ
 clear hJ
 clear pT
 rcases hx:va[n]? with _|x
 ·have lR:=rQ hx
  have aL: ¬((n:Int)<va.length):=by omega
  have e:n=va.length:=by omega
  subst e
  rw[List.take_length]
  cases lL:va with
  |nil=>simp[aQ,bu,uO]
  |cons q r=>
   rw[←lL]
   have hlen:=vz va m
   have ev:0<va.length:=by rw[lL];simp
   have eK:IntKind.wrap .i64 ((va.length:Int)-1)=((va.length-1:Nat):Int):=by rw[wrap64 (by omega) (by omega)];omega
   have hq:Int.tdiv ((va.length-1:Nat):Int) 2=(((va.length-1)/2:Nat):Int):=by rw[Int.tdiv_eq_ediv_of_nonneg (by omega)];omega
   have gw:IntKind.wrap .i64 (((va.length-1)/2:Nat):Int)=(((va.length-1)/2:Nat):Int):=wrap64 (by omega) (by omega)
   have dH:va≠ [] :=by rw[lL];simp
   obtain⟨z,hz⟩: ∃z,(iI (va.map (lT m)))[(va.length-1)/2]? =some z:=⟨_,av (by rw[hlen];omega)⟩
   have ha:uO va m=z:=by unfold uO;rw[if_neg dH,List.getD_eq_getElem?_getD,hz];rfl
   have Cn:(((va.length-1)/2:Nat):Int)<va.length:=by omega
   simp[-List.map_map,-Int.natCast_ediv,aQ,bu,ah5,hlen,eK,hq,gw,hz,ha,dH]
   omega
 ·have aL:=rN hx
  have iR:(n:Int)<va.length:=by omega
  have H3:=aS hx
  have fC:IntKind.wrap .i64 ((n:Int)+1)=(n:Int)+1:=wrap64 (by omega) (by omega)
  have F5:(va.take (n+1)).map (lT m)=(va.take n).map (lT m)++[lT m x] :=by rw[List.take_add_one,hx,Option.toList_some,List.map_append];rfl
  have hme:va.length-((n:Int)+1).toNat<va.length-(n:Int).toNat:=by omega
  have zH: ∀q:Int,q=lT m x→J [.list (((va.map (lT m)).map (D.int .i64)).take n++[.int .i64 q]), .int .i64 ((n:Int)+1)] ∧M [.list (((va.map (lT m)).map (D.int .i64)).take n++[.int .i64 q]), .int .i64 ((n:Int)+1)] <M [.list (((va.map (lT m)).map (D.int .i64)).take n), .int .i64 (n:Int)] :=by
   rintro q rfl
   refine⟨(wJ _).2 ⟨n+1,?_,aL⟩,?_⟩
   ·rw[F5,List.map_append,←List.map_take,←List.map_take];rfl
   ·rw[BZ,BZ];exact hme
  have nj:(min n va.length+1)≤maxLen∧(min n va.length+1)*8≤140737488355328:=⟨Nat.le_trans (show _≤140737488355328 by omega) (by decide),by omega⟩
  by_cases hc:1≤x∧x≤m.length
  ·have eK:IntKind.wrap .i64 (x-1)=x-1:=wrap64 (by omega) (by omega)
   obtain⟨y,hy⟩: ∃y,m[(x-1).toNat]? =some y:=⟨_,av (by omega)⟩
   have hv:lT m x=if 0<y then y else 0:=by unfold lT;rw[if_pos hc,List.getD_eq_getElem?_getD,hy];rfl
   have qf:(0:Int)≤x-1:=by omega
   have wH:x-1<(m.length:Int):=by omega
   have kU:m[x.toNat-1]? =some y:=by rw[show x.toNat-1=(x-1).toNat by omega];exact hy
   simp[-List.map_map,aQ,bu,hx,iR,fC,eK,kU,hc.1,hc.2,qf,wH,Nat.not_le.2 aL]
   exact⟨⟨nj,zH _ hv.symm⟩,fun hq=>by omega⟩
  ·have hv:lT m x=0:=by unfold lT;rw[if_neg hc]
   simp[-List.map_map,aQ,bu,hx,iR,fC,Nat.not_le.2 aL]
   exact⟨fun h1 h2=>absurd ⟨h1,h2⟩ hc,fun _=>⟨nj,zH 0 hv.symm⟩⟩
theorem X2:gM Try.prog pre aK afA:=aj c72 X8
theorem c70:ax Try.prog 70 dj (pre 70) (aK 70):=by
 refine aH (given:=[]) mix X2 Try.func70 (by kernel_rfl) (v:=aeX) (by kernel_rfl) ?_
 intro ds h hp
 obtain⟨_,_,rfl,ga,_,_,rfl,gb,rfl⟩:=h
 obtain⟨va,la,rfl,lL,MB,kV,MC⟩:=vg ga
 obtain⟨vb,lb,rfl,hvb,aqV,hlb,aqW⟩:=vg gb
 simp[aeX,cO,cg,cb,bh,cd,bG,cN,cQ,cP,dI,den,U.den,B.den,dp,aq,bu,cn,ch,ck,df,aQ,bn,List.getElem?_map,Option.map_some,Option.getD_some,List.length_map,pre,ah8,ark]
 refine⟨fun h=> ?_,fun h1 h2=> ?_⟩
 ·simp only[Mq,Bool.and_eq_false_iff]
  rcases h with h|h
  ·exact .inl (.inl h)
  ·exact .inl (.inr h)
 have hm:Mq va la vb lb=decide (yX va vb 6≤1):=by simp[Mq,h1,h2]
 obtain⟨J,wJ⟩: ∃J:List D→Prop,∀xs,J xs↔ ∃n:Nat,xs=[.int .i64 (yX va vb n), .int .i64 n] ∧n≤6:=⟨_,fun _=>Iff.rfl⟩
 obtain⟨M,BZ⟩: ∃M:List D→Nat,∀xs,M xs=6-(I (.list xs) 1).toNat:=⟨_,fun _=>rfl⟩
 refine jS.intro J M ((wJ _).2 ⟨0,rfl,Nat.zero_le _⟩) ?_
 intro xs pT hJ
 obtain⟨n,rfl,hle⟩:=(wJ _).1 hJ
 clear hJ pT
 have qo:=VJ va vb n
 by_cases hn:n=6
 ·subst hn
  simp[aQ,hm]
  omega
 ·have iR:(n:Int)<6:=by omega
  have fC:IntKind.wrap .i64 ((n:Int)+1)=(n:Int)+1:=wrap64 (by omega) (by omega)
  have eK:IntKind.wrap .i64 ((yX va vb n:Int)+1)=(yX va vb n:Int)+1:=wrap64 (by omega) (by omega)
  have hme:6-((n:Int)+1).toNat<6-(n:Int).toNat:=by omega
  have oa:=NQ va vb n
  have hn6: ¬(6:Int)≤n:=by omega
  have zH: ∀q:Int,q=yX va vb (n+1)→J [.int .i64 q, .int .i64 ((n:Int)+1)] ∧M [.int .i64 q, .int .i64 ((n:Int)+1)] <M [.int .i64 (yX va vb n), .int .i64 (n:Int)] :=by
   rintro q rfl
   exact⟨(wJ _).2 ⟨n+1,rfl,by omega⟩,by rw[BZ,BZ];exact hme⟩
  simp[aQ,bn,iR,fC,eK,ah4,hn6]
  refine⟨fun h=>zH _ ?_,fun h=>zH _ ?_⟩
  ·have hb:(decide ((n:Int)∈va) !=decide ((n:Int)∈vb))=true:=by simpa using h
   rw[oa,if_pos hb];rfl
  ·have hb: ¬(decide ((n:Int)∈va) !=decide ((n:Int)∈vb))=true:=by simpa using h
   rw[oa,if_neg hb];rfl
theorem X4:gM Try.prog pre aK afC:=aj c70 X2
theorem c20:ax Try.prog 20 s20 (pre 20) (aK 20):=by
 refine aH (given:=[]) mix X4 Try.func20 (by kernel_rfl) (v:=afr) (by kernel_rfl) ?_
 intro ds h hp
 obtain⟨a,_,rfl,⟨a,rfl,ha⟩,b,_,rfl,⟨b,rfl,hb⟩,c,_,rfl,⟨c,rfl,hc⟩,rfl⟩:=h
 simp[afr,cO,cg,cb,bh,cd,bG,cN,cQ,cP,den,B.den,aK,qc,aQ,bn]
theorem YJ:gM Try.prog pre aK af3:=aj c20 X4
theorem NW{t:Ty}{n:Nat}{l:List D}(hl:EA 140737488355328 t l.length)(hb:t.bytes=n):(l=[] → ∀(d:D),Has Ty.bool d→(d.eh=true→l=[])∧(d.eh=false→l.length≤maxLen∧l.length*n≤140737488355328))∧
  (¬l=[] → ∀(d:D),Has Ty.bool d→l.length≤maxLen∧l.length*n≤140737488355328):=by
 subst hb
 exact⟨fun h _ _=>⟨fun _=>h,fun _=>hl⟩,fun _ _ _=>hl⟩
theorem c52:ax Try.prog 52 s52 (pre 52) (aK 52):=by
 refine aH (given:=[]) mix YJ Try.func52 (by kernel_rfl) (v:=ae6) (by kernel_rfl) ?_
 intro ds h hp
 obtain⟨_,_,rfl,⟨l,rfl,hl,hg⟩,rfl⟩:=h
 have hR:aK 52 [.list l] = .list l:=rfl
 simp[ae6,cO,cg,cb,bh,cd,bG,cN,cQ,cP,dI,den,U.den,B.den,dp,aq,bu,cn,ch,ck,df,aQ,bn,pre,hR,dp]
 have:=NW (n:=1) hl rfl
 simpa using this
theorem Yi:gM Try.prog pre aK afN:=aj c52 YJ
theorem c60:ax Try.prog 60 s60 (pre 60) (aK 60):=by
 refine aH (given:=[]) mix Yi Try.func60 (by kernel_rfl) (v:=apt) (by kernel_rfl) ?_
 intro ds h hp
 obtain⟨x,_,rfl,hx,rfl⟩:=h
 refine VC.bH (Φ:=aK) (Pre:=pre) (dec:=D.eh) (enc:=D.bool) (bad:=false) (lp:=fun _ _ _=>false) (y:=(qT x&& !dL (cfE x))) bC (by kernel_rfl) (VC.gu (by kernel_rfl)) (by kernel_rfl) (by kernel_rfl)
theorem Yd:gM Try.prog pre aK afH:=aj c60 Yi
theorem YK:ax Try.prog 80 PD (pre 80) (aK 80):=by
 refine aH (given:=[]) mix Yd Try.func80 (by kernel_rfl) (v:=QM) (by kernel_rfl) ?_
 intro ds h hp
 obtain⟨_,_,rfl,⟨l,rfl,hlen,hL⟩,_,_,rfl,⟨_,rfl,rfl⟩,rfl⟩:=h
 have nL:=hlen.1
 simp only[maxLen]at nL
 have hR:aK 80 [.list l, .fn 60 []] = .int .i64 (findF (wX (.fn 60 [])) l 0):=rfl
 rw[hR]
 have hc: ∀x,aK 60 [x] = .bool (wX (.fn 60 []) x):=fun _=>rfl
 simp[QM,cO,cg,cb,bh,cd,bG,cN,cQ,cP,dI,den,U.den,B.den,dp,aq,bu,cn,ch,ck,df,aQ,bn,pre,hc]
 obtain⟨J,wJ⟩: ∃J:List D→Prop,∀xs,J xs↔ ∃n:Nat,∃y:Int,xs=[.int .i64 y, .int .i64 n] ∧n≤l.length∧findF (wX (.fn 60 [])) (l.drop n) n=findF (wX (.fn 60 [])) l 0:=⟨_,fun _=>Iff.rfl⟩
 obtain⟨M,BZ⟩: ∃M:List D→Nat,∀xs,M xs=l.length-((xs.getD 1 .top).ab).toNat:=⟨_,fun _=>rfl⟩
 refine jS.intro J M ((wJ _).2 ⟨0,0,rfl,Nat.zero_le _,by simp⟩) ?_
 intro xs pT hJ
 obtain⟨n,y,rfl,hle,qF⟩:=(wJ _).1 hJ
 clear hJ pT
 simp[cO,cg,cb,bh,cd,bG,cN,cQ,cP,dI,den,U.den,B.den,dp,aq,bu,cn,ch,ck,df,aQ,bn]
 refine⟨fun aL=> ?_,fun lR=> ?_⟩
 ·have hx:l[n]? =some l[n] :=av aL
  have hd:l.drop n=l[n] ::l.drop (n+1):=List.drop_eq_getElem_cons aL
  rw[hd]at qF
  simp only[findF]at qF
  rw[hx,Option.getD_some]
  refine⟨by omega,fun hb=> ?_,fun hb=> ?_⟩
  ·rw[if_pos hb]at qF;exact qF
  ·rw[wrap64 (by omega) (by omega)]
   refine⟨(wJ _).2 ⟨n+1,y,by simp,aL,?_⟩,?_⟩
   ·rw[if_neg (by rw[hb];simp)]at qF
    rw[←qF];simp
   ·rw[BZ,BZ];simp[aQ];omega
 ·have:l.drop n=[] :=List.drop_of_length_le lR
  rw[this]at qF
  exact qF
theorem LS:gM Try.prog pre aK QT:=aj YK Yd
theorem xB(p:D→Bool): ∀(l:List D) (k:Int),0≤k→(l.any p=true↔0≤findF p l k)
 | [],k,hk=>by simp[findF]
 |x::r,k,hk=>by
  simp only[findF,List.any_cons]
  cases hp:p x with
  |true=>simp;exact hk
  |false=>
   simp only[Bool.false_or,Bool.false_eq_true,if_false]
   exact xB p r (k+1) (by omega)
theorem YL:ax Try.prog 59 PE (pre 59) (aK 59):=by
 refine aH (given:=[]) mix LS Try.func59 (by kernel_rfl) (v:=QO) (by kernel_rfl) ?_
 intro ds h hp
 obtain⟨_,_,rfl,⟨l,rfl,hlen,hL⟩,_,_,rfl,⟨_,rfl,rfl⟩,rfl⟩:=h
 have hR:aK 59 [.list l, .fn 60 []] = .bool (mT l (.fn 60 [])):=rfl
 have hI:aK 80 [.list l, .fn 60 []] = .int .i64 (findF (wX (.fn 60 [])) l 0):=rfl
 rw[hR]
 simp[QO,cO,cg,cb,bh,cd,bG,cN,cQ,cP,dI,den,U.den,B.den,dp,aq,bu,cn,ch,ck,df,aQ,bn,pre,hI]
 rw[Bool.eq_iff_iff,aN]
 exact(xB _ l 0 (Int.le_refl 0)).symm
theorem LV:gM Try.prog pre aK QU:=aj YL LS
theorem c24:ax Try.prog 24 s24 (pre 24) (aK 24):=by
 refine aH (given:=[]) mix LV Try.func24 (by kernel_rfl) (v:=afo) (by kernel_rfl) ?_
 intro ds h hp
 obtain⟨_,_,rfl,⟨l,rfl,hlen,hL⟩,rfl⟩:=h
 have hR:aK 24 [.list l] = .bool (cI l):=rfl
 have hI:aK 59 [.list l, .fn 60 []] = .bool (mT l (.fn 60 [])):=rfl
 rw[hR]
 simp[afo,cO,cg,cb,bh,cd,bG,cN,cQ,cP,dI,den,U.den,B.den,dp,aq,bu,cn,ch,ck,df,aQ,bn,pre,hI]
 unfold cI mT
 rw[Bool.not_not]
 rfl
theorem YG:gM Try.prog pre aK af0:=aj c24 LV
theorem c26:ax Try.prog 26 s26 (pre 26) (aK 26):=by
 refine aH (given:=[]) mix YG Try.func26 (by kernel_rfl) (v:=afm) (by kernel_rfl) ?_
 intro ds h hp
 obtain⟨_,_,rfl,⟨_,rfl,_,_,rfl,⟨v,rfl,_,_⟩,_,_,rfl,⟨l,rfl,_,_⟩,rfl⟩,rfl⟩:=h
 simp[afm,cO,cg,cb,bh,cd,bG,cN,cQ,cP,dI,den,U.den,B.den,dp,aq,bu,cn,ch,ck,df,aQ,bn,pre,aK,vQ]
theorem YE:gM Try.prog pre aK afY:=aj c26 YG
theorem c28:ax Try.prog 28 s28 (pre 28) (aK 28):=by
 refine aH (given:=[]) mix YE Try.func28 (by kernel_rfl) (v:=afl) (by kernel_rfl) ?_
 intro ds h hp
 obtain⟨_,_,rfl,⟨_,rfl,_,_,rfl,⟨i,rfl,hi⟩,_,_,rfl,⟨t,rfl,ht⟩,_,_,rfl,⟨l,rfl,hlen,hL⟩,rfl⟩,rfl⟩:=h
 simp[afl,cO,cg,cb,bh,cd,bG,cN,cQ,cP,dI,den,U.den,B.den,dp,aq,bu,cn,ch,ck,df,aQ,bn,pre,aK,fh,cD]
theorem YC:gM Try.prog pre aK afX:=aj c28 YE
theorem c25:ax Try.prog 25 s25 (pre 25) (aK 25):=by
 refine aH (given:=[]) mix YC Try.func25 (by kernel_rfl) (v:=afn) (by kernel_rfl) ?_
 intro ds h hp
 obtain⟨_,_,rfl,⟨_,rfl,_,_,rfl,⟨i,rfl,hi⟩,_,_,rfl,⟨t,rfl,ht⟩,_,_,rfl,⟨l,rfl,hlen,hL⟩,rfl⟩,rfl⟩:=h
 replace hp:de i t l=true:=hp
 have hb:aK 28 [.ptr [.int .i64 i, .int .i64 t, .list l]] = .cW [.int .i64 i, .int .i64 t] :=rfl
 have hR:aK 25 [.ptr [.int .i64 i, .int .i64 t, .list l]] = .cW [.int .i64 (i+l.length), .int .i64 (eE t l)] :=rfl
 simp[afn,cO,cg,cb,bh,cd,bG,cN,cQ,cP,dI,den,U.den,B.den,dp,aq,bu,cn,ch,ck,df,aQ,bn,pre,hb,hR]
 obtain⟨⟨k1,k2,k3,k4⟩,hc⟩:=fk.1 hp
 have nL:=hlen.1
 simp only[maxLen]at nL
 constructor
 ·rintro rfl;simp[eE]
 ·intro dH
  have ev:0<l.length:=List.length_pos_iff.2 dH
  rw[wrap64 (by omega) (by omega),show((l.length:Int)-1).toNat=l.length-1 by omega]
  obtain⟨x,hx⟩: ∃x,l[l.length-1]? =some x:=⟨_,av (by omega)⟩
  obtain⟨e0,e1,_,_⟩:=EG (hL x (aS hx))
  have hg:=acX hc hx
  rw[hx,Option.getD_some,e0,e1,Dm hx,hg.1]
  refine⟨by omega,?_,rfl⟩
  congr 1;omega
theorem YF:gM Try.prog pre aK afZ:=aj c25 YC
theorem c50:ax Try.prog 50 s50 (pre 50) (aK 50):=by
 refine aH (given:=[]) mix YF Try.func50 (by kernel_rfl) (v:=ae8) (by kernel_rfl) ?_
 intro ds h hp
 obtain⟨_,_,rfl,⟨_,rfl,_,_,rfl,⟨i,rfl,hi⟩,_,_,rfl,⟨t,rfl,ht⟩,_,_,rfl,⟨l,rfl,hlen,hL⟩,rfl⟩,_,_,rfl,⟨k,rfl,hk⟩,rfl⟩:=h
 replace hp:de i t l=true:=hp
 have hR:aK 50 [.ptr [.int .i64 i, .int .i64 t, .list l], .int .i64 k] = .cW [.int .i64 (gf i t l k).1, .int .i64 (gf i t l k).2] :=rfl
 simp[ae8,cO,cg,cb,bh,cd,bG,cN,cQ,cP,dI,den,U.den,B.den,dp,aq,bu,cn,ch,ck,df,aQ,bn,pre,hR]
 rw[tn]at hk
 obtain⟨⟨k1,k2,k3,k4⟩,hc⟩:=fk.1 hp
 have nL:=hlen.1
 simp only[maxLen,MX]at nL k2
 refine⟨fun h=>by simp[gf,h],fun h=>⟨fun h2=>by subst h2;simp[gf],fun h2=> ?_⟩⟩
 rw[wrap64 (by omega) (by omega)]
 have h0: ¬k<i:=by omega
 refine⟨fun h3=> ?_,fun h3=> ?_⟩
 ·have:l[(k-i-1).toNat]? =none:=by rw[List.getElem?_eq_none_iff];omega
  unfold gf;rw[if_neg h0,if_neg h2,this];exact⟨rfl,rfl⟩
 ·rw[wrap64 (by omega) (by omega)]
  obtain⟨x,hx⟩: ∃x,l[(k-i-1).toNat]? =some x:=⟨_,av (by omega)⟩
  obtain⟨e0,e1,_,_⟩:=EG (hL x (aS hx))
  refine⟨by omega,?_,?_⟩
  ·rw[hx,Option.getD_some,e1];unfold gf;rw[if_neg h0,if_neg h2,hx]
  ·unfold gf;rw[if_neg h0,if_neg h2,hx]
theorem Yj:gM Try.prog pre aK afP:=aj c50 YF
theorem c74:ax Try.prog 74 mh (pre 74) (aK 74):=by
 refine aH (given:=[]) mix Yj Try.func74 (by kernel_rfl) (v:=aeT) (by kernel_rfl) ?_
 intro ds h hp
 obtain⟨_,_,rfl,⟨_,rfl,_,_,rfl,⟨i,rfl,hi⟩,_,_,rfl,⟨t,rfl,ht⟩,_,_,rfl,⟨l,rfl,hlen,hL⟩,rfl⟩,_,_,rfl,⟨x,rfl,hx⟩,_,_,rfl,⟨y,rfl,hy⟩,rfl⟩:=h
 replace hp:de i t l=true:=hp
 have hl:aK 25 [.ptr [.int .i64 i, .int .i64 t, .list l]] = .cW [.int .i64 (i+l.length), .int .i64 (eE t l)] :=rfl
 have tF:pre 25 [.ptr [.int .i64 i, .int .i64 t, .list l]] :=hp
 have hR:aK 74 [.ptr [.int .i64 i, .int .i64 t, .list l], .int .i64 x, .int .i64 y] = .bool (Ju i t l x y):=rfl
 simp[aeT,cO,cg,cb,bh,cd,bG,cN,cQ,cP,dI,den,U.den,B.den,dp,aq,bu,cn,ch,ck,df,aQ,bn,hl,hR,tF,Ju]
 rw[Bool.eq_iff_iff]
 simp
theorem XZ:gM Try.prog pre aK afz:=aj c74 Yj
theorem c65:ax Try.prog 65 s65 (pre 65) (aK 65):=by
 refine aH (given:=[]) mix XZ Try.func65 (by kernel_rfl) (v:=aeZ) (by kernel_rfl) ?_
 intro ds h hp
 obtain⟨_,_,rfl,⟨_,rfl,_,_,rfl,⟨i,rfl,hi⟩,_,_,rfl,⟨t,rfl,ht⟩,_,_,rfl,⟨l,rfl,hlen,hL⟩,rfl⟩,_,_,rfl,⟨f,rfl,hf⟩,_,_,rfl,⟨m,rfl,hm⟩,rfl⟩:=h
 have hR:aK 65 [.ptr [.int .i64 i, .int .i64 t, .list l], .int .i64 f, .int .i64 m] = .list (fi i l f m):=rfl
 simp[aeZ,cO,cg,cb,bh,cd,bG,cN,cQ,cP,dI,den,U.den,B.den,dp,aq,bu,cn,ch,ck,df,aQ,bn,pre,hR]
 replace hp:okB i t=true:=hp
 rw[tn]at hf hm
 obtain⟨k1,k2,_,_⟩:=jd.1 hp
 have nL:=hlen.1
 have hb:=hlen.2
 rw[mV]at hb
 simp only[maxLen,MX]at nL k2⊢
 refine⟨?_,fun h1 h2=> ?_⟩
 ·intro h
  unfold fi
  by_cases hc:m<1∨f≤i
  ·rw[if_pos hc]
  ·rw[if_neg hc]
   have h':=h.resolve_left hc
   rw[wrap64 (n:=f-i) (by omega) (by omega),wrap64 (by omega) (by omega)]at h'
   rw[List.drop_of_length_le (by omega)];simp
 ·rw[wrap64 (n:=f-i) (by omega) (by omega),wrap64 (n:=f-i-1) (by omega) (by omega)]
  intro h3
  rw[wrap64 (n:=(l.length:Int)-(f-i-1)) (by omega) (by omega)]
  have es:fi i l f m=(l.drop (f-i-1).toNat).take m.toNat:=by unfold fi;rw[if_neg (by omega)]
  refine⟨fun h4=> ?_,fun h4=> ?_⟩
  ·rw[wrap64 (n:=f-i-1+m) (by omega) (by omega)]
   refine⟨by omega,⟨by omega,Nat.le_trans (Nat.mul_le_mul_right 320 (by omega)) hb⟩,?_⟩
   rw[es,List.drop_take];congr 1;omega
  ·refine⟨by omega,⟨by omega,Nat.le_trans (Nat.mul_le_mul_right 320 (by omega)) hb⟩,?_⟩
   rw[es,List.take_of_length_le (by rw[List.length_drop];omega)]
theorem X9:gM Try.prog pre aK ZI:=aj c65 XZ
def agL(x:Int)(s:RS):Prop:=
 (True)∧(
 let x7:=(fh s.li s.lt s.le)
 VC.o9 aK pre (fun d=>d) (fun _ _ l=>q8 s x7 (l.getD 0 .top).ab (l.getD 1 .top).ak (l.getD 2 .top).ak) [] (VC.lp 15 Zx) (dp (fun i=> [Eb s,D.int .i64 x].getD i .top) 7 (D.cW [D.int .i64 x7.1,D.int .i64 x7.2])))
def ajI(s:RS)(x7:Int×Int)(i15:Int):Prop:=
 ((decide (i15>x7.1)=true→
  ((true=true→okB s.li s.lt=true))∧(
  let KB:=(cT s.li s.lt s.le i15 1)
  ((((((KB:List D).length:Int)==1)==true)&&true)=true→((decide (0≤0))&&(decide (0<((KB:List D).length:Int))))=true)∧(
  ((((((KB:List D).length:Int)==1)&&(((cD 2 ((KB).getD (0:Int).toNat .top)).ab)==2))=true→
   (true=true→((decide (0≤0))&&(decide (0<((KB:List D).length:Int))))=true)∧(
   True)))∧(True)))))∧(True)
def AR(s:RS)(x7:Int×Int)(i15:Int)(SM:List D)(SL:List D):(Int×List D×List D)⊕(D):=
 if decide (i15>x7.1) then(
  let KB:=(cT s.li s.lt s.le i15 1)
  if((((KB:List D).length:Int)==1)&&(((cD 2 ((KB).getD (0:Int).toNat .top)).ab)==2)) then(
   let x44:=(du (D.agg ((((KB).getD (0:Int).toNat .top).ak.drop 27).take 2)))
   .inr (ah 2 x44 []))
  else(
   .inl ((IntKind.i64.wrap (i15-1)),SM,SL)))
 else(
  if decide (x7.1>0) then(
   let x28:=(du (D.agg [D.list s.sv,D.list s.sl]))
   .inr (ah 2 x28 []))
  else(
   let ql:=(du (D.agg [D.list s.fv,D.list s.fl]))
   .inr (ah 2 ql [])))
theorem HB(s:RS)(x7:Int×Int)(i15:Int)(SM:List D)(SL:List D):AR s x7 i15 SM SL=oO s x7 i15 SM SL:=by
 unfold AR oO q9
 dsimp only
 repeat (first|rfl|split)
theorem U5(x:Int)(s:RS)(hx:kr .i64 x)(h:Ok (s) 0):agL x s:=by
 refine⟨trivial,?_⟩
 intro x7
 have hx7:x7.1=s.li:=rfl
 clear_value x7
 obtain⟨l0,l1⟩:=h.li
 refine VC.iH 15 (by kernel_rfl) ?_
 refine VC.fB (Φ:=aK) (Pre:=pre) (triv:=triv) (v0:=15) (decL:=fun l=>((l.getD 0 .top).ab,(l.getD 1 .top).ak,(l.getD 2 .top).ak)) (encL:=fun a:Int×List D×List D=>([D.int .i64 a.1,D.list a.2.1,D.list a.2.2])) (dec:=(fun d=>d)) (enc:=(fun d=>d)) (lp:=fun _ _ _ _=>D.top) (bad:= .inr D.top) (bd:=D.top) (by kernel_rfl) (fun a:Int×List D×List D=>oO s x7 a.1 a.2.1 a.2.2) (fun a:Int×List D×List D=>a.1≤9223372036854775807) (fun a:Int×List D×List D=>G0 s x7 a.1 a.2.1 a.2.2) (x,[],[]) bC (by kernel_rfl) ?YX (fun a=>rfl) ?SU (by kernel_rfl) (fun a ha=>Eq.trans (b:=AR s x7 a.1 a.2.1 a.2.2) (by kernel_rfl) (HB s x7 a.1 a.2.1 a.2.2)) (fun a=>by kernel_rfl) (fun a=>by kernel_rfl) (fun a ha fV=>Eq.mpr (α:=VC.fH aK pre triv (VC.yQ aK pre (fun d=>d) (fun _ _ _=>D.top) []) _ _) (β:=ajI s x7 a.1) (by kernel_rfl) ?Cm) (by kernel_rfl)
 ·exact hx.2
 ·rintro⟨i,l,r⟩ h0
  replace h0:i≤9223372036854775807:=h0
  unfold oO
  by_cases OI:decide (i>x7.1)=true
  ·rw[if_pos OI]
   rw[aN,hx7]at OI
   dsimp only
   generalize ((((cT s.li s.lt s.le i 1).length:Int)==1)&&((cD 2 ((cT s.li s.lt s.le i 1).getD (0:Int).toNat .top)).ab==2))=c
   cases c with
   |true=>trivial
   |false=>
    show IntKind.wrap .i64 (i-1)≤_∧(IntKind.wrap .i64 (i-1)-x7.1).toNat<(i-x7.1).toNat
    rw[wrap64 (by omega) (by omega)]
    refine⟨by omega,?_⟩
    omega
  ·rw[if_neg OI];trivial
 ·refine⟨fun OI=>⟨fun _=>h.O6,?_⟩,trivial⟩
  intro KB
  refine⟨fun hc=> ?_,fun hc=>⟨fun _=> ?_,trivial⟩,trivial⟩
  ·simp only[aw,beq_iff_eq,and_true]at hc
   rw[hc];rfl
  ·simp only[aw,beq_iff_eq]at hc
   rw[hc.1];rfl
theorem c49:ax Try.prog 49 s49 (pre 49) (aK 49):=by
 refine aH (given:=[]) mix X9 Try.func49 (by kernel_rfl) (v:=Zx) (by kernel_rfl) ?_
 intro ds h hp
 obtain⟨d,_,rfl,hd,h1⟩:=aa.1 h
 obtain⟨s,rfl⟩:=ln hd
 obtain⟨_,_,rfl,⟨x,rfl,hx⟩,h2⟩:=aa.1 h1
 obtain rfl:=bE.1 h2
 refine VC.bH (Φ:=aK) (Pre:=pre) (dec:=(fun d=>d)) (enc:=(fun d=>d)) (bad:=D.top) (lp:=fun _ _ l=>(let x7:=(fh s.li s.lt s.le);q8 s x7 (l.getD 0 .top).ab (l.getD 1 .top).ak (l.getD 2 .top).ak)) (y:=z7 x s) bC (by kernel_rfl) (Eq.mpr (α:=VC.fH aK pre triv (VC.o9 aK pre (fun d=>d) (fun _ _ l=>(let x7:=(fh s.li s.lt s.le);q8 s x7 (l.getD 0 .top).ab (l.getD 1 .top).ak (l.getD 2 .top).ak)) []) _ _) (β:=agL x s) (by kernel_rfl) (U5 x s hx hp)) (by kernel_rfl) (by kernel_rfl)
theorem Yk:gM Try.prog pre aK afQ:=aj c49 X9
def agZ(s:RS):Prop:=
 ((true=true→de s.li s.lt s.le=true))∧(
 let x6:=(dm s.li s.lt s.le)
 ((true=true→Ok s 0))∧(
 let x14:=(z7 x6.1 s)
 True))
theorem Vj(s:RS)(h:Ok (s) 0):agZ s:=by
 exact⟨fun _=>h.may,fun _=>h,trivial⟩
theorem c29:ax Try.prog 29 s29 (pre 29) (aK 29):=by
 refine aH (given:=[]) mix Yk Try.func29 (by kernel_rfl) (v:=apy) (by kernel_rfl) ?_
 intro ds h hp
 obtain⟨d,_,rfl,hd,h1⟩:=aa.1 h
 obtain⟨s,rfl⟩:=ln hd
 obtain rfl:=bE.1 h1
 refine VC.bH (Φ:=aK) (Pre:=pre) (dec:=(fun d=>d)) (enc:=(fun d=>d)) (bad:= .top) (lp:=fun _ _ _=> .top) (y:=cH s) bC (by kernel_rfl) (Eq.mpr (α:=VC.fH aK pre triv (VC.o9 aK pre (fun d=>d) (fun _ _ _=> .top) []) _ _) (β:=agZ s) (by kernel_rfl) (Vj s hp)) (by kernel_rfl) (by kernel_rfl)
theorem YB:gM Try.prog pre aK ZU:=aj c29 Yk
def agY(x:D)(s:RS):Prop:=
 ((true=true→((vo (ah 2 x [])).length+(lr (ah 2 x [])).length)*8≤140737488355328))∧(
 let x6:=(fR (ah 2 x []))
 VC.o9 aK pre D.list (fun _ _ l=>o5 s x6 (l.getD 0 .top).ak (l.getD 1 .top).ab) [] (VC.lp 9 ZA) (dp (fun i=> [Eb s,x].getD i .top) 6 (D.list x6)))
def ajL(s:RS)(x6:List D)(i9:List D)(j9:Int):Prop:=
 ((decide (j9<((x6:List D).length:Int))=true→
  (true=true→((decide (0≤j9))&&(decide (j9<((x6:List D).length:Int))))=true)∧(
  (((((((x6).getD (j9:Int).toNat .top)).ab) !=s.id)=true→
   (true=true→((i9++([((x6).getD (j9:Int).toNat .top)] :List D)):List D).length≤maxLen∧((i9++([((x6).getD (j9:Int).toNat .top)] :List D)):List D).length*8≤140737488355328)∧(
   True)))∧(True))))∧(True)
theorem Vi(x:D)(s:RS)(h:Ok (s) 0∧dL x=true):agY x s:=by
 obtain⟨h,hc⟩:=h
 refine⟨fun _=> ?_,?_⟩
 ·have:=Bb (c:=ah 2 x []) hc
  omega
 intro x6
 have SN:x6.length≤10:=wu (c:=ah 2 x []) hc
 clear_value x6
 refine VC.iH 9 (by kernel_rfl) ?_
 refine VC.fB (Φ:=aK) (Pre:=pre) (triv:=triv) (v0:=9) (decL:=fun l=>((l.getD 0 .top).ak,(l.getD 1 .top).ab)) (encL:=fun a:List D×Int=>([D.list a.1,D.int .i64 a.2])) (dec:=D.ak) (enc:=D.list) (lp:=fun _ _ _ _=>([] :List D)) (bad:= .inr ([] :List D)) (bd:=([] :List D)) (by kernel_rfl) (fun a:List D×Int=>rY s x6 a.1 a.2) (fun a:List D×Int=>0≤a.2∧a.1.length≤a.2.toNat∧a.2.toNat≤x6.length) (fun a:List D×Int=>Dd s x6 a.1 a.2) ([],0) bC (by kernel_rfl) ?YX (fun a=>rfl) ?SU (by kernel_rfl) (fun a ha=>by kernel_rfl) (fun a=>by kernel_rfl) (fun a=>by kernel_rfl) (fun a ha fV=>Eq.mpr (α:=VC.fH aK pre triv (VC.yQ aK pre D.list (fun _ _ _=>([] :List D)) []) _ _) (β:=ajL s x6 a.1 a.2) (by kernel_rfl) ?Cm) (by kernel_rfl)
 ·exact⟨Int.le_refl 0,Nat.zero_le _,Nat.zero_le _⟩
 ·rintro⟨l,j⟩ ⟨h0,h1,h2⟩
  simp only at h0 h1 h2
  unfold rY
  by_cases aL:decide (j<(x6.length:Int))=true
  ·rw[if_pos aL]
   rw[aN]at aL
   have hw:IntKind.wrap .i64 (j+1)=j+1:=wrap64 (by omega) (by omega)
   by_cases dH:((x6.getD j.toNat .top).ab !=s.id)=true
   ·rw[if_pos dH,hw]
    refine⟨⟨by show 0≤j+1;omega,?_,by show(j+1).toNat≤_;omega⟩,by show x6.length-(j+1).toNat<x6.length-j.toNat;omega⟩
    show(l++[_]).length≤(j+1).toNat
    rw[List.length_append,List.length_singleton];omega
   ·rw[if_neg dH,hw]
    exact⟨⟨by show 0≤j+1;omega,by show l.length≤(j+1).toNat;omega,by show(j+1).toNat≤_;omega⟩,by show x6.length-(j+1).toNat<x6.length-j.toNat;omega⟩
  ·rw[if_neg aL];trivial
 ·obtain⟨l,j⟩:=a
  obtain⟨h0,h1,h2⟩:=ha
  simp only at h0 h1 h2
  refine⟨fun aL=>⟨fun _=> ?_,fun _=>⟨fun _=> ?_,trivial⟩,trivial⟩,trivial⟩
  ·rw[aN]at aL
   rw[aw,aN,aN]
   exact⟨h0,aL⟩
  ·simp only[List.length_append,List.length_singleton,maxLen]
   omega
theorem c32:ax Try.prog 32 s32 (pre 32) (aK 32):=by
 refine aH (given:=[]) mix YB Try.func32 (by kernel_rfl) (v:=ZA) (by kernel_rfl) ?_
 intro ds h hp
 obtain⟨d,_,rfl,hd,h1⟩:=aa.1 h
 obtain⟨s,rfl⟩:=ln hd
 obtain⟨x,_,rfl,hx,h2⟩:=aa.1 h1
 obtain rfl:=bE.1 h2
 refine VC.bH (Φ:=aK) (Pre:=pre) (dec:=D.ak) (enc:=D.list) (bad:=([] :List D)) (lp:=fun _ _ l=>(let x6:=(fR (ah 2 x []));o5 s x6 (l.getD 0 .top).ak (l.getD 1 .top).ab)) (y:=eO x s) bC (by kernel_rfl) (Eq.mpr (α:=VC.fH aK pre triv (VC.o9 aK pre D.list (fun _ _ l=>(let x6:=(fR (ah 2 x []));o5 s x6 (l.getD 0 .top).ak (l.getD 1 .top).ab)) []) _ _) (β:=agY x s) (by kernel_rfl) (Vi x s hp)) (by kernel_rfl) (by kernel_rfl)
theorem YA:gM Try.prog pre aK afW:=aj c32 YB
def agF(x:Int)(s:RS):Prop:=
 ((true=true→Ok s 0))∧(
 let x4:=(cH s)
 ((true=true→((vo (ah 2 x4 [])).length+(lr (ah 2 x4 [])).length)*8≤140737488355328))∧(
 let x5:=(fR (ah 2 x4 []))
 True))
theorem UZ(x:Int)(s:RS)(hx:kr .i64 x)(h:Ok (s) 0):agF x s:=by
 refine⟨fun _=>h,fun _=> ?_,trivial⟩
 have:=Bb (jt h)
 show((vo (cH s)).length+(lr (cH s)).length)*8≤_
 omega
theorem c76:ax Try.prog 76 s76 (pre 76) (aK 76):=by
 refine aH (given:=[]) mix YA Try.func76 (by kernel_rfl) (v:=apq) (by kernel_rfl) ?_
 intro ds h hp
 obtain⟨d,_,rfl,hd,h1⟩:=aa.1 h
 obtain⟨s,rfl⟩:=ln hd
 obtain⟨_,_,rfl,⟨x,rfl,hx⟩,h2⟩:=aa.1 h1
 obtain rfl:=bE.1 h2
 refine VC.bH (Φ:=aK) (Pre:=pre) (dec:=D.eh) (enc:=D.bool) (bad:=false) (lp:=fun _ _ _=>false) (y:=rL x s) bC (by kernel_rfl) (Eq.mpr (α:=VC.fH aK pre triv (VC.o9 aK pre D.bool (fun _ _ _=>false) []) _ _) (β:=agF x s) (by kernel_rfl) (UZ x s hx hp)) (by kernel_rfl) (by kernel_rfl)
theorem XX:gM Try.prog pre aK ZE:=aj c76 YA
def agH(s:RS):Prop:=
 ((true=true→de s.li s.lt s.le=true))∧(
 let x6:=(dm s.li s.lt s.le)
 ((true=true→okB s.li s.lt=true))∧(
 let ql:=(cT s.li s.lt s.le (IntKind.i64.wrap (s.aJ+1)) (IntKind.i64.wrap (x6.1-s.aJ)))
 VC.o9 aK pre D.bool (fun _ _ l=>ma ql (l.getD 0 .top).eh (l.getD 1 .top).ab) [] (VC.lp 30 Zw) (dp (dp (fun i=> [Eb s].getD i .top) 6 (D.cW [D.int .i64 x6.1,D.int .i64 x6.2])) 27 (D.list ql))))
def ajF(ql:List D)(N7:Int):Prop:=
 ((decide (N7<((ql:List D).length:Int))=true→
  (true=true→((decide (0≤N7))&&(decide (N7<((ql:List D).length:Int))))=true)∧(
  True)))∧(True)
theorem U1(s:RS)(h:Ok (s) 0):agH s:=by
 refine⟨fun _=>h.may,fun _=>h.O6,?_⟩
 intro ql
 have awg:ql.length≤2147483648:=Nat.le_trans (rU (l:=s.le)) (Nat.le_trans h.xM (by decide))
 clear_value ql
 refine VC.iH 30 (by kernel_rfl) ?_
 refine VC.fB (Φ:=aK) (Pre:=pre) (triv:=triv) (v0:=30) (decL:=fun l=>((l.getD 0 .top).eh,(l.getD 1 .top).ab)) (encL:=fun a:Bool×Int=>([D.bool a.1,D.int .i64 a.2])) (dec:=D.eh) (enc:=D.bool) (lp:=fun _ _ _ _=>false) (bad:= .inr false) (bd:=false) (by kernel_rfl) (fun a:Bool×Int=>pN ql a.1 a.2) (fun a:Bool×Int=>0≤a.2) (fun a:Bool×Int=>vY ql a.1 a.2) (false,0) bC (by kernel_rfl) ?YX (fun a=>rfl) ?SU (by kernel_rfl) (fun a ha=>by kernel_rfl) (fun a=>by kernel_rfl) (fun a=>by kernel_rfl) (fun a ha fV=>Eq.mpr (α:=VC.fH aK pre triv (VC.yQ aK pre D.bool (fun _ _ _=>false) []) _ _) (β:=ajF ql a.2) (by kernel_rfl) ?Cm) (by kernel_rfl)
 ·exact Int.le_refl 0
 ·rintro⟨b,j⟩ h0
  replace h0:0≤j:=h0
  unfold pN
  by_cases aL:decide (j<(ql.length:Int))=true
  ·rw[if_pos aL]
   rw[aN]at aL
   by_cases hq:((cD 2 (ql.getD j.toNat .top)).ab==2)=true
   ·rw[if_pos hq];trivial
   ·rw[if_neg hq,wrap64 (by omega) (by omega)]
    refine⟨by show 0≤j+1;omega,?_⟩
    show ql.length-(j+1).toNat<ql.length-j.toNat
    omega
  ·rw[if_neg aL];trivial
 ·obtain⟨b,j⟩:=a
  replace ha:0≤j:=ha
  refine⟨fun aL=>⟨fun _=> ?_,trivial⟩,trivial⟩
  rw[aN]at aL
  rw[aw,aN,aN]
  exact⟨ha,aL⟩
theorem c69:ax Try.prog 69 s69 (pre 69) (aK 69):=by
 refine aH (given:=[]) mix XX Try.func69 (by kernel_rfl) (v:=Zw) (by kernel_rfl) ?_
 intro ds h hp
 obtain⟨d,_,rfl,hd,h1⟩:=aa.1 h
 obtain⟨s,rfl⟩:=ln hd
 obtain rfl:=bE.1 h1
 refine VC.bH (Φ:=aK) (Pre:=pre) (dec:=D.eh) (enc:=D.bool) (bad:=false) (lp:=fun _ _ l=>(let x6:=(dm s.li s.lt s.le);let ql:=(cT s.li s.lt s.le (IntKind.i64.wrap (s.aJ+1)) (IntKind.i64.wrap (x6.1-s.aJ)));ma ql (l.getD 0 .top).eh (l.getD 1 .top).ab)) (y:=rZ s) bC (by kernel_rfl) (Eq.mpr (α:=VC.fH aK pre triv (VC.o9 aK pre D.bool (fun _ _ l=>(let x6:=(dm s.li s.lt s.le);let ql:=(cT s.li s.lt s.le (IntKind.i64.wrap (s.aJ+1)) (IntKind.i64.wrap (x6.1-s.aJ)));ma ql (l.getD 0 .top).eh (l.getD 1 .top).ab)) []) _ _) (β:=agH s) (by kernel_rfl) (U1 s hp)) (by kernel_rfl) (by kernel_rfl)
theorem X5:gM Try.prog pre aK afD:=aj c69 XX
def agI(s:RS):Prop:=
 ((true=true→de s.li s.lt s.le=true))∧(
 let x10:=(fN s.li s.lt s.le s.aJ)
 True)
theorem U2(s:RS)(h:Ok (s) 0):agI s:=by
 exact⟨fun _=>h.may,trivial⟩
theorem c68:ax Try.prog 68 zF (pre 68) (aK 68):=by
 refine aH (given:=[]) mix X5 Try.func68 (by kernel_rfl) (v:=apr) (by kernel_rfl) ?_
 intro ds h hp
 obtain⟨d,_,rfl,hd,h1⟩:=aa.1 h
 obtain⟨s,rfl⟩:=ln hd
 obtain rfl:=bE.1 h1
 refine VC.bH (Φ:=aK) (Pre:=pre) (dec:=D.eh) (enc:=D.bool) (bad:=false) (lp:=fun _ _ _=>false) (y:=vG s) bC (by kernel_rfl) (Eq.mpr (α:=VC.fH aK pre triv (VC.o9 aK pre D.bool (fun _ _ _=>false) []) _ _) (β:=agI s) (by kernel_rfl) (U2 s hp)) (by kernel_rfl) (by kernel_rfl)
theorem X6:gM Try.prog pre aK ZG:=aj c68 X5
def agV(x:D)(s:RS):Prop:=
 (True)∧(((s.role !=2)=false→
  (True)∧((((cD 0 x).ab==1)=false→
   (True)∧((((cD 0 x).ab !=2)=false→
    ((true=true→Ok s 0))∧(
    let x19:=(vG s)
    (((((!x19)==false)&&true)=true→Ok s 0))∧(
    let x23:=(rZ s)
    (True)∧((((!x19)||x23)=false→
     ((true=true→Ok s 0))∧(
     let ql:=(cH s)
     True)))))))))))
theorem Vf(x:D)(s:RS)(h:Ok (s) 0):agV x s:=by
 (repeat' (first|exact trivial|apply And.intro|intro _))
 all_goals exact h
theorem c38:ax Try.prog 38 s38 (pre 38) (aK 38):=by
 refine aH (given:=[]) mix X6 Try.func38 (by kernel_rfl) (v:=afi) (by kernel_rfl) ?_
 intro ds h hp
 obtain⟨d,_,rfl,hd,h1⟩:=aa.1 h
 obtain⟨s,rfl⟩:=ln hd
 obtain⟨x,_,rfl,hx,h2⟩:=aa.1 h1
 obtain rfl:=bE.1 h2
 refine VC.bH (Φ:=aK) (Pre:=pre) (dec:=D.ab) (enc:=(D.int .i64)) (bad:=0) (lp:=fun _ _ _=>0) (y:=agB x s) bC (by kernel_rfl) (Eq.mpr (α:=VC.fH aK pre triv (VC.o9 aK pre (D.int .i64) (fun _ _ _=>0) []) _ _) (β:=agV x s) (by kernel_rfl) (Vf x s hp)) (by kernel_rfl) (by kernel_rfl)
theorem akT:gM Try.prog pre aK apE:=aj c38 X6
def ag2(s:RS):Prop:=
 (True)∧(
 let x6:=(fh s.li s.lt s.le)
 ((true=true→de s.li s.lt s.le=true))∧(
 let x16:=(dm s.li s.lt s.le)
 ((true=true→Ok s 0))∧(
 let x41:=(cH s)
 True)))
theorem Vm(s:RS)(h:Ok (s) 0):ag2 s:=by
 exact⟨trivial,fun _=>h.may,fun _=>h,trivial⟩
theorem c12:ax Try.prog 12 s12 (pre 12) (aK 12):=by
 refine aH (given:=[]) mix akT Try.func12 (by kernel_rfl) (v:=apA) (by kernel_rfl) ?_
 intro ds h hp
 obtain⟨d,_,rfl,hd,h1⟩:=aa.1 h
 obtain⟨s,rfl⟩:=ln hd
 obtain rfl:=bE.1 h1
 refine VC.bH (Φ:=aK) (Pre:=pre) (dec:=(fun d=>d)) (enc:=(fun d=>d)) (bad:= .top) (lp:=fun _ _ _=> .top) (y:=Lu s) bC (by kernel_rfl) (Eq.mpr (α:=VC.fH aK pre triv (VC.o9 aK pre (fun d=>d) (fun _ _ _=> .top) []) _ _) (β:=ag2 s) (by kernel_rfl) (Vm s hp)) (by kernel_rfl) (by kernel_rfl)
theorem Rv:gM Try.prog pre aK Wy:=aj c12<|aj c38<|aj c68<|aj c69<|aj c76<|aj c32<|aj c29<|aj c49<|aj c65<|aj c74<|aj c50<|aj c25<|aj c28<|aj c26<|aj c24<|aj YL<|aj YK<|aj c60<|aj c52<|aj c20<|aj c70<|aj c72<|aj c66<|aj c63<|aj c36<|aj c21<|aj c55<|aj c61<|aj c56<|aj c79<|vt
theorem c57:ax Try.prog 57 s57 (pre 57) (aK 57):=by
 refine aH (given:=[]) mix Rv Try.func57 (by kernel_rfl) (v:=ae3) (by kernel_rfl) ?_
 intro ds h hp
 obtain⟨a,_,rfl,⟨a,rfl,ha⟩,b,_,rfl,⟨b,rfl,hb⟩,c,_,rfl,⟨c,rfl,hc⟩,rfl⟩:=h
 simp[ae3,cO,cg,cb,bh,cd,bG,cN,cQ,cP,den,B.den,aK,qc,aQ,bn]
theorem Yf:gM Try.prog pre aK afJ:=aj c57 Rv
theorem c58:ax Try.prog 58 aY (pre 58) (aK 58):=by
 refine aH (given:=[]) mix Yf Try.func58 (by kernel_rfl) (v:=ae2) (by kernel_rfl) ?_
 intro ds h hp
 obtain⟨_,_,rfl,⟨i,rfl,hi⟩,_,_,rfl,⟨t,rfl,ht⟩,_,_,rfl,⟨l,rfl,hlen,hL⟩,rfl⟩:=h
 have nL:=hlen.1
 simp only[maxLen]at nL
 have hR:aK 58 [.int .i64 i, .int .i64 t, .list l] = .bool (de i t l):=rfl
 have hw: ∀n lo hi:Int,aK 57 [.int .i64 n, .int .i64 lo, .int .i64 hi] = .bool (qc n lo hi):=fun _ _ _=>rfl
 simp[ae2,cO,cg,cb,bh,cd,bG,cN,cQ,cP,dI,den,U.den,B.den,dp,aq,bu,cn,ch,ck,df,aQ,bn,pre,cD,fl,vr,cr,rp,E.bQ,List.range',hR,hw,qc]
 refine⟨fun h=> ?_,fun h1 h2 h3 h4=> ?_⟩
 ·have:okB i t=false:=by rw[Bool.eq_false_iff];intro hk;obtain⟨k1,k2,k3,k4⟩:=jd.1 hk;simp only[MX]at k2 k4;omega
  simp[de,this]
 refine jS.intro (MJ i t l) (FM l 3) ⟨0,i,t,rfl,Nat.zero_le _,jd.2 ⟨h1,h2,h3,h4⟩,rfl⟩ ?_
 intro xs pT hJ
 obtain⟨n,j,u,rfl,hle,bM,hf⟩:=hJ
 obtain⟨k1,k2,k3,k4⟩:=jd.1 bM
 simp only[MX]at k2 k4
 rcases hx:l[n]? with _|x
 ·have lR:l.length≤n:=by rwa [List.getElem?_eq_none_iff]at hx
  rw[List.drop_of_length_le lR]at hf
  have aL: ¬((n:Int)<l.length):=by omega
  have hm:de i t l=true:=by simp[de,jd.2 ⟨h1,h2,h3,h4⟩,←hf,uA]
  simp[aQ,aL,hm]
 ·obtain⟨aL,lR⟩:=ai.1 hx
  obtain⟨e0,e1,r0,r1⟩:=EG (hL x (aS hx))
  rw[tn]at r0 r1
  rw[List.drop_eq_getElem_cons aL,lR]at hf
  have iR:(n:Int)<l.length:=by omega
  simp[aQ,bn,hx,e0,e1,iR,hw,qc]
  by_cases hk:ix x=j+1∧u≤tm x∧ix x≤MX∧tm x≤MX
  ·obtain⟨g1,g2,g3,g4⟩:=hk
   simp only[MX]at g3 g4
   rw[wrap64 (n:=ix x-1) (by omega) (by omega),wrap64 (n:=(n:Int)+1) (by omega) (by omega)]
   refine⟨⟨fun hq=>by omega,fun _ _ _ _ _ _=>⟨⟨n+1,ix x,tm x,rfl,aL,jd.2 ⟨by omega,by simp only[MX];omega,by omega,by simp only[MX];omega⟩,?_⟩,?_⟩⟩,fun hq=>by omega⟩
   ·rw[←hf];simp[uA,g1,g2,MX,show j+1≤1099511627776 by omega,show tm x≤1099511627776 by omega]
   ·show l.length-((n:Int)+1).toNat<l.length-(n:Int).toNat
    omega
  ·have hm:de i t l=false:=by
    simp only[de,←hf,Bool.and_eq_false_iff]
    right
    rw[Bool.eq_false_iff]
    intro hc
    obtain⟨a1,a2,a3,a4,_⟩:=ir.1 hc
    exact hk ⟨a1,a2,a3,a4⟩
   simp only[MX]at hk
   refine⟨⟨fun _=>hm,fun w1 w2 w3 w4 w5 w6=> ?_⟩,fun hq=>by omega⟩
   exact absurd ⟨by
    by_cases aaO:ix x= -9223372036854775808
    ·rw[aaO]at w3;omega
    ·rw[wrap64 (n:=ix x-1) (by omega) (by omega)]at w1;omega,w2,w4,w6⟩ hk
theorem Ye:gM Try.prog pre aK afI:=aj c58 Yf
theorem c23:ax Try.prog 23 s23 (pre 23) (aK 23):=by
 refine bz (given:=[]) mix Ye Try.func23 rfl (by kernel_rfl) (v:=afp) (by kernel_rfl) ?_
 intro ds h hp
 obtain⟨_,_,rfl,⟨pi,rfl,hpi⟩,_,_,rfl,⟨pt,rfl,hpt⟩,_,_,rfl,⟨es,rfl,atF,heL⟩,_,_,rfl,⟨i,rfl,hi⟩,_,_,rfl,⟨t,rfl,ht⟩,_,_,rfl,⟨l,rfl,hlen,hL⟩,rfl⟩:=h
 obtain⟨hp,Ts,hse⟩:=hp
 replace hp:de i t l=true:=hp
 replace Ts:l.length<4294967296:=Ts
 replace hse:es.length<4294967296:=hse
 obtain⟨⟨k1,k2,k3,k4⟩,hc⟩:=fk.1 hp
 have OH:=xh k2 hc
 simp only[MX]at OH k2 k4
 have hm:aK 58 [.int .i64 pi, .int .i64 pt, .list es] = .bool (de pi pt es):=rfl
 have hT: ∀k:Int,aK 50 [.ptr [.int .i64 i, .int .i64 t, .list l], .int .i64 k] = .cW [.int .i64 (gf i t l k).1, .int .i64 (gf i t l k).2] :=fun _=>rfl
 have hR:aK 23 [.int .i64 pi, .int .i64 pt, .list es, .int .i64 i, .int .i64 t, .list l] = .cW [.cW [.int .i64 (jj i t l pi pt es).1, .bool (np i t l pi pt es)],su i t (jj i t l pi pt es).2] :=rfl
 simp[afp,cO,cg,cb,bh,cd,bG,cN,cQ,cP,dI,den,U.den,B.den,dp,aq,bu,cn,ch,ck,df,aQ,bn,pre,cD,fl,vr,cr,rp,E.bQ,List.range',hm,hT,hR,su,hp]
 refine⟨fun h=> ?_,fun h=>⟨fun h2=> ?_,fun h2 h3=> ?_⟩⟩
 ·have:np i t l pi pt es=false:=by simp[np,h]
  simp[jj,this]
 ·have:np i t l pi pt es=false:=by
   rw[Bool.eq_false_iff];intro hk
   simp only[np,aw,beq_iff_eq]at hk
   rcases h2 with h2|h2
   ·exact h2 hk.1.2
   ·exact h2 hk.2
  simp[jj,this]
 ·have hA:np i t l pi pt es=true:=by simp[np,h,h2,h3]
  obtain⟨q1,q2,q3⟩:=qW h2
  obtain⟨_,Oi⟩:=fk.1 h
  refine jS.intro (AJ i t l es) (FM es 2) ⟨0,(pi-i).toNat,rfl,Nat.zero_le _,by omega,?_,rfl⟩ ?_
  ·rw[←q3,h3,show i+(((pi-i).toNat:Nat):Int)=pi by omega];exact Oi
  intro xs pT hJ
  obtain⟨n,s,rfl,hle,hs,TI,IT⟩:=hJ
  rcases hx:es[n]? with _|x
  ·have lR:es.length≤n:=by rwa [List.getElem?_eq_none_iff]at hx
   rw[List.drop_of_length_le lR]at IT
   have aL: ¬((n:Int)<es.length):=by omega
   simp[aQ,bu,aL,jj,hA,←IT,wY]
  ·obtain⟨aL,lR⟩:=ai.1 hx
   obtain⟨e0,e1,_,_⟩:=EG (heL x (aS hx))
   rw[List.drop_eq_getElem_cons aL,lR]at IT TI
   have iR:(n:Int)<es.length:=by omega
   obtain⟨c1,c2,c3,c4,_⟩:=ir.1 TI
   simp only[MX]at c3 c4
   simp[aQ,bu,ch,cn,bn,hx,e0,e1,iR,ck,cD,fl,vr,List.range',hT,su,hp]
   refine⟨⟨fun g1 g2=> ?_,fun qe=> ?_⟩,fun hq=>by omega⟩
   ·have hh:Cr i t l x=true:=by simp[Cr,g1,g2]
    obtain⟨z1,z2⟩:=Sy hs TI hh
    rw[wrap64 (n:=(n:Int)+1) (by omega) (by omega)]
    refine⟨⟨n+1,s+1,rfl,aL,z1,z2,?_⟩,?_⟩
    ·rw[←IT]
     conv=>rhs;unfold wY;rw[if_pos hh]
    ·show es.length-((n:Int)+1).toNat<es.length-(n:Int).toNat
     omega
   ·have hh:Cr i t l x=false:=by
     rw[Bool.eq_false_iff];intro hk
     simp only[Cr,aw,beq_iff_eq]at hk
     exact qe hk.1 hk.2
    rw[wrap64 (n:=ix x-i) (by omega) (by omega),wrap64 (n:=ix x-i-1) (by omega) (by omega)]
    have eA:jj i t l pi pt es=(ix x,l.take (ix x-i-1).toNat++x::es.drop (n+1)):=by
     unfold jj;rw[if_pos hA,←IT];unfold wY;rw[if_neg (by simp[hh])]
    have ed:es.drop n=x::es.drop (n+1):=by rw[List.drop_eq_getElem_cons aL,lR]
    rw[eA,ed]
    have H7:min (ix x-i-1).toNat l.length+(es.length-n)≤8589934592:=by omega
    refine⟨by omega,hle,⟨Nat.le_trans H7 (by decide),Nat.le_trans (Nat.mul_le_mul_right 320 H7) (by decide)⟩,by omega,⟨rfl,hA⟩,rfl⟩
theorem YH:gM Try.prog pre aK af1:=aj c23 Ye
theorem c71:ax Try.prog 71 s71 (pre 71) (aK 71):=by
 refine bz (given:=[]) mix YH Try.func71 rfl (by kernel_rfl) (v:=aeW) (by kernel_rfl) ?_
 intro ds h hp
 obtain⟨_,_,rfl,⟨m,rfl,hm⟩,cm,_,rfl,H9,_,_,rfl,⟨i,rfl,hi⟩,_,_,rfl,⟨t,rfl,ht⟩,_,_,rfl,⟨l,rfl,hlen,hL⟩,rfl⟩:=h
 obtain⟨hp,Ts⟩:=hp
 replace hp:de i t l=true:=hp
 replace Ts:l.length<4294967296:=Ts
 obtain⟨⟨k1,k2,k3,k4⟩,hc⟩:=fk.1 hp
 have OH:=xh k2 hc
 have he:=VN H9
 simp only[MX]at OH k2 k4
 have hl:aK 25 [.ptr [.int .i64 i, .int .i64 t, .list l]] = .cW [.int .i64 (i+l.length), .int .i64 (eE t l)] :=rfl
 have hw: ∀n lo hi:Int,aK 57 [.int .i64 n, .int .i64 lo, .int .i64 hi] = .bool (qc n lo hi):=fun _ _ _=>rfl
 have hR:aK 71 [.int .i64 m,cm, .int .i64 i, .int .i64 t, .list l] = .cW [.cW [DZ i t l m cm, .int .i64 (tc i t l m)],su i t (tL i t l m cm)] :=rfl
 simp[aeW,cO,cg,cb,bh,cd,bG,cN,cQ,cP,dI,den,U.den,B.den,dp,aq,bu,cn,ch,ck,df,aQ,bn,pre,cD,fl,vr,cr,rp,E.bQ,List.range',hl,hR,su,hp,hw,qc,he]
 have yK:(l.length+1:Nat)≤maxLen:=by simp only[maxLen];omega
 refine⟨fun h=> ?_,fun h1 h2 h3=>⟨fun h4=> ?_,fun h4=> ?_⟩⟩
 ·have hC:tc i t l m=1:=by unfold tc;rw[if_pos (by simp only[MX];omega)]
  simp[DZ,tL,hC,tR]
 ·have hC:tc i t l m=2:=by unfold tc;rw[if_neg (by simp only[MX];omega),if_pos (by simp only[MX];omega)]
  simp[DZ,tL,hC,tR]
 ·have hC:tc i t l m=0:=by unfold tc;rw[if_neg (by simp only[MX];omega),if_neg (by simp only[MX];omega)]
  rw[wrap64 (n:=i+l.length+1) (by omega) (by omega)]
  refine⟨⟨yK,by omega⟩,?_⟩
  simp[DZ,tL,hC,aai]
  exact he
theorem X3:gM Try.prog pre aK afB:=aj c71 YH
theorem c51:ax Try.prog 51 s51 (pre 51) (aK 51):=by
 refine bz (given:=[]) mix X3 Try.func51 rfl (by kernel_rfl) (v:=ae7) (by kernel_rfl) ?_
 intro ds h hp
 obtain⟨_,_,rfl,⟨k,rfl,hk⟩,_,_,rfl,⟨i,rfl,hi⟩,_,_,rfl,⟨t,rfl,ht⟩,_,_,rfl,⟨l,rfl,hlen,hL⟩,rfl⟩:=h
 replace hp:de i t l=true:=hp
 rw[tn]at hk
 obtain⟨⟨k1,k2,k3,k4⟩,hc⟩:=fk.1 hp
 have OH:=xh k2 hc
 have nL:=hlen.1
 have hb:=hlen.2
 rw[mV]at hb
 simp only[MX]at OH k2 k4
 have hl:aK 25 [.ptr [.int .i64 i, .int .i64 t, .list l]] = .cW [.int .i64 (i+l.length), .int .i64 (eE t l)] :=rfl
 have hT: ∀k:Int,aK 50 [.ptr [.int .i64 i, .int .i64 t, .list l], .int .i64 k] = .cW [.int .i64 (gf i t l k).1, .int .i64 (gf i t l k).2] :=fun _=>rfl
 have hR:aK 51 [.int .i64 k, .int .i64 i, .int .i64 t, .list l] = .cW [.int .i64 (C2 i l k),su (iW i t l k).1 (iW i t l k).2.1 (iW i t l k).2.2] :=rfl
 simp[ae7,cO,cg,cb,bh,cd,bG,cN,cQ,cP,dI,den,U.den,B.den,dp,aq,bu,cn,ch,ck,df,aQ,bn,pre,cD,fl,vr,cr,rp,E.bQ,List.range',hl,hT,hR,su,hp]
 refine⟨fun h=>by simp[C2,iW,h],fun h=>⟨fun h2=>by simp[C2,iW,show¬(i+l.length<k) by omega,h2],fun h2=> ?_⟩⟩
 rw[wrap64 (n:=k-i) (by omega) (by omega)]
 have e:iW i t l k=(k,(gf i t l k).1,l.drop (k-i).toNat):=by unfold iW;rw[if_neg (by omega)]
 refine⟨by omega,⟨Nat.le_trans nL (Nat.le_add_right _ _),Nat.le_trans (Nat.mul_le_mul_right 320 (by omega)) hb⟩,by unfold C2;rw[if_neg (by omega)],by rw[e],by rw[e],by rw[e]⟩
theorem Lh:gM Try.prog pre aK afO:=aj c51 X3
theorem cnw:ax Try.prog 22 snw (fun ds=>pre 22 ds∧((aK 22 ds).ak.getD 0 .top).dT=false) (aK 22):=by
 refine bz (given:=[]) mix Lh Try.func22 rfl (by kernel_rfl) (v:=aeN) (by kernel_rfl) ?_
 intro ds h hp
 obtain⟨_,_,rfl,⟨i,rfl,hi⟩,_,_,rfl,⟨t,rfl,ht⟩,rfl⟩:=h
 have OC:=hp.2
 have hw: ∀n:Int,aK 57 [.int .i64 n, .int .i64 0, .int .i64 1099511627776] = .bool (qc n 0 1099511627776):=fun _=>rfl
 change D.dT (cD 0 (iU i t))=false at OC
 have h0:okB i t=true∧(i=0↔t=0):=by
  refine Decidable.byContradiction fun hc=> ?_
  rw[iU,if_neg hc]at OC
  exact absurd (show true=false from OC) (by decide)
 have hR:aK 22 [.int .i64 i, .int .i64 t] = .cW [.cW [],su i t []] :=by show iU i t=_;rw[iU,if_pos h0]
 obtain⟨hp1,hq⟩:=h0
 obtain⟨h1,h2,h3,h4⟩:=jd.1 hp1
 simp only[MX]at h2 h4
 have e:(i==0)=(t==0):=by rw[Bool.eq_iff_iff];simpa using hq
 simp[aeN,cO,cg,cb,bh,cd,bG,cN,cQ,cP,GN,dI,den,U.den,B.den,dp,aq,bu,cn,ch,ck,df,aQ,bn,pre,hw,qc,hR,su,e]
 omega
theorem cnl:ax Try.prog 22 snl (fun ds=>pre 22 ds∧((aK 22 ds).ak.getD 0 .top).dT=true) (fun _=> .eW):=by
 refine aH (given:=[]) mix Lh Try.func22 (by kernel_rfl) (v:=aeO) (by kernel_rfl) ?_
 intro ds h hp
 obtain⟨_,_,rfl,⟨i,rfl,hi⟩,_,_,rfl,⟨t,rfl,ht⟩,rfl⟩:=h
 have OC:=hp.2
 have hw: ∀n:Int,aK 57 [.int .i64 n, .int .i64 0, .int .i64 1099511627776] = .bool (qc n 0 1099511627776):=fun _=>rfl
 change D.dT (cD 0 (iU i t))=true at OC
 have h0: ¬(okB i t=true∧(i=0↔t=0)):=by
  intro hc
  rw[iU,if_pos hc]at OC
  exact absurd (show false=true from OC) (by decide)
 simp[aeO,cO,cg,cb,bh,cd,bG,cN,cQ,cP,GN,dI,den,U.den,B.den,dp,aq,bu,cn,ch,ck,df,aQ,bn,pre,hw,qc]
 intro h1 h2 h3 h4 h5
 refine h0 ⟨jd.2 (by simp only[MX];omega),?_⟩
 rw[Bool.eq_iff_iff]at h5
 simpa using h5
end Go.Proofs.Ytjhmkaninmgilaa
