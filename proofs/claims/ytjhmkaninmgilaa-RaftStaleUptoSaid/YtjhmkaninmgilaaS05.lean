/- Part 5 of the proof of RaftStale; no condition. -/
import Derived.Test.YtjhmkaninmgilaaS04
import Derived.ProofKit
import Derived.OpenShut
import Derived.Test.YtjhmkaninmgilaaProg
set_option linter.unusedVariables false
set_option linter.unusedSimpArgs false
set_option maxHeartbeats 4000000
namespace Go.bZ
open Go Go.RowKit Go.ChangeShapes Go.WideShapes
def oX(g:TypeId→Option (List Ty))(cells:TypeId→Nat):Nat→List Field→Option (List Ty)
 |_,[] =>some []
 |o,f::fs=>if f.offset=o then
   match g f.type with
   |some ts=>if cells f.type=ts.length then(oX g cells (o+ts.length) fs).map (ts++ ·) else none
   |none=>none
  else none
def Rj:Ty→Bool
 | .agg _=>false
 |_=>true
def EH(P:Program)(e:TypeId)(ts:List Ty):Option Ty:=
 if fY P e then some (.agg (.bQ ts)) else match ts with
  | [t] =>if Rj t then some t else none
  |_=>none
def o6(cells:Nat)(e:TypeId)(k:Nat):List Field:=(List.range k).map fun i=>{(default:Field) with type:=e,offset:=i*cells}
def nA(P:Program):Nat→TypeId→Option (List Ty)
 |0,_=>none
 |n+1,T=>match P.underlying T with
  |some .bool=>some [.bool]
  |some (.int k)=>some [.int k]
  |some .string=>some [.str]
  |some (.slice e)=>match nA P n e with
   |some ts=>if 0<ts.length∧P.cellsOf e=ts.length then(EH P e ts).bind fun t=>if P.bytesOf e=t.bytes then some [.list t] else none else none
   |none=>none
  |some (.struct fs)=>match oX (nA P n) P.cellsOf 0 fs.toList with
   |some ts=>if P.cellsOf T=ts.length then some ts else none
   |none=>none
  |some (.array k e)=>match oX (nA P n) P.cellsOf 0 (o6 (P.cellsOf e) e k) with
   |some ts=>if P.cellsOf T=ts.length then some ts else none
   |none=>none
  |_=>none
def QF(P:Program)(n:Nat)(T:TypeId):Option Ty:=(nA P n T).bind (EH P T)
mutual
def D.wt:D→Nat
 | .list l=>mg l+1
 | .agg l=>mg l
 |_=>1
def mg:List D→Nat
 | [] =>0
 |d::r=>d.wt+mg r
end
mutual
def zl{H:Type}:DataW H→Nat
 | .slice e _=>uN e+1
 | .agg p=>uN p
 |_=>1
def uN{H:Type}:List (DataW H)→Nat
 | [] =>0
 |d::r=>zl d+uN r
end
theorem pE: ∀{a b:List D},mg (a++b)=mg a+mg b
 | [],b=>by simp[mg]
 |x::a,b=>by simp only[List.cons_append,mg,pE (a:=a)];omega
theorem QK{H:Type}: ∀{ds:List D} {xs:List (DataW H)},ds.length=xs.length→(∀(i:Nat) d x,ds[i]? =some d→xs[i]? =some x→d.wt≤zl x)→mg ds≤uN xs
 | [],[],_,_=>Nat.le_refl _
 | [],_::_,h,_=>by simp at h
 |_::_,[],h,_=>by simp at h
 |d::ds,x::xs,h,h'=>by
  simp only[mg,uN]
  have h1:=h' 0 d x rfl rfl
  have h2:=QK (ds:=ds) (xs:=xs) (by simpa using h) (fun i d x a b=>h' (i+1) d x (by simpa using a) (by simpa using b))
  omega
inductive R3 (K:Nat) (w:World) (S:aO):List Value→List D→List Ty→Prop
 |nil:R3 K w S [] [] []
 |cons {v d t vs ds ts} (h:bj w S v d) (ht:pn K t d) (hr:R3 K w S vs ds ts):R3 K w S (v::vs) (d::ds) (t::ts)
section
variable{K:Nat}{d:D}{l:List D}{k:IntKind}{t h:Ty}{f:Nat}
theorem Hj:pn K (.int k) d↔ ∃n,d= .int k n∧kr k n:=Iff.rfl
theorem Ds:pn K .bool d↔ ∃b,d= .bool b:=Iff.rfl
theorem Hi:pn K .str d↔ ∃s,d= .str s:=Iff.rfl
theorem si:pn K (.list t) d↔ ∃l,d= .list l∧EA K t l.length∧ ∀x∈l,pn K t x:=Iff.rfl
theorem Sg:pn K (.agg t) d↔ ∃l,d= .agg l∧p9 K t l:=Iff.rfl
theorem R9:pn K (.cW t) d↔ ∃l,d= .cW l∧p9 K t l:=Iff.rfl
theorem Sf:pn K (.box t) d↔ ∃l,d= .ptr l∧p9 K t l:=Iff.rfl
theorem Sb:pn K (.ptr t) d↔d= .eW∨ ∃l,d= .ptr l∧p9 K t l:=Iff.rfl
theorem Vt:pn K (.fn f t) d↔ ∃l,d= .fn f l∧p9 K t l:=Iff.rfl
theorem Sc:p9 K .nil l↔l=[] :=Iff.rfl
theorem NK:p9 K (.cons h t) l↔ ∃a r,l=a::r∧pn K h a∧p9 K t r:=Iff.rfl
end
section
variable{w:World}{S:aO}{K:Nat}
theorem R3.append{vs ds ts DH ds' Tj}(h:R3 K w S vs ds ts)(h':R3 K w S DH ds' Tj):R3 K w S (vs++DH) (ds++ds') (ts++Tj):=by
 induction h with
 |nil=>exact h'
 |cons a b _ ih=>exact .cons a b ih
theorem R3.len{vs ds ts}(h:R3 K w S vs ds ts):vs.length=ts.length∧ds.length=ts.length:=by
 induction h with
 |nil=>exact⟨rfl,rfl⟩
 |cons a b _ ih=>exact⟨by simp[ih.1],by simp[ih.2]⟩
theorem R3.get{vs ds ts}(h:R3 K w S vs ds ts): ∀(i:Nat) v d,vs[i]? =some v→ds[i]? =some d→bj w S v d:=by
 induction h with
 |nil=>intro i v d h;simp at h
 |cons a b _ ih=>
  intro i v d h1 h2
  cases i with
  |zero=>simp at h1 h2;subst h1;subst h2;exact a
  |succ i=>exact ih i v d (by simpa using h1) (by simpa using h2)
theorem R3.has{vs ds ts}(h:R3 K w S vs ds ts):p9 K (.bQ ts) ds:=by
 induction h with
 |nil=>exact Sc.2 rfl
 |cons a b _ ih=>exact NK.2 ⟨_,_,rfl,b,ih⟩
theorem FC{t:Ty}{d:D}(h:pn K t d)(hn:Rj t=true):d.cells=[d] :=by
 cases t with
 |agg fs=>cases hn
 |int k=>obtain⟨n,rfl,_⟩:=Hj.1 h;rfl
 |bool=>obtain⟨n,rfl⟩:=Ds.1 h;rfl
 |str=>obtain⟨n,rfl⟩:=Hi.1 h;rfl
 |list t=>obtain⟨n,rfl,_⟩:=si.1 h;rfl
 |cW t=>obtain⟨n,rfl,_⟩:=R9.1 h;rfl
 |box t=>obtain⟨n,rfl,_⟩:=Sf.1 h;rfl
 |ptr t=>rcases Sb.1 h with rfl|⟨n,rfl,_⟩<;>rfl
 |fn f t=>obtain⟨n,rfl,_⟩:=Vt.1 h;rfl
 |nil=>exact h.elim
 |cons a b=>exact h.elim
theorem LO{P:Program}{e:TypeId}{ts:List Ty}{t:Ty}{vs:List Value}{ds:List D}(he:EH P e ts=some t)(h:R3 K w S vs ds ts): ∃d:D,pn K t d∧d.cells=ds∧(fY P e=true→d= .agg ds)∧(fY P e=false→ds=[d])∧d.wt=mg ds:=by
 unfold EH at he
 split at he
 ·rename_i ha
  injection he with he;subst he
  exact⟨.agg ds,Sg.2 ⟨ds,rfl,h.has⟩,rfl,fun _=>rfl,(fun h=>by rw[ha]at h;cases h),by simp[D.wt]⟩
 ·rename_i ha
  split at he
  ·rename_i t'
   split at he
   ·rename_i hn
    injection he with he;subst he
    cases h with
    |cons a b hr=>
     cases hr
     rename_i d
     exact⟨d,b,FC b hn,(fun h=>absurd h ha),(fun _=>rfl),by simp[mg]⟩
   ·cases he
  ·cases he
variable{H:Type}{enc:TypeId×Value→H}{P:Program}{base:Nat}{spare:Nat→Bool}{held:Bool}
theorem qa{z:Nat}: ∀{ts:List TypeId} {ds:List (DataW H)} (i:Nat) {t:TypeId} {d:DataW H},ts[i]? =some t→ds[i]? =some d→z∈d.weights P t→z∈DataW.weightsEach P ts ds
 | [],_,i,t,d,h,_,_=>by simp at h
 |_::_,[],i,t,d,_,h,_=>by simp at h
 |t::ts,d::ds,0,u,e,h1,h2,hz=>by
  simp at h1 h2;subst h1;subst h2
  unfold DataW.weightsEach
  exact List.mem_append_left _ hz
 |t::ts,d::ds,i+1,u,e,h1,h2,hz=>by
  unfold DataW.weightsEach
  exact List.mem_append_right _ (qa i (by simpa using h1) (by simpa using h2) hz)
theorem mX{z:Nat}{e:TypeId}: ∀{ds:List (DataW H)} {d:DataW H},d∈ds→z∈d.weights P e→z∈DataW.weightsAll P e ds
 | [],d,h,_=>by simp at h
 |x::ds,d,h,hz=>by
  unfold DataW.weightsAll
  rcases List.mem_cons.1 h with rfl|h
  ·exact List.mem_append_left _ hz
  ·exact List.mem_append_right _ (mX h hz)
theorem ui{n m:Nat}{cs:List Value}
  (ih: ∀(T:TypeId) (cs:List Value) (x:DataW H×List MemPlace) (ts:List Ty),nA P n T=some ts→DataW.trod enc P w base spare held m T cs=some x→(∀b o,MemPlace.cell b o∈x.2→S b o)→(∀z∈x.1.weights P T,z≤K)→ ∃ds,R3 K w S cs ds ts∧mg ds≤zl x.1):
  ∀(fs:List Field) (xs:List (DataW H×List MemPlace)) (o:Nat) (ts:List Ty),oX (nA P n) P.cellsOf o fs=some ts→cs.length=o+ts.length→xs.length=fs.length→
   (∀(i:Nat) f,fs[i]? =some f→ ∃x:DataW H×List MemPlace,xs[i]? =some x∧DataW.trod enc P w base spare held m f.type ((cs.drop f.offset).take (P.cellsOf f.type))=some x∧(∀b o,MemPlace.cell b o∈x.2→S b o)∧ ∀z∈x.1.weights P f.type,z≤K)→
   ∃ds,R3 K w S (cs.drop o) ds ts∧mg ds≤uN (xs.map (·.1))
 | [],xs,o,ts,h,hl,_,_=>by
  simp only[oX,Option.some.injEq]at h
  subst h
  rw[List.drop_of_length_le (by simp at hl;omega)]
  exact⟨[], .nil,Nat.zero_le _⟩
 |f::fs,[],o,ts,h,hl,mZ,_=>by simp at mZ
 |f::fs,x0::xs,o,ts,h,hl,mZ,hx=>by
  simp only[oX]at h
  split at h
  ·rename_i ho
   split at h
   ·rename_i t1 Y4
    split at h
    ·rename_i hc
     simp only[br]at h
     obtain⟨t2,SR,rfl⟩:=h
     obtain⟨x,fL,FV,B3,hx3⟩:=hx 0 f rfl
     simp only[List.getElem?_cons_zero,Option.some.injEq]at fL
     subst fL
     obtain⟨d1,r1,k1⟩:=ih _ _ _ _ Y4 FV B3 hx3
     rw[List.length_append]at hl
     obtain⟨d2,r2,k2⟩:=ui (cs:=cs) ih fs xs (o+t1.length) t2 SR (by omega) (by simpa using mZ) (fun i g hg=>by
      obtain⟨y,hy,hr⟩:=hx (i+1) g (by simpa using hg)
      exact⟨y,by simpa using hy,hr⟩)
     refine⟨d1++d2,?_,by rw[pE];simp only[List.map_cons,uN];omega⟩
     have:=r1.append r2
     rw[hc,ho]at this
     rw[←List.drop_drop,List.take_append_drop]at this
     exact this
    ·cases h
   ·cases h
  ·cases h
theorem vA: ∀(n m:Nat) (T:TypeId) (cs:List Value) (x:DataW H×List MemPlace) (ts:List Ty),nA P n T=some ts→DataW.trod enc P w base spare held m T cs=some x→(∀b o,MemPlace.cell b o∈x.2→S b o)→(∀z∈x.1.weights P T,z≤K)→ ∃ds,R3 K w S cs ds ts∧mg ds≤zl x.1
 |0,_,_,_,_,_,h,_,_,_=>by cases h
 |n+1,m,T,cs,x,ts,h,hx,hS,H5=>by
  unfold nA at h
  split at h
  ·rename_i hu
   injection h with h;subst h
   obtain⟨b,rfl,rfl⟩:=DataW.trod_bool hu hx
   exact⟨[.bool b], .cons (.bool b) (Ds.2 ⟨b,rfl⟩) .nil,by simp[mg,D.wt,zl]⟩
  ·rename_i k hu
   injection h with h;subst h
   obtain⟨i,rfl,rfl,hw⟩:=DataW.trod_int hu hx
   exact⟨[.int k i], .cons (.int k i) (Hj.2 ⟨i,rfl,by simpa [Lit.wf,kr]using hw⟩) .nil,by simp[mg,D.wt,zl]⟩
  ·rename_i hu
   injection h with h;subst h
   obtain⟨s,rfl,rfl,_⟩:=DataW.trod_string hu hx
   exact⟨[.str s], .cons (.str s) (Hi.2 ⟨s,rfl⟩) .nil,by simp[mg,D.wt,zl]⟩
  ·rename_i e hu
   split at h
   ·rename_i t1 Y4
    split at h
    ·rename_i ev
     obtain⟨ev,Oi⟩:=ev
     rw[Option.bind_eq_some_iff]at h
     obtain⟨t,het,h⟩:=h
     split at h
     case isFalse=>cases h
     rename_i Cq
     injection h with h;subst h
     rcases DataW.trod_slice hu hx with⟨rfl,hxn⟩|⟨a,len,cap,elems,rest,m',rfl,rfl,H4,_,Mc,H9,hle,F3,_⟩
     ·exact⟨[.list []], .cons (.nil none 0) (si.2 ⟨[],rfl,yn _ _,by simp⟩) .nil,by rw[hxn];simp[mg,D.wt,zl]⟩
     ·rcases Nat.eq_zero_or_pos len with h0|h0
      ·subst h0
       exact⟨[.list []], .cons (.nil (some a) cap) (si.2 ⟨[],rfl,yn _ _,by simp⟩) .nil,by rw[H4];simp[mg,D.wt,zl]⟩
      ·rw[Oi]at F3
       have Ui: ∀z∈((elems.map (·.1)).length+(rest.map (·.1)).length)*P.bytesOf e::(DataW.weightsAll P e (elems.map (·.1))++DataW.weightsAll P e (rest.map (·.1))),z≤K:=by
        intro z hz
        refine H5 z ?_
        rw[H4]
        simp only[DataW.weights,hu]
        exact hz
       have fX: ∀i,i<len→ ∃(ci:List Value) (d:D),w.cells? base (a.add (i*t1.length)) t1.length=some ci∧pn K t d∧d.cells.length=t1.length∧(∀(j:Nat) v c,ci[j]? =some v→d.cells[j]? =some c→bj w S v c)∧ ∀x,elems[i]? =some x→d.wt≤zl x.1:=by
        intro i hi
        have h1:=F3 i hi
        have h2:elems[i]? =some (elems[i]'(by omega)):=av _
        rw[h2,Option.bind_eq_some_iff]at h1
        obtain⟨ci,KM,Tr⟩:=h1
        obtain⟨di,ri,ki⟩:=vA n m' e ci _ t1 Y4 Tr (fun b o hb=>hS b o (by
         rw[H4]
         refine List.mem_append_right _ (List.mem_flatMap.2 ⟨elems[i]'(by omega),List.mem_append_left _ (List.getElem_mem _),hb⟩))) (fun z hz=>Ui z (List.mem_cons_of_mem _ (List.mem_append_left _ (mX (List.mem_map.2 ⟨_,List.getElem_mem _,rfl⟩) hz))))
        obtain⟨d,hd,Zi,_,_,hdw⟩:=LO het ri
        refine⟨ci,d,KM,hd,by rw[Zi];exact ri.len.2,fun j v c hv hc=> ?_,fun x hx=>by rw[h2]at hx;injection hx with hx;subst hx;rw[hdw];exact ki⟩
        rw[Zi]at hc
        exact ri.get j v c hv hc
       obtain⟨b,off,spot⟩:=a
       have aj6:spot=none:=by
        obtain⟨ci,d,KM,_,_⟩:=fX 0 h0
        obtain⟨_,hlen,cB⟩:=World.cells?_some KM
        have g0:=cB 0 ev
        obtain⟨c0,Oj⟩: ∃c0,ci[0]? =some c0:=⟨ci[0]'(by omega),av _⟩
        rw[Oj]at g0
        simpa [Addr.add]using World.cell?_spot g0
       subst aj6
       have TI: ∀i:Nat,∃d:D,i<len→pn K t d∧d.cells.length=t1.length∧(∀(j:Nat) c,d.cells[j]? =some c→ ∃v,w.cell? ⟨b,off+(i*t1.length+j),none⟩=some v∧bj w S v c)∧ ∀x,elems[i]? =some x→d.wt≤zl x.1:=by
        intro i
        by_cases hi:i<len
        ·obtain⟨ci,d,KM,hd,qo,fa,L6⟩:=fX i hi
         obtain⟨_,hlen,cB⟩:=World.cells?_some KM
         refine⟨d,fun _=>⟨hd,qo,fun j c hc=> ?_,L6⟩⟩
         have hj:j<t1.length:=by rw[←qo];exact(ai.1 hc).1
         have g:=cB j hj
         rw[add_plain,add_plain]at g
         have hv:ci[j]? =some (ci[j]'(by omega)):=av _
         refine⟨_,?_,fa j _ c hv hc⟩
         rw[←Nat.add_assoc,g,hv]
        ·exact⟨.top,fun h=>absurd h hi⟩
       have MH:=fun i=>Classical.choose_spec (TI i)
       generalize hD:(fun i=>Classical.choose (TI i))=Df at*
       have hDf: ∀i,Classical.choose (TI i)=Df i:=fun i=>by rw[←hD]
       simp only[hDf]at MH
       refine⟨[.list ((List.range len).map Df)], .cons ?_ (si.2 ⟨_,rfl,⟨by simp;omega,?_⟩,?_⟩) .nil,?_⟩
       ·have om:((List.range len).map Df).length=len:=by simp
        have hgo: ∀(i:Nat) d,((List.range len).map Df)[i]? =some d→i<len∧d=Df i:=by
         intro i d hi
         have aL:i<len:=by rw[←om];exact(ai.1 hi).1
         simp[aL]at hi
         exact⟨aL,hi.symm⟩
        have:=bj.list (w:=w) (S:=S) b off cap t1.length ((List.range (len*t1.length)).map fun j=>(w.cell? ⟨b,off+j,none⟩).getD undef) ((List.range len).map Df) ev
         (by intro h;have:=congrArg List.length h;simp at this;omega) (by rw[om];exact Mc) (by simp)
         (fun i hi=>hS b (off+i) (by
          rw[H4]
          refine List.mem_append_left _ (MemPlace.mem_row.2 ⟨i,?_,rfl⟩)
          simp at hi
          rw[Oi,hle]
          exact Nat.lt_of_lt_of_le hi (Nat.mul_le_mul_right _ (by omega))))
         (fun i v hv=>by
          have hi:i<len*t1.length:=by have:=(ai.1 hv).1;simpa using this
          simp[hi]at hv
          have hq:i/t1.length<len:=(Nat.div_lt_iff_lt_mul ev).2 hi
          obtain⟨_,qo,m8,_⟩:=MH (i/t1.length) hq
          have hr:i % t1.length<(Df (i/t1.length)).cells.length:=by rw[qo];exact Nat.mod_lt _ ev
          obtain⟨u,Oz,_⟩:=m8 (i % t1.length) _ (av hr)
          have KJ:i/t1.length*t1.length+i % t1.length=i:=by rw[Nat.mul_comm];exact Nat.div_add_mod i t1.length
          rw[KJ]at Oz
          rw[Oz]at hv⊢
          exact congrArg some hv)
         (fun i d hi=>by obtain⟨h1,rfl⟩:=hgo i d hi;exact(MH i h1).2.1)
         (fun i d j v c hi hj hv=>by
          obtain⟨h1,rfl⟩:=hgo i d hi
          obtain⟨_,qo,m8,_⟩:=MH i h1
          obtain⟨u,Oz,Tu⟩:=m8 j c hj
          have jh:j<t1.length:=by rw[←qo];exact(ai.1 hj).1
          have aL:i*t1.length+j<len*t1.length:=by
           have:(i+1)*t1.length≤len*t1.length:=Nat.mul_le_mul_right _ h1
           rw[Nat.add_mul]at this;omega
          simp[aL,Oz]at hv
          subst hv
          exact Tu)
        rw[om]at this
        exact this
       ·have h9:=Ui _ (List.mem_cons_self ..)
        rw[←Cq]
        simp only[List.length_map,List.length_range,hle]at h9⊢
        rw[Nat.add_mul]at h9
        omega
       ·intro d hd
        obtain⟨i,hi,rfl⟩:=List.mem_map.1 hd
        exact(MH i (List.mem_range.1 hi)).1
       ·rw[H4]
        simp only[mg,D.wt,zl,List.length_map,List.length_range]
        have:=QK (H:=H) (ds:=(List.range len).map Df) (xs:=elems.map (·.1)) (by simp[hle]) (fun i d x hd hx=>by
         have aL:i<len:=by have:=(ai.1 hd).1;simpa using this
         simp[aL]at hd
         subst hd
         rw[List.getElem?_map,br]at hx
         obtain⟨y,hy,rfl⟩:=hx
         exact(MH i aL).2.2.2 y hy)
        omega
    ·cases h
   ·cases h
  ·rename_i fs hu
   split at h
   ·rename_i t1 Y4
    split at h
    ·rename_i F5
     injection h with h;subst h
     obtain⟨xs,m',rfl,rfl,hl,mZ,hf⟩:=DataW.trod_struct hu hx
     have:=ui (S:=S) (cs:=cs) (n:=n) (m:=m') (enc:=enc) (base:=base) (spare:=spare) (held:=held) (fun T cs x ts=>vA n m' T cs x ts) fs.toList xs 0 t1 Y4 (by omega) (by simpa using mZ) (fun i f hi=>by
      rw[Array.getElem?_toList]at hi
      have Tq:=hf i f hi
      have eX:i<xs.length:=by rw[mZ];exact(Array.getElem?_eq_some_iff.1 hi).1
      rw[av eX]at Tq
      refine⟨_,av eX,Tq,fun b o hb=>hS b o (List.mem_flatMap.2 ⟨_,List.getElem_mem eX,hb⟩),fun z hz=>H5 z ?_⟩
      simp only[DataW.weights,hu]
      exact qa i (by simp[hi]) (by simp[av eX]) hz)
     simpa [zl]using this
    ·cases h
   ·cases h
  ·rename_i k e hu
   split at h
   ·rename_i t1 Y4
    split at h
    ·rename_i F5
     injection h with h;subst h
     obtain⟨xs,m',rfl,rfl,hl,mZ,hf⟩:=DataW.trod_array hu hx
     have hfi: ∀(i:Nat) f,(o6 (P.cellsOf e) e k)[i]? =some f→i<k∧f.type=e∧f.offset=i*P.cellsOf e:=by
      intro i f hi
      unfold o6 at hi
      rw[List.getElem?_map,br]at hi
      obtain⟨j,hj,rfl⟩:=hi
      obtain⟨KH,CP⟩:=ai.1 hj
      rw[List.length_range]at KH
      rw[List.getElem_range]at CP
      exact⟨KH,rfl,by rw[←CP]⟩
     have:=ui (S:=S) (cs:=cs) (n:=n) (m:=m') (enc:=enc) (base:=base) (spare:=spare) (held:=held) (fun T cs x ts=>vA n m' T cs x ts) (o6 (P.cellsOf e) e k) xs 0 t1 Y4 (by omega) (by simp[o6,mZ]) (fun i f hi=>by
      obtain⟨Md,e1,e2⟩:=hfi i f hi
      have Tq:=hf i Md
      have eX:i<xs.length:=by rw[mZ];exact Md
      rw[av eX]at Tq
      rw[e1,e2]
      refine⟨_,av eX,Tq,fun b o hb=>hS b o (List.mem_flatMap.2 ⟨_,List.getElem_mem eX,hb⟩),fun z hz=>H5 z ?_⟩
      simp only[DataW.weights,hu]
      exact mX (List.mem_map.2 ⟨_,List.getElem_mem eX,rfl⟩) hz)
     simpa [zl]using this
    ·cases h
   ·cases h
  ·cases h
end
def AG(P:Program)(n:Nat):List TypeId→Option (List Ty)
 | [] =>some []
 |t::ts=>match QF P n t,AG P n ts with
  |some x,some xs=>some (x::xs)
  |_,_=>none
section
variable{K:Nat}{w:World}{S:aO}{H:Type}{enc:TypeId×Value→H}{P:Program}{base b0:Nat}{spare:Nat→Bool}{held:Bool}{r:Reach}
theorem Fm{T:TypeId}{v:Value}(bM:Value.okWide P w r b0 T v)(ha:fY P T=false):v.cells.toList=[v] :=by
 have: ∀cs,v≠ .agg cs:=by
  rintro cs rfl
  unfold Value.okWide at bM
  unfold fY at ha
  split at bM
  ·simp_all
  ·simp_all
  ·unfold Cell.okWide at bM
   split at bM<;>simp_all [Cell.ok]
 cases v<;>first|rfl|exact absurd rfl (this _)
theorem Kb{T:TypeId}{v:Value}(bM:Value.okWide P w r b0 T v)(ha:fY P T=true): ∃cs:List Value,v= .agg cs.toArray:=by
 unfold Value.okWide at bM
 unfold fY at ha
 split at bM
 ·obtain⟨cs,rfl,_⟩:=bM;exact⟨cs.toList,rfl⟩
 ·obtain⟨cs,rfl,_⟩:=bM;exact⟨cs.toList,rfl⟩
 ·simp_all
theorem VU{n:Nat}{T:TypeId}{v:Value}{d:DataW H}{ps:List MemPlace}{ty:Ty}(bM:Value.okWide P w r b0 T v)(hd:DataW.Trod enc P w base spare held T v d ps)(fV:QF P n T=some ty)
  (hS: ∀b o,MemPlace.cell b o∈ps→S b o) (H5: ∀z∈d.weights P T,z≤K): ∃x:D,bj w S v x∧pn K ty x∧x.wt≤zl d:=by
 unfold QF at fV
 rw[Option.bind_eq_some_iff]at fV
 obtain⟨ts,nh,he⟩:=fV
 obtain⟨m,hm⟩:=hd
 obtain⟨ds,hr,hk⟩:=vA n m T _ _ ts nh hm hS H5
 obtain⟨x,hx,_,h1,h2,h3⟩:=LO he hr
 refine⟨x,?_,hx,by rw[h3];exact hk⟩
 cases ha:fY P T with
 |true=>
  obtain⟨cs,rfl⟩:=Kb bM ha
  rw[h1 ha]
  have FO:R3 K w S cs ds ts:=hr
  exact .agg cs ds (by rw[FO.len.1,FO.len.2]) FO.get
 |false=>
  rw[Fm bM ha,h2 ha]at hr
  exact hr.get 0 v x rfl rfl
theorem Hp{n:Nat}: ∀{ts:List TypeId} {vs:List Value} {ds:List (DataW H)} {ps:List MemPlace} {oc:List Ty},(∀(j:Nat) t v,ts[j]? =some t→vs[j]? =some v→Value.okWide P w r b0 t v)→
  DataW.TrodAll enc P w base spare held ts vs ds ps→AG P n ts=some oc→(∀b o,MemPlace.cell b o∈ps→S b o)→(∀z∈DataW.weightsEach P ts ds,z≤K)→ ∃xs:List D,R3 K w S vs xs oc∧mg xs≤uN ds
 | [],[],[],ps,oc,_,_,ht,_,_=>by
  simp only[AG,Option.some.injEq]at ht
  subst ht
  exact⟨[], .nil,Nat.zero_le _⟩
 |t::ts,v::vs,d::ds,ps,oc,bM,⟨p,q,h1,h2,e⟩,ht,hS,H5=>by
  unfold DataW.weightsEach at H5
  simp only[AG]at ht
  split at ht
  ·rename_i x xs hx pT
   injection ht with ht;subst ht
   obtain⟨a,ha,hta,hka⟩:=VU (bM 0 t v rfl rfl) h1 hx (fun b o hb=>hS b o (by rw[e];exact List.mem_append_left _ hb)) (fun z hz=>H5 z (List.mem_append_left _ hz))
   obtain⟨ys,has,hks⟩:=Hp (fun j t v h1 h2=>bM (j+1) t v (by simpa using h1) (by simpa using h2)) h2 pT (fun b o hb=>hS b o (by rw[e];exact List.mem_append_right _ hb)) (fun z hz=>H5 z (List.mem_append_right _ hz))
   exact⟨a::ys, .cons ha hta has,by simp only[mg,uN];omega⟩
  ·cases ht
 | [],_::_,_,_,_,_,h,_,_,_| [],[],_::_,_,_,_,h,_,_,_|_::_,[],_,_,_,_,h,_,_,_|_::_,_::_,[],_,_,_,h,_,_,_=>h.elim
theorem tw(hl:laidOutB P=true){W W':World}(hb:Below W.heap.size W W'): ∀{ts:List TypeId} {vs:List Value} {ds:List (DataW H)} {ps:List MemPlace},(ts.all fun t=>P.readableRec t&&decide (t<P.types.size))=true→
  DataW.TrodAll enc P W 0 (fun _=>true) true ts vs ds ps→(∀x∈ps,x.block<W.heap.size)→DataW.TrodAll enc P W' 0 (fun b=>decide (b<W.heap.size)) true ts vs ds ps
 | [],[],[],_,_,h,_=>h
 |t::ts,v::vs,d::ds,ps,hr,⟨p,q,h1,h2,e⟩,aL=>by
  rw[List.all_cons,aw,aw,aN]at hr
  exact⟨p,q,Below.trod hl hr.1.1 hr.1.2 h1 hb (fun x hx=>aL x (by rw[e];exact List.mem_append_left _ hx)),
   tw hl hb hr.2 h2 (fun x hx=>aL x (by rw[e];exact List.mem_append_right _ hx)),e⟩
 | [],_::_,_,_,_,h,_| [],[],_::_,_,_,h,_|_::_,[],_,_,_,h,_|_::_,_::_,[],_,_,h,_=>h.elim
theorem Fs{f:Nat}{fn:Func}{sig:bS}{s:ChangeSpec}{apart:Bool}{W:World}{args:Array Value}{ds gs:List (DataW H)}{before:List MemPlace}{tb:TypeId}{Pre:List D→Prop}{Φ:List D→D}(n:Nat)
  (hp:ax P f sig Pre Φ) (hl:laidOutB P=true) (akb:(fn.params.toList.all fun t=>P.readableRec t&&decide (t<P.types.size))=true) (fV:AG P n fn.params.toList=some sig.params)
  (cw:sig.res=[(false,[(.bool,none)])]) (hrt:fn.resultTypes= #[tb]) (htb:P.underlying tb=some .bool) (Qf:s.vars=[])
  (hfn:s.fn H ds={results:=[.lit (.bool true)],args:=ds})
  (aas: ∀(j:Nat) t v,fn.params[j]? =some t→args[j]? =some v→Value.okWide P W r b0 t v)
  (hW:DataW.Whole enc P fn.params.toList s.vars apart W args.toList ds gs before)
  (H5:(DataW.weightsEach P (fn.params.toList++s.plain.varTypes P) (ds++gs)).all (· ≤reachBytes)=true)
  (gE: ∀xs,p9 reachBytes (.bQ sig.params) xs→mg xs≤uN (ds++gs)→Pre xs∧Φ xs= .bool true) (dw:sig.ob=none:=by rfl):
  Calls P f args W fun e W'=> ∃v,e= .returned v∧s.post enc P fn apart true false false W args v W':=by
 have aL:=hW.lt
 have hW0:=hW
 obtain⟨p,q,hA,hV,rfl,_,_⟩:=hW
 rw[Qf]at hV
 obtain⟨rfl,rfl⟩:gs=[] ∧q=[] :=by
  cases gs with
  |nil=>exact⟨rfl,hV⟩
  |cons a b=>exact hV.elim
 have hvt:s.plain.varTypes P=[] :=by simp[ChangeSpec.plain,DataSpec.varTypes,Qf]
 rw[hvt,List.append_nil,List.append_nil]at H5
 have Ui: ∀z∈DataW.weightsEach P fn.params.toList ds,z≤reachBytes:=fun z hz=>by
  simpa using aV.1 H5 z hz
 have h8:reachBytes≤140737488355328:=by decide
 obtain⟨xs,hr,Ij⟩:=Hp (S:=fun b o=>MemPlace.cell b o∈p) (fun j t v h1 h2=>aas j t v (by simpa using h1) (by simpa using h2)) hA fV (fun _ _ h=>h) Ui
 obtain⟨hp1,OC⟩:=gE xs hr.has (by rw[List.append_nil];exact Ij)
 have hc:=hp.calls dw W (fun b o=>MemPlace.cell b o∈p) args.toList xs (fun b o hb=>aL (.cell b o) (List.mem_append_left _ hb)) (by rw[hr.len.1,hr.len.2]) hr.get ((my h8 _).2 _ hr.has) hp1
 refine hc.mono fun e W' h=> ?_
 obtain⟨v,S',τ,rfl,hb,_,_,_,n9,_⟩:=h
 rw[cw]at n9
 rcases n9 with⟨x,hx,hco⟩|⟨dH,_⟩
 ·simp only[List.cons.injEq,and_true]at hx
  subst hx
  obtain⟨c,qf,wH⟩:=hco
  simp only[List.cons.injEq,and_true]at qf
  subst qf
  obtain⟨wH,_⟩:=wH
  rw[OC]at wH
  have hv:=wH.eH
  subst hv
  have hdg:(s.fn H (ds++[]))={results:=[.lit (.bool true)],args:=ds}:=by rw[List.append_nil,hfn]
  refine⟨_,rfl,ds,[],_,[],p,[],hW0,?_,?_,?_,hb.frame _,fun h=>by cases h⟩
  ·rw[hdg,hrt]
   exact⟨[],[],⟨1,by simp[DataW.trod,Value.cells,htb]⟩,rfl,rfl⟩
  ·rw[hdg]
   exact tw hl hb akb hA (fun x hx=>aL x (List.mem_append_left _ hx))
  ·rw[hdg,Qf];rfl
 ·exact absurd rfl dH
end
end Go.bZ
namespace Go.bZ
open Go
section
variable{α:Type}(Φ:Nat→List D→D)
def VC.KO(rt:D→α)(ag:Nat→List D→α)(lp:Nat→(Nat→D)→List D→α)(bad:α):VC→(Nat→D)→α
 | .iP _ _ k,ρ=>k.KO rt ag lp bad ρ
 | .call p f a _ k,ρ=>k.KO rt ag lp bad (dp ρ p (Φ f (den ρ a).ak))
 | .room _ _ _ k,ρ=>k.KO rt ag lp bad ρ
 | .branch e t f,ρ=>if(den ρ e).eh=true then t.KO rt ag lp bad ρ else f.KO rt ag lp bad ρ
 | .loop v0 es _ _,ρ=>lp v0 ρ (es.map (den ρ))
 | .again i es,ρ=>ag i (es.map (den ρ))
 | .ret e,ρ=>rt (den ρ e)
 |_,_=>bad
def VC.tK:VC→(Nat→D)→List D
 | .iP _ _ k,ρ=>k.tK ρ
 | .call p f a _ k,ρ=>k.tK (dp ρ p (Φ f (den ρ a).ak))
 | .room _ _ _ k,ρ=>k.tK ρ
 | .branch _ t f,ρ=>t.tK ρ++f.tK ρ
 | .ret e,ρ=> [den ρ e]
 |_,_=> []
def VC.jm:VC→(Nat→D)→List (List D)
 | .iP _ _ k,ρ=>k.jm ρ
 | .call p f a _ k,ρ=>k.jm (dp ρ p (Φ f (den ρ a).ak))
 | .room _ _ _ k,ρ=>k.jm ρ
 | .branch _ t f,ρ=>t.jm ρ++f.jm ρ
 | .again _ es,ρ=> [es.map (den ρ)]
 |_,_=> []
end
def VC.flat:Bool→VC→Bool
 |b, .iP _ _ k|b, .room _ _ _ k=>k.flat b
 |b, .call _ _ _ _ k=>k.flat b
 |b, .branch _ t f=>t.flat b&&f.flat b
 |b, .again i _=>b&&i==0
 |_,_=>true
def VC.quiet(triv:Nat→Bool):VC→Bool
 | .call _ f _ _ k=>triv f&&k.quiet triv
 | .branch _ t f=>t.quiet triv&&f.quiet triv
 | .again .. =>true
 | .ret _=>true
 |_=>false
section
variable(Φ:Nat→List D→D)(Pre:Nat→List D→Prop)(triv:Nat→Bool)
def VC.Ou(L:VC→(Nat→D)→Prop):VC→(Nat→D)→Prop
 | .iP pc e k,ρ=>(aq ρ pc=true→(den ρ e).eh=true)∧(if k.quiet triv then True else k.Ou L ρ)
 | .call p f a pc k,ρ=>(if triv f then True else(aq ρ pc=true→Pre f (den ρ a).ak))∧(if k.quiet triv then True else k.Ou L (dp ρ p (Φ f (den ρ a).ak)))
 | .room pc e bytes k,ρ=>(aq ρ pc=true→(den ρ e).ak.length≤maxLen∧(den ρ e).ak.length*bytes≤140737488355328)∧(if k.quiet triv then True else k.Ou L ρ)
 | .branch e t f,ρ=>(if t.quiet triv then True else((den ρ e).eh=true→t.Ou L ρ))∧(if f.quiet triv then True else((den ρ e).eh=false→f.Ou L ρ))
 | .loop v0 es oc body,ρ=>L (.loop v0 es oc body) ρ
 | .again ..,_=>True
 | .ret _,_=>True
 |_,_=>False
def VC.fH(L:VC→(Nat→D)→Prop)(v:VC)(ρ:Nat→D):Prop:=if v.quiet triv then True else v.Ou Φ Pre triv L ρ
end
section
variable{Φ:Nat→List D→D}{Pre:Nat→List D→Prop}{triv:Nat→Bool}
theorem VC.eU{R R':D→Prop}(hR: ∀d,R d→R' d): ∀(v:VC) (ρ:Nat→D) (dE:List (List D→Prop)),v.holds Φ Pre R ρ dE→v.holds Φ Pre R' ρ dE
 | .iP _ _ k,ρ,dE,h=>⟨h.1,eU hR k ρ dE h.2⟩
 | .call _ _ _ _ k,ρ,dE,h=>⟨h.1,fun d hd=>eU hR k _ dE (h.2 d hd)⟩
 | .room _ _ _ k,ρ,dE,h=>⟨h.1,eU hR k ρ dE h.2⟩
 | .branch _ t f,ρ,dE,h=>⟨fun hb=>eU hR t ρ dE (h.1 hb),fun hb=>eU hR f ρ dE (h.2 hb)⟩
 | .loop _ _ _ body,ρ,dE,h=>by
  obtain⟨I,m,h1,h2⟩:=h
  exact⟨I,m,h1,fun xs hx hI=>eU hR body _ _ (h2 xs hx hI)⟩
 | .again _ _,_,_,h=>h
 | .ret _,_,_,h=>hR _ h
 | .any _ _ k,ρ,dE,h=>fun d hd=>eU hR k _ dE (h d hd)
 | .hav _ _ k,ρ,dE,h=>fun d hd=>eU hR k _ dE (h d hd)
 | .range _ _ _ _ _ _ body done,ρ,dE,h=>by
  obtain⟨h0,I,h1,h2,h3⟩:=h
  exact⟨h0,I,h1,fun i x xs a b c d=>eU hR body _ _ (h2 i x xs a b c d),fun xs a b=>eU hR done _ _ (h3 xs a b)⟩
 | .stuck _,_,_,h=>h.elim
theorem VC.xw(L:VC→(Nat→D)→Prop): ∀(v:VC) (ρ:Nat→D),v.quiet triv=true→v.Ou Φ Pre triv L ρ
 | .iP ..,_,h=>by cases h
 | .call _ f _ _ k,ρ,h=>by
  simp only[VC.quiet,aw]at h
  exact⟨by rw[if_pos h.1];trivial,by rw[if_pos h.2];trivial⟩
 | .room ..,_,h=>by cases h
 | .branch _ t f,ρ,h=>by
  simp only[VC.quiet,aw]at h
  exact⟨by rw[if_pos h.1];trivial,by rw[if_pos h.2];trivial⟩
 | .loop ..,_,h=>by cases h
 | .again ..,_,_=>trivial
 | .ret _,_,_=>trivial
 | .any ..,_,h=>by cases h
 | .hav ..,_,h=>by cases h
 | .range ..,_,h=>by cases h
 | .stuck _,_,h=>by cases h
theorem VC.AU{L:VC→(Nat→D)→Prop}{v:VC}{ρ:Nat→D}(h:v.fH Φ Pre triv L ρ):v.Ou Φ Pre triv L ρ:=by
 unfold VC.fH at h
 split at h
 ·rename_i hq;exact VC.xw L v ρ hq
 ·exact h
theorem VC.Jc{L:VC→(Nat→D)→Prop}{v:VC}{ρ:Nat→D}(h:if v.quiet triv then True else v.Ou Φ Pre triv L ρ):v.Ou Φ Pre triv L ρ:=VC.AU h
theorem VC.holds_of{A B:Type}{decL:List D→A}{encL:A→List D}{dec:D→B}{enc:B→D}{lp:Nat→(Nat→D)→List D→B}{bad:A⊕B}{R:D→Prop}{J:List D→Prop}{b:Bool}{dE:List (List D→Prop)}
  (p7: ∀f a,triv f=true→Pre f a) (tN:b=true→dE.head? =some J)
  (L:VC→(Nat→D)→Prop) (hL: ∀v0 es oc body ρ,L (.loop v0 es oc body) ρ→R (enc (lp v0 ρ (es.map (den ρ))))→(VC.loop v0 es oc body).holds Φ Pre R ρ dE):
  ∀(v:VC) (ρ:Nat→D),v.flat b=true→v.Ou Φ Pre triv L ρ→(v.tK Φ ρ).map (fun d=>enc (dec d))=v.tK Φ ρ→(v.jm Φ ρ).map (fun l=>encL (decL l))=v.jm Φ ρ→
   (match v.KO Φ (fun d=> .inr (dec d)) (fun _ l=> .inl (decL l)) (fun v0 ρ l=> .inr (lp v0 ρ l)) bad ρ with| .inl a=>J (encL a)| .inr y=>R (enc y))→v.holds Φ Pre R ρ dE
 | .iP pc e k,ρ,hf,ho,hr,ha,hv=>⟨ho.1,holds_of p7 tN L hL k ρ hf (VC.Jc ho.2) hr ha hv⟩
 | .call p f a pc k,ρ,hf,ho,hr,ha,hv=>by
  refine⟨fun hc=> ?_,fun d hd=> ?_⟩
  ·have h1:=ho.1
   split at h1
   ·exact p7 f _ (by assumption)
   ·exact h1 hc
  ·subst hd
   exact holds_of p7 tN L hL k _ hf (VC.Jc ho.2) hr ha hv
 | .room pc e n k,ρ,hf,ho,hr,ha,hv=>⟨ho.1,holds_of p7 tN L hL k ρ hf (VC.Jc ho.2) hr ha hv⟩
 | .branch e t f,ρ,hf,ho,hr,ha,hv=>by
  simp only[VC.flat,aw]at hf
  simp only[VC.tK,List.map_append]at hr
  simp only[VC.jm,List.map_append]at ha
  have FO:=List.append_inj hr (by simp)
  have ha':=List.append_inj ha (by simp)
  refine⟨fun hb=> ?_,fun hb=> ?_⟩
  ·refine holds_of (bad:=bad) p7 tN L hL t ρ hf.1 ?_ FO.1 ha'.1 ?_
   ·have:=ho.1
    split at this
    ·exact VC.xw L t ρ (by assumption)
    ·exact this hb
   ·simp only[VC.KO]at hv;rw[if_pos hb]at hv;exact hv
  ·refine holds_of (bad:=bad) p7 tN L hL f ρ hf.2 ?_ FO.2 ha'.2 ?_
   ·have:=ho.2
    split at this
    ·exact VC.xw L f ρ (by assumption)
    ·exact this hb
   ·simp only[VC.KO]at hv;rw[if_neg (by rw[hb];simp)]at hv;exact hv
 | .loop v0 es oc body,ρ,_,ho,_,_,hv=>hL v0 es oc body ρ ho hv
 | .again i es,ρ,hf,_,_,ha,hv=>by
  simp only[VC.flat,aw,beq_iff_eq]at hf
  obtain⟨hb,rfl⟩:=hf
  have h1:=tN hb
  simp only[VC.jm,List.map_cons,List.map_nil,List.cons.injEq,and_true]at ha
  cases dE with
  |nil=>cases h1
  |cons J' r=>
   simp only[List.head?_cons,Option.some.injEq]at h1
   subst h1
   show J' (es.map (den ρ))
   rw[←ha];exact hv
 | .ret e,ρ,_,_,hr,_,hv=>by
  simp only[VC.tK,List.map_cons,List.map_nil,List.cons.injEq,and_true]at hr
  show R (den ρ e)
  rw[←hr];exact hv
 | .any ..,_,_,ho,_,_,_=>ho.elim
 | .hav ..,_,_,ho,_,_,_=>ho.elim
 | .range ..,_,_,ho,_,_,_=>ho.elim
 | .stuck _,_,_,ho,_,_,_=>ho.elim
theorem VC.gu{L:VC→(Nat→D)→Prop}{v:VC}{ρ:Nat→D}(h:v.quiet triv=true):v.fH Φ Pre triv L ρ:=by unfold VC.fH;rw[if_pos h];trivial
def VC.o9(Φ:Nat→List D→D)(Pre:Nat→List D→Prop){B:Type}(enc:B→D)(lp:Nat→(Nat→D)→List D→B)(dE:List (List D→Prop))(v:VC)(ρ:Nat→D):Prop:=
 match v with
 | .loop v0 es oc body=>(VC.loop v0 es oc body).holds Φ Pre (fun d=>d=enc (lp v0 ρ (es.map (den ρ)))) ρ dE
 |_=>True
def VC.yQ(Φ:Nat→List D→D)(Pre:Nat→List D→Prop){B:Type}(enc:B→D)(lp:Nat→(Nat→D)→List D→B)(dE:List (List D→Prop))(v:VC)(ρ:Nat→D):Prop:= ∀J:List D→Prop,VC.o9 Φ Pre enc lp (J::dE) v ρ
theorem VC.bH{B:Type}{dec:D→B}{enc:B→D}{lp:Nat→(Nat→D)→List D→B}{bad:B}{y:B}{v:VC}{ρ:Nat→D}{dE:List (List D→Prop)}
  (p7: ∀f a,triv f=true→Pre f a) (hf:v.flat false=true) (ho:v.fH Φ Pre triv (VC.o9 Φ Pre enc lp dE) ρ)
  (hr:(v.tK Φ ρ).map (fun d=>enc (dec d))=v.tK Φ ρ) (hv:v.KO Φ dec (fun _ _=>bad) lp bad ρ=y):v.holds Φ Pre (fun d=>d=enc y) ρ dE:=by
 have zH: ∀(v:VC) (ρ:Nat→D),v.flat false=true→v.jm Φ ρ=[] :=by
  intro v
  induction v with
  |iP _ _ k ih=>intro ρ h;exact ih ρ h
  |call _ _ _ _ k ih=>intro ρ h;exact ih _ h
  |room _ _ _ k ih=>intro ρ h;exact ih ρ h
  |branch _ t f ih1 To=>
   intro ρ h
   simp only[VC.flat,aw]at h
   simp only[VC.jm,ih1 ρ h.1,To ρ h.2,List.append_nil]
  |again i es=>intro ρ h;simp[VC.flat]at h
  |_=>intro ρ _;rfl
 have hev: ∀(v:VC) (ρ:Nat→D),v.flat false=true→v.KO Φ (fun d=>(.inr (dec d):Unit⊕B)) (fun _ l=> .inl ((fun _=>()) l)) (fun v0 ρ l=> .inr (lp v0 ρ l)) (.inr bad) ρ= .inr (v.KO Φ dec (fun _ _=>bad) lp bad ρ):=by
  intro v
  induction v with
  |iP _ _ k ih=>intro ρ h;exact ih ρ h
  |call _ _ _ _ k ih=>intro ρ h;exact ih _ h
  |room _ _ _ k ih=>intro ρ h;exact ih ρ h
  |branch e t f ih1 To=>
   intro ρ h
   simp only[VC.flat,aw]at h
   simp only[VC.KO,ih1 ρ h.1,To ρ h.2]
   split<;>rfl
  |again i es=>intro ρ h;simp[VC.flat]at h
  |_=>intro ρ _;rfl
 subst hv
 refine VC.holds_of (A:=Unit) (decL:=fun _=>()) (encL:=fun _=> []) (dec:=dec) (enc:=enc) (lp:=lp) (bad:= .inr bad) (J:=fun _=>False) (b:=false) p7 (fun h=>by cases h) _ ?_ v ρ hf (VC.AU ho) hr (by rw[zH v ρ hf];rfl) ?_
 ·intro v0 es oc body dK hL hm
  refine VC.eU (fun d hd=> ?_) _ _ _ hL
  rw[hd];exact hm
 ·rw[hev v ρ hf]
theorem VC.Km{A B:Type}{decL:List D→A}{encL:A→List D}{dec:D→B}{enc:B→D}{lp:A→Nat→(Nat→D)→List D→B}{bad:A⊕B}{R:D→Prop}{dE:List (List D→Prop)}{v0:Nat}{es:List E}{oc:List Ty}{body:VC}{ρ:Nat→D}
  (step:A→A⊕B) (F:A→B) (inv:A→Prop) (m:A→Nat) (a0:A) (p7: ∀f a,triv f=true→Pre f a)
  (h0:es.map (den ρ)=encL a0) (hi:inv a0) (KL: ∀a,decL (encL a)=a)
  (hF: ∀a,inv a→(match step a with| .inl a'=>F a=F a'∧inv a'∧m a'<m a| .inr y=>F a=y))
  (sZ:body.flat true=true) (hev: ∀a,inv a→body.KO Φ (fun d=> .inr (dec d)) (fun _ l=> .inl (decL l)) (fun v0 ρ l=> .inr (lp a v0 ρ l)) bad (dI ρ v0 (encL a))=step a)
  (hr: ∀a,(body.tK Φ (dI ρ v0 (encL a))).map (fun d=>enc (dec d))=body.tK Φ (dI ρ v0 (encL a))) (ha: ∀a,(body.jm Φ (dI ρ v0 (encL a))).map (fun l=>encL (decL l))=body.jm Φ (dI ρ v0 (encL a)))
  (dw: ∀a,inv a→bV (.bQ oc) (encL a)→body.fH Φ Pre triv (VC.yQ Φ Pre enc (lp a) dE) (dI ρ v0 (encL a)))
  (hR:R (enc (F a0))):(VC.loop v0 es oc body).holds Φ Pre R ρ dE:=by
 refine⟨fun xs=> ∃a,inv a∧xs=encL a∧F a=F a0,fun xs=>m (decL xs),⟨a0,hi,h0,rfl⟩,fun xs hx hI=> ?_⟩
 obtain⟨a,S9,rfl,hFa⟩:=hI
 refine VC.holds_of (decL:=decL) (encL:=encL) (dec:=dec) (enc:=enc) (lp:=lp a) (bad:=bad) (J:=fun ys=>(∃a,inv a∧ys=encL a∧F a=F a0)∧m (decL ys)<m (decL (encL a))) (b:=true) p7 (fun _=>rfl) _ ?_ body _ sZ (VC.AU (dw a S9 hx)) (hr a) (ha a) ?_
 ·intro v1 es1 awe atI HX hL hm
  refine VC.eU (fun d hd=> ?_) _ _ _ (hL _)
  rw[hd];exact hm
 ·rw[hev a S9]
  have h1:=hF a S9
  revert h1
  cases step a with
  |inl a'=>
   intro h1
   exact⟨⟨a',h1.2.1,rfl,h1.1.symm.trans hFa⟩,by rw[KL,KL];exact h1.2.2⟩
  |inr y=>
   intro h1
   simp only at h1⊢
   rw[←h1,hFa];exact hR
end
def gI{A B:Type}(step:A→A⊕B)(bad:B):Nat→A→B
 |0,_=>bad
 |n+1,a=>match step a with
  | .inl a'=>gI step bad n a'
  | .inr b=>b
theorem Dn{A B:Type}{step:A→A⊕B}{bad:B}{inv:A→Prop}{m:A→Nat}(h: ∀a,inv a→(match step a with| .inl a'=>inv a'∧m a'<m a| .inr _=>True)):
  ∀(k:Nat) (a:A),inv a→m a≤k→ ∀n n',m a<n→m a<n'→gI step bad n a=gI step bad n' a
 |k,a,hi,hk,0,n',h1,h2=>by omega
 |k,a,hi,hk,n+1,0,h1,h2=>by omega
 |0,a,hi,hk,n+1,n'+1,h1,h2=>by
  have h3:=h a hi
  simp only[gI]
  revert h3
  cases step a with
  |inl a'=>intro h3;simp only at h3;omega
  |inr b=>intro _;rfl
 |k+1,a,hi,hk,n+1,n'+1,h1,h2=>by
  have h3:=h a hi
  simp only[gI]
  revert h3
  cases step a with
  |inl a'=>intro h3;simp only at h3;exact Dn h k a' h3.1 (by omega) n n' (by omega) (by omega)
  |inr b=>intro _;rfl
theorem Kl{A B:Type}{step:A→A⊕B}{bad:B}{inv:A→Prop}{m:A→Nat}(h: ∀a,inv a→(match step a with| .inl a'=>inv a'∧m a'<m a| .inr _=>True))(a:A)(hi:inv a):
  (match step a with| .inl a'=>gI step bad (m a+1) a=gI step bad (m a'+1) a'∧inv a'∧m a'<m a| .inr y=>gI step bad (m a+1) a=y):=by
 have h3:=h a hi
 have e:gI step bad (m a+1) a=(match step a with| .inl a'=>gI step bad (m a) a'| .inr b=>b):=rfl
 rw[e]
 revert h3
 cases step a with
 |inl a'=>intro h3;simp only at h3⊢;exact⟨Dn h (m a') a' h3.1 (Nat.le_refl _) _ _ h3.2 (Nat.lt_succ_self _),h3.1,h3.2⟩
 |inr y=>intro _;rfl
theorem kC{A B:Type}{step:A→A⊕B}{bad:B}(I:A→Prop)(Q:B→Prop)(m:A→Nat)(h: ∀a,I a→(match step a with| .inl a'=>I a'∧m a'<m a| .inr b=>Q b)): ∀(n:Nat) (a:A),I a→m a<n→Q (gI step bad n a)
 |0,a,_,hn=>by omega
 |n+1,a,hi,hn=>by
  have h3:=h a hi
  simp only[gI]
  revert h3
  cases step a with
  |inl a'=>intro h3;simp only at h3;exact kC I Q m h n a' h3.1 (by omega)
  |inr b=>intro h3;exact h3
def VC.lat(v0:Nat):VC→Option VC
 | .iP _ _ k| .room _ _ _ k| .call _ _ _ _ k| .any _ _ k| .hav _ _ k=>k.lat v0
 | .branch _ t f=>match t.lat v0 with|some v=>some v|none=>f.lat v0
 | .loop v1 es oc body=>if v1=v0 then some (.loop v1 es oc body) else body.lat v0
 |_=>none
def VC.lp(v0:Nat)(v:VC):VC:=(v.lat v0).getD (.stuck 0)
def VC.lEs:VC→List E
 | .loop _ es _ _=>es
 |_=> []
def VC.aal:VC→List Ty
 | .loop _ _ oc _=>oc
 |_=> []
def VC.uV:VC→VC
 | .loop _ _ _ b=>b
 |_=> .stuck 0
section
variable{Φ:Nat→List D→D}{Pre:Nat→List D→Prop}{triv:Nat→Bool}
theorem VC.fB{A B:Type}{decL:List D→A}{encL:A→List D}{dec:D→B}{enc:B→D}{lp:A→Nat→(Nat→D)→List D→B}{bad:A⊕B}{bd:B}{R:D→Prop}{dE:List (List D→Prop)}{v:VC}{v0:Nat}{ρ:Nat→D}(hv:v= .loop v0 v.lEs v.aal v.uV)
  (step:A→A⊕B) (inv:A→Prop) (m:A→Nat) (a0:A) (p7: ∀f a,triv f=true→Pre f a)
  (h0:v.lEs.map (den ρ)=encL a0) (hi:inv a0) (KL: ∀a,decL (encL a)=a)
  (hs: ∀a,inv a→(match step a with| .inl a'=>inv a'∧m a'<m a| .inr _=>True))
  (sZ:v.uV.flat true=true) (hev: ∀a,inv a→v.uV.KO Φ (fun d=> .inr (dec d)) (fun _ l=> .inl (decL l)) (fun v0 ρ l=> .inr (lp a v0 ρ l)) bad (dI ρ v0 (encL a))=step a)
  (hr: ∀a,(v.uV.tK Φ (dI ρ v0 (encL a))).map (fun d=>enc (dec d))=v.uV.tK Φ (dI ρ v0 (encL a))) (ha: ∀a,(v.uV.jm Φ (dI ρ v0 (encL a))).map (fun l=>encL (decL l))=v.uV.jm Φ (dI ρ v0 (encL a)))
  (dw: ∀a,inv a→bV (.bQ v.aal) (encL a)→v.uV.fH Φ Pre triv (VC.yQ Φ Pre enc (lp a) dE) (dI ρ v0 (encL a)))
  (hR:R (enc (gI step bd (m a0+1) a0))):v.holds Φ Pre R ρ dE:=by
 rw[hv]
 exact VC.Km step (fun a=>gI step bd (m a+1) a) inv m a0 p7 h0 hi KL (fun a S9=>Kl hs a S9) sZ hev hr ha dw hR
end
section
variable{Φ:Nat→List D→D}{Pre:Nat→List D→Prop}
theorem VC.iH{B:Type}{enc:B→D}{lp:Nat→(Nat→D)→List D→B}{dE:List (List D→Prop)}{v:VC}{ρ:Nat→D}(v0:Nat)(hv:v= .loop v0 v.lEs v.aal v.uV)
  (h:v.holds Φ Pre (fun d=>d=enc (lp v0 ρ (v.lEs.map (den ρ)))) ρ dE):VC.o9 Φ Pre enc lp dE v ρ:=by
 rw[hv]at h⊢
 exact h
end
end Go.bZ
namespace Go.Proofs.Ytjhmkaninmgilaa
open Go Go.RowKit Go.bZ Go.Proofs
def apM:Ty:= .agg (.bQ [.int .i64, .int .i64])
def ajD:List Ty:=[.int .i64, .int .i64, .int .i64, .list (.int .i64), .list Rx, .bool]
def aqf:List Ty:=[.int .i64, .int .i64, .int .i64, .int .i64, .list arx, .int .i64, .bool]
def aj0:List Ty:=[.int .i64, .int .i64, .int .i64, .bool, .bool, .int .i64, .int .i64, .int .i64]
def IX:List Ty:=[.int .i64, .int .i64, .int .i64] ++aqf++aj0++[.list apM] ++ajD++[.list (.int .i64), .list (.int .i64)]
def IW:Ty:= .agg (.bQ IX)
def cX:Ty:= .agg (.bQ ([.int .i64, .int .i64] ++IX))
def gn:List aA:=[(.int .i64,none),(.int .i64,none),(cX,some (0,78))]
def mK:Ty:= .agg (.bQ [.list (.int .i64), .list (.int .i64)])
def I6:Ty:= .int .i64
def O5:List Ty:=[I6,I6,I6,I6,I6,I6,I6, .bool,I6,I6,I6,I6, .list cX, .list I6, .list I6, .list (.int .u8)] ++IX++[I6,I6, .list Rx]
def hY:Ty:= .agg (.bQ O5)
def akD:List Ty:=[I6,I6]
def xT:List Ty:=[I6,I6, .list I6, .list I6, .list (.int .u8)]
def WB:Ty:= .agg (.bQ xT)
def jP:Ty:= .agg (.bQ (akD++xT++[.list cX]))
def Ak:Ty:= .agg (.bQ [I6,I6])
def aiw:Ty:= .agg (.bQ [I6,I6,I6, .list I6])
def pl(l:List Ty):List aA:=l.map fun t=>(t,none)
def kg:List aA:=pl [.bool,I6,I6] ++[(cX,some (1,78)),(.ptr (.bQ xT),none),(hY,some (2,49)),(cX,some (3,78)),(Ak,some (4,153))] ++
 pl [I6, .list I6, .list I6,I6,I6] ++[(.box .nil,none)] ++pl xT++pl [I6,I6,I6,I6,I6] ++[(I6,some (5,3))] ++pl (List.replicate 18 I6)++pl [I6, .list aiw] ++pl [I6,I6,I6,I6,I6] ++[(.int .u8,some (6,5))]
def IJ:Ty:= .box (.bQ [I6,I6, .list cX])
def tj:Ty:= .box (.bQ (kg.map fun r=>if r=KC then IJ else Gd r))
def cY:List Ty:=kg.map Gd++gn.map Gd
def Cu:List (Nat×List (Nat×TypeId)):=[(0,[(3,78),(5,49),(6,78),(7,153),(24,3),(50,5),(1002,78)])]
def bP(k:Nat):Ob:=⟨true::List.replicate k false,[kg,gn],[kg,gn],false⟩
def s79:bS:=⟨[.list (.int .i64), .int .i64],[(false,[(.int .i64,none)])],none⟩
def afx:List (Nat×bS):=(79,s79):: []
def s56:bS:=⟨[.list (.int .i64), .int .i64],[(false,[(.bool,none)])],none⟩
def afK:List (Nat×bS):=(56,s56)::afx
def s61:bS:=⟨[.list (.int .i64)],[(false,[(.int .i64,some (1,3))])],none⟩
def afG:List (Nat×bS):=(61,s61)::afK
def s82:bS:=⟨[.list (.int .i64)],[],some ⟨[],[],[[],[]],false⟩⟩
def afw:List (Nat×bS):=(82,s82)::afG
def s83:bS:=⟨[.list (.int .i64)],[(false,[(.list (.int .i64),none)])],some ⟨[],[],[[],[]],false⟩⟩
def afv:List (Nat×bS):=(83,s83)::afw
def s55:bS:=⟨[.list (.int .i64)],[(false,[(.bool,none)])],none⟩
def afL:List (Nat×bS):=(55,s55)::afv
def s21:bS:=⟨[mK],[(false,[(.bool,none)])],none⟩
def af2:List (Nat×bS):=(21,s21)::afL
def s36:bS:=⟨[mK, .int .i64],[(false,[(.bool,none)])],none⟩
def afT:List (Nat×bS):=(36,s36)::af2
def s63:bS:=⟨[mK],[(false,[(.list (.int .i64),none)])],none⟩
def afF:List (Nat×bS):=(63,s63)::afT
def s66:bS:=⟨[mK, .list (.int .i64)],[(false,[(.bool,none)])],none⟩
def afE:List (Nat×bS):=(66,s66)::afF
def YS:bS:=⟨[mK, .list (.int .i64)],[(false,[(.int .i64,none)])],none⟩
def afA:List (Nat×bS):=(72,YS)::afE
def dj:bS:=⟨[mK,mK],[(false,[(.bool,none)])],none⟩
def afC:List (Nat×bS):=(70,dj)::afA
def s20:bS:=⟨[.int .i64, .int .i64, .int .i64],[(false,[(.bool,none)])],none⟩
def af3:List (Nat×bS):=(20,s20)::afC
def s52:bS:=⟨[.list (.int .u8)],[(false,[(.int .u8,some (1,5))])],none⟩
def afN:List (Nat×bS):=(52,s52)::af3
def s60:bS:=⟨[cX],[(false,[(.bool,none)])],none⟩
def afH:List (Nat×bS):=(60,s60)::afN
def PD:bS:=⟨[.list cX, .fn 60 .nil],[(false,[(.int .i64,none)])],none⟩
def QT:List (Nat×bS):=(80,PD)::afH
def PE:bS:=⟨[.list cX, .fn 60 .nil],[(false,[(.bool,none)])],none⟩
def QU:List (Nat×bS):=(59,PE)::QT
def s24:bS:=⟨[.list cX],[(false,[(.bool,none)])],none⟩
def af0:List (Nat×bS):=(24,s24)::QU
def s26:bS:=⟨[mK],[(true,[(I6,some (11,3)),(I6,some (12,3))])],none⟩
def afY:List (Nat×bS):=(26,s26)::af0
def s28:bS:=⟨[IJ],[(false,[(.int .i64,none)]),(false,[(.int .i64,none)])],none⟩
def afX:List (Nat×bS):=(28,s28)::afY
def s25:bS:=⟨[IJ],[(false,[(.int .i64,none)]),(false,[(.int .i64,none)])],none⟩
def afZ:List (Nat×bS):=(25,s25)::afX
def s50:bS:=⟨[IJ,I6],[(false,[(.int .i64,none)]),(false,[(.int .i64,none)])],none⟩
def afP:List (Nat×bS):=(50,s50)::afZ
def mh:bS:=⟨[IJ,I6,I6],[(false,[(.bool,none)])],none⟩
def afz:List (Nat×bS):=(74,mh)::afP
def s65:bS:=⟨[IJ,I6,I6],[(false,[(cX,some (9,78))])],none⟩
def ZI:List (Nat×bS):=(65,s65)::afz
def s49:bS:=⟨[tj,I6],[(true,[(I6,some (11,3)),(I6,some (12,3))])],none⟩
def afQ:List (Nat×bS):=(49,s49)::ZI
def s29:bS:=⟨[tj],[(true,[(I6,some (11,3)),(I6,some (12,3))])],none⟩
def ZU:List (Nat×bS):=(29,s29)::afQ
def s32:bS:=⟨[tj,mK],[(false,[(I6,some (10,3))])],none⟩
def afW:List (Nat×bS):=(32,s32)::ZU
def s76:bS:=⟨[tj,I6],[(false,[(.bool,none)])],none⟩
def ZE:List (Nat×bS):=(76,s76)::afW
def s69:bS:=⟨[tj],[(false,[(.bool,none)])],none⟩
def afD:List (Nat×bS):=(69,s69)::ZE
def zF:bS:=⟨[tj],[(false,[(.bool,none)])],none⟩
def ZG:List (Nat×bS):=(68,zF)::afD
def s38:bS:=⟨[tj,IW],[(false,[(.int .i64,none)])],none⟩
def apE:List (Nat×bS):=(38,s38)::ZG
def s12:bS:=⟨[tj],[(true,pl [I6,I6,I6,I6,I6,I6,I6] ++[(I6,some (11,3)),(I6,some (12,3))])],none⟩
def s57:bS:=⟨[.int .i64, .int .i64, .int .i64],[(false,[(.bool,none)])],none⟩
def Wy:List (Nat×bS):=[(12,s12),(38,s38),(68,zF),(69,s69),(76,s76),(32,s32),(29,s29),(49,s49),(65,s65),(74,mh),(50,s50),(25,s25),(28,s28),(26,s26),(24,s24),(59,PE),(80,PD),(60,s60),(52,s52),(20,s20),(70,dj),(72,YS),(66,s66),(63,s63),(36,s36),(21,s21),(55,s55),(61,s61),(56,s56),(79,s79)]
def afJ:List (Nat×bS):=(57,s57)::Wy
def aY:bS:=⟨[.int .i64, .int .i64, .list (cX)],[(false,[(.bool,none)])],none⟩
def afI:List (Nat×bS):=(58,aY)::afJ
def s23:bS:=⟨[.int .i64, .int .i64, .list cX, .int .i64, .int .i64, .list cX],[(false,[(.int .i64,none)]),(false,[(.bool,none)])],some ⟨[true,false,false,false],[gn],[gn],false⟩⟩
def af1:List (Nat×bS):=(23,s23)::afI
def s71:bS:=⟨[.int .i64,IW, .int .i64, .int .i64, .list cX],[(true,cX.cells.map fun c=>(c,none)),(false,[(.int .i64,none)])],some ⟨[true,false,false],[gn],[gn],false⟩⟩
def afB:List (Nat×bS):=(71,s71)::af1
def s51:bS:=⟨[.int .i64, .int .i64, .int .i64, .list cX],[(false,[(.int .i64,none)])],some ⟨[true,false],[gn],[gn],false⟩⟩
def afO:List (Nat×bS):=(51,s51)::afB
def snw:bS:=⟨[.int .i64, .int .i64],[],some ⟨[false,false],[],[gn],true⟩⟩
def snl:bS:=⟨[I6,I6],[(false,[(.ptr (.bQ [I6,I6, .list cX]),none)])],none⟩
def af7:bS:=⟨[.int .i64, .int .i64, .int .i64, .int .i64, .list cX],[(false,[(.list cX,none)])],some ⟨[true,false,false],[gn],[gn],false⟩⟩
def Wx:List (Nat×bS):=(65,af7)::afO
def s53:bS:=⟨[] ++cY,[],some (bP 0)⟩
def afM:List (Nat×bS):=(53,s53)::Wx
def s35:bS:=⟨[] ++cY,[],some (bP 0)⟩
def afU:List (Nat×bS):=(35,s35)::afM
def s64:bS:=⟨[hY] ++cY,[],some (bP 1)⟩
def ZJ:List (Nat×bS):=(64,s64)::afU
def s41:bS:=⟨[I6,I6] ++cY,[],some (bP 2)⟩
def afS:List (Nat×bS):=(41,s41)::ZJ
def s34:bS:=⟨[] ++cY,[(true,pl [.bool,I6,I6, .list cX, .ptr (.bQ xT), .list hY, .list cX, .list Ak])],some (bP 0)⟩
def ZT:List (Nat×bS):=(34,s34)::afS
def s39:bS:=⟨[IW] ++cY,[(true,pl cX.cells),(false,[(.int .i64,none)])],some (bP 1)⟩
def ZR:List (Nat×bS):=(39,s39)::ZT
def s33:bS:=⟨[I6] ++cY,[],some (bP 1)⟩
def afV:List (Nat×bS):=(33,s33)::ZR
def DJ:bS:=⟨[cX],[(false,[(.bool,none)])],none⟩
def afu:List (Nat×bS):=(84,DJ)::afV
def WG:bS:=⟨[.list cX, .fn 84 .nil],[(false,[(.int .i64,none)])],none⟩
def QS:List (Nat×bS):=(80,WG)::afu
def WH:bS:=⟨[.list cX, .fn 84 .nil],[(false,[(.bool,none)])],none⟩
def I4:List (Nat×bS):=(59,WH)::QS
def s73:bS:=⟨[I6] ++cY,[(false,[(.bool,none)])],some (bP 1)⟩
def ZF:List (Nat×bS):=(73,s73)::I4
def s40:bS:=⟨[] ++cY,[],some (bP 0)⟩
def ZQ:List (Nat×bS):=(40,s40)::ZF
def s67:bS:=⟨[] ++cY,[],some (bP 0)⟩
def ZH:List (Nat×bS):=(67,s67)::ZQ
def s37:bS:=⟨[mK] ++cY,[],some (bP 1)⟩
def ZS:List (Nat×bS):=(37,s37)::ZH
def s42:bS:=⟨[hY] ++cY,[],some (bP 1)⟩
def ZP:List (Nat×bS):=(42,s42)::ZS
def s43:bS:=⟨[hY] ++cY,[],some (bP 1)⟩
def ZO:List (Nat×bS):=(43,s43)::ZP
def s44:bS:=⟨[hY] ++cY,[],some (bP 1)⟩
def ZN:List (Nat×bS):=(44,s44)::ZO
def Tl:bS:=⟨[hY] ++cY,[(false,[(.bool,none)])],some (bP 1)⟩
def afy:List (Nat×bS):=(75,Tl)::ZN
def af8:bS:=⟨[.int .i64, .int .i64, .int .i64, .int .i64, .list cX],[(false,[(cX,some (1,78))])],some ⟨[true,false,false],[gn],[gn],false⟩⟩
def PC:List (Nat×bS):=(65,af8)::afy
def s45:bS:=⟨[hY] ++cY,[],some (bP 1)⟩
def ZM:List (Nat×bS):=(45,s45)::PC
def lA:bS:=⟨[hY] ++cY,[],some (bP 1)⟩
def ZD:List (Nat×bS):=(77,lA)::ZM
def s78:bS:=⟨[I6,I6] ++cY,[],some (bP 2)⟩
def ZC:List (Nat×bS):=(78,s78)::ZD
def s46:bS:=⟨[hY] ++cY,[],some (bP 1)⟩
def ZL:List (Nat×bS):=(46,s46)::ZC
def s48:bS:=⟨[hY] ++cY,[],some (bP 1)⟩
def afR:List (Nat×bS):=(48,s48)::ZL
def s27:bS:=⟨[WB],[(true,pl [I6,I6] ++[(I6,some (11,3)),(I6,some (12,3)),(.int .u8,some (13,5))])],none⟩
def ZV:List (Nat×bS):=(27,s27)::afR
def s47:bS:=⟨[hY] ++cY,[],some {bP 1 with fresh:=true}⟩
def apJ:bS:=⟨[.int .i64, .int .i64],[],some ⟨[false,false],[],[gn],true⟩⟩
def Lf:List (Nat×AH):=[(22,⟨[],I6,0,I6,0,some (apJ, .ptr (.bQ [I6,I6, .list cX]))⟩)]
def ZK:List (Nat×bS):=(47,s47)::ZV
def s17:bS:=⟨[hY] ++cY,[(true,pl [.bool,I6,I6, .list cX, .ptr (.bQ xT), .list hY, .list cX, .list Ak])],some {bP 1 with fresh:=true}⟩
def af4:List (Nat×bS):=(17,s17)::ZK
def s15:bS:=⟨[I6] ++cY,[(true,pl [.bool,I6,I6, .list cX, .ptr (.bQ xT), .list hY, .list cX, .list Ak])],some (bP 1)⟩
def s81:bS:=⟨[.list (.int .i64), .list (.int .i64)],[(false,[(.bool,none)])],none⟩
def s62:bS:=⟨[mK,mK],[(false,[(.bool,none)])],none⟩
def s31:bS:=⟨[IW,IW],[(false,[(.bool,none)])],none⟩
def s8:bS:=⟨[.int .i64, .int .i64],[(false,[(.int .i64,none)])],none⟩
noncomputable section
def aeQ:VC:=
 .loop 6 [.ao .i64 (0), .ao .i64 (0)] [.int .i64, .int .i64] (
  .branch (.bin (.lt) (.var 7) (.un (.len) (.var 0))) (
   .iP [] (.bin (.and) (.bin (.le) (.ao .i64 (0)) (.var 7)) (.bin (.lt) (.var 7) (.un (.len) (.var 0))))<|
   .branch (.bin (.eq) (.var 1) (.bin (.idx) (.var 0) (.var 7))) (
    .ret (.var 7))
    (
    .again 0 [.var 6, .bin (.add .i64) (.var 7) (.ao .i64 (1))]))
   (
   .ret (.ao .i64 (-1))))
def ae4:VC:=
 .call 5 79 (.cons (.var 0) (.cons (.var 1) (.nil))) [] <|
 .ret (.bin (.ge) (.var 5) (.ao .i64 (0)))
def ae5:VC:=
 .loop 5 [.cF false, .ao .i64 (0)] [.bool, .int .i64] (
  .branch (.bin (.lt) (.var 6) (.un (.len) (.var 0))) (
   .iP [] (.bin (.and) (.bin (.le) (.ao .i64 (0)) (.var 6)) (.bin (.lt) (.var 6) (.un (.len) (.var 0))))<|
   .iP [(.bin (.lt) (.bin (.idx) (.var 0) (.var 6)) (.ao .i64 (1)),false)] (.bin (.and) (.bin (.le) (.ao .i64 (0)) (.var 6)) (.bin (.lt) (.var 6) (.un (.len) (.var 0))))<|
   .iP [(.bin (.gt) (.var 6) (.ao .i64 (0)),true),(.bin (.or) (.bin (.lt) (.bin (.idx) (.var 0) (.var 6)) (.ao .i64 (1))) (.bin (.gt) (.bin (.idx) (.var 0) (.var 6)) (.ao .i64 (5))),false)] (.bin (.and) (.bin (.le) (.ao .i64 (0)) (.bin (.sub .i64) (.var 6) (.ao .i64 (1)))) (.bin (.lt) (.bin (.sub .i64) (.var 6) (.ao .i64 (1))) (.un (.len) (.var 0))))<|
   .iP [(.bin (.gt) (.var 6) (.ao .i64 (0)),true),(.bin (.or) (.bin (.lt) (.bin (.idx) (.var 0) (.var 6)) (.ao .i64 (1))) (.bin (.gt) (.bin (.idx) (.var 0) (.var 6)) (.ao .i64 (5))),false)] (.bin (.and) (.bin (.le) (.ao .i64 (0)) (.var 6)) (.bin (.lt) (.var 6) (.un (.len) (.var 0))))<|
   .branch (.bin (.or) (.bin (.or) (.bin (.lt) (.bin (.idx) (.var 0) (.var 6)) (.ao .i64 (1))) (.bin (.gt) (.bin (.idx) (.var 0) (.var 6)) (.ao .i64 (5)))) (.bin (.and) (.bin (.gt) (.var 6) (.ao .i64 (0))) (.bin (.ge) (.bin (.idx) (.var 0) (.bin (.sub .i64) (.var 6) (.ao .i64 (1)))) (.bin (.idx) (.var 0) (.var 6))))) (
    .ret (.cF false))
    (
    .again 0 [.var 5, .bin (.add .i64) (.var 6) (.ao .i64 (1))]))
   (
   .ret (.cF true)))
def afq:VC:=
 .call 5 55 (.cons (.un (.cell 0) (.var 0)) (.nil)) [] <|
 .call 10 55 (.cons (.un (.cell 1) (.var 0)) (.nil)) [(.un (.not) (.var 5),false)] <|
 .branch (.bin (.or) (.bin (.or) (.un (.not) (.var 5)) (.un (.not) (.var 10))) (.bin (.eq) (.un (.len) (.un (.cell 0) (.var 0))) (.ao .i64 (0)))) (
  .ret (.cF false))
  (
  .loop 23 [.cF false, .ao .i64 (0)] [.bool, .int .i64] (
   .branch (.bin (.lt) (.var 24) (.un (.len) (.un (.cell 1) (.var 0)))) (
    .iP [] (.bin (.and) (.bin (.le) (.ao .i64 (0)) (.var 24)) (.bin (.lt) (.var 24) (.un (.len) (.un (.cell 1) (.var 0)))))<|
    .call 35 56 (.cons (.un (.cell 0) (.var 0)) (.cons (.bin (.idx) (.un (.cell 1) (.var 0)) (.var 24)) (.nil))) [] <|
    .branch (.var 35) (
     .ret (.cF false))
     (
     .again 0 [.var 23, .bin (.add .i64) (.var 24) (.ao .i64 (1))]))
    (
    .ret (.cF true))))
def afj:VC:=
 .call 7 56 (.cons (.un (.cell 0) (.var 0)) (.cons (.var 1) (.nil))) [] <|
 .ret (.var 7)
def ae0:VC:=
 .call 5 61 (.cons (.un (.cell 0) (.var 0)) (.nil)) [] <|
 .room [] (.bin (.cat) (.var 5) (.un (.cell 1) (.var 0))) 8<|
 .call 11 82 (.cons (.bin (.cat) (.var 5) (.un (.cell 1) (.var 0))) (.nil)) [] <|
 .call 13 83 (.cons (.var 11) (.nil)) [] <|
 .ret (.var 13)
def aeY:VC:=
 .loop 9 [.ao .i64 (0), .ao .i64 (0)] [.int .i64, .int .i64] (
  .branch (.bin (.lt) (.var 10) (.un (.len) (.un (.cell 0) (.var 0)))) (
   .iP [] (.bin (.and) (.bin (.le) (.ao .i64 (0)) (.var 10)) (.bin (.lt) (.var 10) (.un (.len) (.un (.cell 0) (.var 0)))))<|
   .call 20 56 (.cons (.var 1) (.cons (.bin (.idx) (.un (.cell 0) (.var 0)) (.var 10)) (.nil))) [] <|
   .branch (.var 20) (
    .again 0 [.bin (.add .i64) (.var 9) (.ao .i64 (1)), .bin (.add .i64) (.var 10) (.ao .i64 (1))])
    (
    .again 0 [.var 9, .bin (.add .i64) (.var 10) (.ao .i64 (1))]))
   (
   .ret (.bin (.gt) (.bin (.mul .i64) (.ao .i64 (2)) (.var 9)) (.un (.len) (.un (.cell 0) (.var 0))))))
def aeV:VC:=
 .loop 9 [.nil, .ao .i64 (0)] [.list (.int .i64), .int .i64] (
  .branch (.bin (.lt) (.var 10) (.un (.len) (.un (.cell 0) (.var 0)))) (
   .iP [] (.bin (.and) (.bin (.le) (.ao .i64 (0)) (.var 10)) (.bin (.lt) (.var 10) (.un (.len) (.un (.cell 0) (.var 0)))))<|
   .branch (.bin (.and) (.bin (.ge) (.bin (.idx) (.un (.cell 0) (.var 0)) (.var 10)) (.ao .i64 (1))) (.bin (.le) (.bin (.idx) (.un (.cell 0) (.var 0)) (.var 10)) (.un (.len) (.var 1)))) (
    .iP [] (.bin (.and) (.bin (.le) (.ao .i64 (0)) (.bin (.sub .i64) (.bin (.idx) (.un (.cell 0) (.var 0)) (.var 10)) (.ao .i64 (1)))) (.bin (.lt) (.bin (.sub .i64) (.bin (.idx) (.un (.cell 0) (.var 0)) (.var 10)) (.ao .i64 (1))) (.un (.len) (.var 1))))<|
    .room [] (.bin (.cat) (.var 9) (.cons (.bin (.max .i64) (.ao .i64 (0)) (.bin (.idx) (.var 1) (.bin (.sub .i64) (.bin (.idx) (.un (.cell 0) (.var 0)) (.var 10)) (.ao .i64 (1))))) (.nil))) 8<|
    .again 0 [.bin (.cat) (.var 9) (.cons (.bin (.max .i64) (.ao .i64 (0)) (.bin (.idx) (.var 1) (.bin (.sub .i64) (.bin (.idx) (.un (.cell 0) (.var 0)) (.var 10)) (.ao .i64 (1))))) (.nil)), .bin (.add .i64) (.var 10) (.ao .i64 (1))])
    (
    .room [] (.bin (.cat) (.var 9) (.cons (.ao .i64 (0)) (.nil))) 8<|
    .again 0 [.bin (.cat) (.var 9) (.cons (.ao .i64 (0)) (.nil)), .bin (.add .i64) (.var 10) (.ao .i64 (1))]))
   (
   .branch (.bin (.eq) (.un (.len) (.var 9)) (.ao .i64 (0))) (
    .ret (.ao .i64 (0)))
    (
    .call 16 82 (.cons (.var 9) (.nil)) [] <|
    .iP [] (.bin (.ne) (.ao .i64 (2)) (.ao .i64 (0)))<|
    .iP [] (.bin (.and) (.bin (.le) (.ao .i64 (0)) (.bin (.quo .i64) (.bin (.sub .i64) (.un (.len) (.var 16)) (.ao .i64 (1))) (.ao .i64 (2)))) (.bin (.lt) (.bin (.quo .i64) (.bin (.sub .i64) (.un (.len) (.var 16)) (.ao .i64 (1))) (.ao .i64 (2))) (.un (.len) (.var 16))))<|
    .ret (.bin (.idx) (.var 16) (.bin (.quo .i64) (.bin (.sub .i64) (.un (.len) (.var 16)) (.ao .i64 (1))) (.ao .i64 (2)))))))
def aeX:VC:=
 .call 6 21 (.cons (.un (.agg) (.cons (.un (.cell 0) (.var 0)) (.cons (.un (.cell 1) (.var 0)) (.nil)))) (.nil)) [] <|
 .call 10 21 (.cons (.un (.agg) (.cons (.un (.cell 0) (.var 1)) (.cons (.un (.cell 1) (.var 1)) (.nil)))) (.nil)) [(.un (.not) (.var 6),false)] <|
 .branch (.bin (.or) (.un (.not) (.var 6)) (.un (.not) (.var 10))) (
  .ret (.cF false))
  (
  .loop 15 [.ao .i64 (0), .ao .i64 (0)] [.int .i64, .int .i64] (
   .branch (.bin (.lt) (.var 16) (.ao .i64 (6))) (
    .call 22 36 (.cons (.un (.agg) (.cons (.un (.cell 0) (.var 0)) (.cons (.un (.cell 1) (.var 0)) (.nil)))) (.cons (.var 16) (.nil))) [] <|
    .call 25 36 (.cons (.un (.agg) (.cons (.un (.cell 0) (.var 1)) (.cons (.un (.cell 1) (.var 1)) (.nil)))) (.cons (.var 16) (.nil))) [] <|
    .branch (.un (.not) (.bin (.beq) (.var 22) (.var 25))) (
     .again 0 [.bin (.add .i64) (.var 15) (.ao .i64 (1)), .bin (.add .i64) (.var 16) (.ao .i64 (1))])
     (
     .again 0 [.var 15, .bin (.add .i64) (.var 16) (.ao .i64 (1))]))
    (
    .ret (.bin (.le) (.var 15) (.ao .i64 (1))))))
def afr:VC:=
 .ret (.bin (.and) (.bin (.ge) (.var 0) (.var 1)) (.bin (.le) (.var 0) (.var 2)))
def ae6:VC:=
 .branch (.bin (.eq) (.un (.len) (.var 0)) (.ao .i64 (0))) (
  .any 3 (.bool)<|
  .branch (.var 3) (
   .ret (.nil))
   (
   .room [] (.bin (.cat) (.nil) (.var 0)) 1<|
   .ret (.bin (.cat) (.nil) (.var 0))))
  (
  .any 3 (.bool)<|
  .room [] (.bin (.cat) (.nil) (.var 0)) 1<|
  .ret (.bin (.cat) (.nil) (.var 0)))
def apt:VC:=
 .call 11 21 (.cons (.un (.agg) (.cons (.un (.cell 27) (.var 0)) (.cons (.un (.cell 28) (.var 0)) (.nil)))) (.nil)) [(.bin (.eq) (.un (.cell 2) (.var 0)) (.ao .i64 (2)),true)] <|
 .ret (.bin (.and) (.bin (.eq) (.un (.cell 2) (.var 0)) (.ao .i64 (2))) (.un (.not) (.var 11)))
def QM:VC:=
 .loop 6 [.ao .i64 (0), .ao .i64 (0)] [.int .i64, .int .i64] (
  .branch (.bin (.lt) (.var 7) (.un (.len) (.var 0))) (
   .iP [] (.bin (.and) (.bin (.le) (.ao .i64 (0)) (.var 7)) (.bin (.lt) (.var 7) (.un (.len) (.var 0))))<|
   .call 16 60 (.cons (.bin (.idx) (.var 0) (.var 7)) (.nil)) [] <|
   .branch (.var 16) (
    .ret (.var 7))
    (
    .again 0 [.var 6, .bin (.add .i64) (.var 7) (.ao .i64 (1))]))
   (
   .ret (.ao .i64 (-1))))
def QO:VC:=
 .call 5 80 (.cons (.var 0) (.cons (.var 1) (.nil))) [] <|
 .ret (.bin (.ge) (.var 5) (.ao .i64 (0)))
def afo:VC:=
 .call 3 59 (.cons (.var 0) (.cons (.un (.fnc 60) (.nil)) (.nil))) [] <|
 .ret (.un (.not) (.var 3))
def afm:VC:=
 .call 5 61 (.cons (.un (.cell 0) (.var 0)) (.nil)) [] <|
 .call 8 61 (.cons (.un (.cell 1) (.var 0)) (.nil)) [] <|
 .ret (.un (.agg) (.cons (.var 5) (.cons (.var 8) (.nil))))
def afl:VC:=
 .ret (.un (.cW) (.cons (.un (.cell 0) (.un (.agg) (.var 0))) (.cons (.un (.cell 1) (.un (.agg) (.var 0))) (.nil))))
def afn:VC:=
 .branch (.bin (.eq) (.un (.len) (.un (.cell 2) (.un (.agg) (.var 0)))) (.ao .i64 (0))) (
  .call 10 28 (.cons (.var 0) (.nil)) [] <|
  .ret (.un (.cW) (.cons (.un (.cell 0) (.var 10)) (.cons (.un (.cell 1) (.var 10)) (.nil)))))
  (
  .iP [] (.bin (.and) (.bin (.le) (.ao .i64 (0)) (.bin (.sub .i64) (.un (.len) (.un (.cell 2) (.un (.agg) (.var 0)))) (.ao .i64 (1)))) (.bin (.lt) (.bin (.sub .i64) (.un (.len) (.un (.cell 2) (.un (.agg) (.var 0)))) (.ao .i64 (1))) (.un (.len) (.un (.cell 2) (.un (.agg) (.var 0))))))<|
  .ret (.un (.cW) (.cons (.un (.cell 0) (.bin (.idx) (.un (.cell 2) (.un (.agg) (.var 0))) (.bin (.sub .i64) (.un (.len) (.un (.cell 2) (.un (.agg) (.var 0)))) (.ao .i64 (1))))) (.cons (.un (.cell 1) (.bin (.idx) (.un (.cell 2) (.un (.agg) (.var 0))) (.bin (.sub .i64) (.un (.len) (.un (.cell 2) (.un (.agg) (.var 0)))) (.ao .i64 (1))))) (.nil)))))
def ae8:VC:=
 .branch (.bin (.lt) (.var 1) (.un (.cell 0) (.un (.agg) (.var 0)))) (
  .ret (.un (.cW) (.cons (.ao .i64 (0)) (.cons (.ao .i64 (23)) (.nil)))))
  (
  .branch (.bin (.eq) (.var 1) (.un (.cell 0) (.un (.agg) (.var 0)))) (
   .ret (.un (.cW) (.cons (.un (.cell 1) (.un (.agg) (.var 0))) (.cons (.ao .i64 (0)) (.nil)))))
   (
   .branch (.bin (.gt) (.bin (.sub .i64) (.var 1) (.un (.cell 0) (.un (.agg) (.var 0)))) (.un (.len) (.un (.cell 2) (.un (.agg) (.var 0))))) (
    .ret (.un (.cW) (.cons (.ao .i64 (0)) (.cons (.ao .i64 (3)) (.nil)))))
    (
    .iP [] (.bin (.and) (.bin (.le) (.ao .i64 (0)) (.bin (.sub .i64) (.bin (.sub .i64) (.var 1) (.un (.cell 0) (.un (.agg) (.var 0)))) (.ao .i64 (1)))) (.bin (.lt) (.bin (.sub .i64) (.bin (.sub .i64) (.var 1) (.un (.cell 0) (.un (.agg) (.var 0)))) (.ao .i64 (1))) (.un (.len) (.un (.cell 2) (.un (.agg) (.var 0))))))<|
    .ret (.un (.cW) (.cons (.un (.cell 1) (.bin (.idx) (.un (.cell 2) (.un (.agg) (.var 0))) (.bin (.sub .i64) (.bin (.sub .i64) (.var 1) (.un (.cell 0) (.un (.agg) (.var 0)))) (.ao .i64 (1))))) (.cons (.ao .i64 (0)) (.nil)))))))
def aeT:VC:=
 .call 5 25 (.cons (.var 0) (.nil)) [] <|
 .ret (.bin (.or) (.bin (.gt) (.var 2) (.un (.cell 1) (.var 5))) (.bin (.and) (.bin (.eq) (.var 2) (.un (.cell 1) (.var 5))) (.bin (.ge) (.var 1) (.un (.cell 0) (.var 5)))))
def aeZ:VC:=
 .branch (.bin (.or) (.bin (.or) (.bin (.lt) (.var 2) (.ao .i64 (1))) (.bin (.le) (.var 1) (.un (.cell 0) (.un (.agg) (.var 0))))) (.bin (.ge) (.bin (.sub .i64) (.bin (.sub .i64) (.var 1) (.un (.cell 0) (.un (.agg) (.var 0)))) (.ao .i64 (1))) (.un (.len) (.un (.cell 2) (.un (.agg) (.var 0)))))) (
  .ret (.nil))
  (
  .branch (.bin (.lt) (.var 2) (.bin (.sub .i64) (.un (.len) (.un (.cell 2) (.un (.agg) (.var 0)))) (.bin (.sub .i64) (.bin (.sub .i64) (.var 1) (.un (.cell 0) (.un (.agg) (.var 0)))) (.ao .i64 (1))))) (
   .iP [] (.bin (.and) (.bin (.le) (.ao .i64 (0)) (.bin (.sub .i64) (.bin (.sub .i64) (.var 1) (.un (.cell 0) (.un (.agg) (.var 0)))) (.ao .i64 (1)))) (.bin (.and) (.bin (.le) (.bin (.sub .i64) (.bin (.sub .i64) (.var 1) (.un (.cell 0) (.un (.agg) (.var 0)))) (.ao .i64 (1))) (.bin (.add .i64) (.bin (.sub .i64) (.bin (.sub .i64) (.var 1) (.un (.cell 0) (.un (.agg) (.var 0)))) (.ao .i64 (1))) (.var 2))) (.bin (.le) (.bin (.add .i64) (.bin (.sub .i64) (.bin (.sub .i64) (.var 1) (.un (.cell 0) (.un (.agg) (.var 0)))) (.ao .i64 (1))) (.var 2)) (.un (.len) (.un (.cell 2) (.un (.agg) (.var 0)))))))<|
   .room [] (.bin (.cat) (.nil) (.bin (.drop) (.bin (.take) (.un (.cell 2) (.un (.agg) (.var 0))) (.bin (.add .i64) (.bin (.sub .i64) (.bin (.sub .i64) (.var 1) (.un (.cell 0) (.un (.agg) (.var 0)))) (.ao .i64 (1))) (.var 2))) (.bin (.sub .i64) (.bin (.sub .i64) (.var 1) (.un (.cell 0) (.un (.agg) (.var 0)))) (.ao .i64 (1))))) 320<|
   .ret (.bin (.cat) (.nil) (.bin (.drop) (.bin (.take) (.un (.cell 2) (.un (.agg) (.var 0))) (.bin (.add .i64) (.bin (.sub .i64) (.bin (.sub .i64) (.var 1) (.un (.cell 0) (.un (.agg) (.var 0)))) (.ao .i64 (1))) (.var 2))) (.bin (.sub .i64) (.bin (.sub .i64) (.var 1) (.un (.cell 0) (.un (.agg) (.var 0)))) (.ao .i64 (1))))))
   (
   .iP [] (.bin (.and) (.bin (.le) (.ao .i64 (0)) (.bin (.sub .i64) (.bin (.sub .i64) (.var 1) (.un (.cell 0) (.un (.agg) (.var 0)))) (.ao .i64 (1)))) (.bin (.and) (.bin (.le) (.bin (.sub .i64) (.bin (.sub .i64) (.var 1) (.un (.cell 0) (.un (.agg) (.var 0)))) (.ao .i64 (1))) (.un (.len) (.un (.cell 2) (.un (.agg) (.var 0))))) (.bin (.le) (.un (.len) (.un (.cell 2) (.un (.agg) (.var 0)))) (.un (.len) (.un (.cell 2) (.un (.agg) (.var 0)))))))<|
   .room [] (.bin (.cat) (.nil) (.bin (.drop) (.bin (.take) (.un (.cell 2) (.un (.agg) (.var 0))) (.un (.len) (.un (.cell 2) (.un (.agg) (.var 0))))) (.bin (.sub .i64) (.bin (.sub .i64) (.var 1) (.un (.cell 0) (.un (.agg) (.var 0)))) (.ao .i64 (1))))) 320<|
   .ret (.bin (.cat) (.nil) (.bin (.drop) (.bin (.take) (.un (.cell 2) (.un (.agg) (.var 0))) (.un (.len) (.un (.cell 2) (.un (.agg) (.var 0))))) (.bin (.sub .i64) (.bin (.sub .i64) (.var 1) (.un (.cell 0) (.un (.agg) (.var 0)))) (.ao .i64 (1)))))))
def Zx:VC:=Ps Try.prog ZI [] s49 Try.f49
def apy:VC:=
 .call 6 25 (.cons (.un (.cell 13) (.un (.agg) (.var 0))) (.nil)) [] <|
 .call 14 49 (.cons (.var 0) (.cons (.un (.cell 0) (.var 6)) (.nil))) [] <|
 .ret (.un (.agg) (.cons (.un (.cell 0) (.var 14)) (.cons (.un (.cell 1) (.var 14)) (.nil))))
def ZA:VC:=Ps Try.prog ZU [] s32 Try.f32
def apq:VC:=
 .call 4 29 (.cons (.var 0) (.nil)) [] <|
 .call 5 63 (.cons (.un (.agg) (.cons (.un (.cell 0) (.var 4)) (.cons (.un (.cell 1) (.var 4)) (.nil)))) (.nil)) [] <|
 .call 7 56 (.cons (.var 5) (.cons (.var 1) (.nil))) [] <|
 .ret (.var 7)
def Zw:VC:=Ps Try.prog ZE [] s69 Try.f69
def apr:VC:=
 .call 10 50 (.cons (.un (.cell 13) (.un (.agg) (.var 0))) (.cons (.un (.cell 19) (.un (.agg) (.var 0))) (.nil))) [] <|
 .ret (.bin (.and) (.bin (.eq) (.un (.cell 1) (.var 10)) (.ao .i64 (0))) (.bin (.eq) (.un (.cell 0) (.var 10)) (.un (.cell 11) (.un (.agg) (.var 0)))))
def afi:VC:=Ps Try.prog ZG [] s38 Try.f38
def apA:VC:=
 .call 6 28 (.cons (.un (.cell 13) (.un (.agg) (.var 0))) (.nil)) [] <|
 .call 16 25 (.cons (.un (.cell 13) (.un (.agg) (.var 0))) (.nil)) [] <|
 .call 41 29 (.cons (.var 0) (.nil)) [] <|
 .ret (.un (.agg) (.bQ (fl [[.un (.cell 20) (.un (.agg) (.var 0))],[.un (.cell 21) (.un (.agg) (.var 0))],[.un (.cell 0) (.un (.part 11 2) (.un (.agg) (.var 0)))],[.un (.cell 1) (.un (.part 11 2) (.un (.agg) (.var 0)))],[.un (.cell 19) (.un (.agg) (.var 0))],[.un (.cell 0) (.var 16)],[.un (.cell 0) (.var 6)],[.un (.cell 0) (.var 41)],[.un (.cell 1) (.var 41)]])))
def ae3:VC:=
 .ret (.bin (.and) (.bin (.ge) (.var 0) (.var 1)) (.bin (.le) (.var 0) (.var 2)))
def ae2:VC:=
 .call 5 57 (.cons (.var 0) (.cons (.ao .i64 (0)) (.cons (.ao .i64 (1099511627776)) (.nil)))) [] <|
 .call 9 57 (.cons (.var 1) (.cons (.ao .i64 (0)) (.cons (.ao .i64 (1099511627776)) (.nil)))) [(.un (.not) (.var 5),false)] <|
 .branch (.bin (.or) (.un (.not) (.var 5)) (.un (.not) (.var 9))) (
  .ret (.cF false))
  (
  .loop 15 [.cF false, .var 0, .var 1, .ao .i64 (0)] [.bool, .int .i64, .int .i64, .int .i64] (
   .branch (.bin (.lt) (.var 18) (.un (.len) (.var 2))) (
    .iP [] (.bin (.and) (.bin (.le) (.ao .i64 (0)) (.var 18)) (.bin (.lt) (.var 18) (.un (.len) (.var 2))))<|
    .call 42 57 (.cons (.un (.cell 0) (.bin (.idx) (.var 2) (.var 18))) (.cons (.ao .i64 (1)) (.cons (.ao .i64 (1099511627776)) (.nil)))) [(.bin (.or) (.bin (.ne) (.bin (.sub .i64) (.un (.cell 0) (.bin (.idx) (.var 2) (.var 18))) (.ao .i64 (1))) (.var 16)) (.bin (.lt) (.un (.cell 1) (.bin (.idx) (.var 2) (.var 18))) (.var 17)),false)] <|
    .call 48 57 (.cons (.un (.cell 1) (.bin (.idx) (.var 2) (.var 18))) (.cons (.ao .i64 (0)) (.cons (.ao .i64 (1099511627776)) (.nil)))) [(.bin (.or) (.bin (.or) (.bin (.ne) (.bin (.sub .i64) (.un (.cell 0) (.bin (.idx) (.var 2) (.var 18))) (.ao .i64 (1))) (.var 16)) (.bin (.lt) (.un (.cell 1) (.bin (.idx) (.var 2) (.var 18))) (.var 17))) (.un (.not) (.var 42)),false)] <|
    .branch (.bin (.or) (.bin (.or) (.bin (.or) (.bin (.ne) (.bin (.sub .i64) (.un (.cell 0) (.bin (.idx) (.var 2) (.var 18))) (.ao .i64 (1))) (.var 16)) (.bin (.lt) (.un (.cell 1) (.bin (.idx) (.var 2) (.var 18))) (.var 17))) (.un (.not) (.var 42))) (.un (.not) (.var 48))) (
     .ret (.cF false))
     (
     .again 0 [.var 15, .un (.cell 0) (.bin (.idx) (.var 2) (.var 18)), .un (.cell 1) (.bin (.idx) (.var 2) (.var 18)), .bin (.add .i64) (.var 18) (.ao .i64 (1))]))
    (
    .ret (.cF true))))
def afp:VC:=
 .call 11 58 (.cons (.var 0) (.cons (.var 1) (.cons (.var 2) (.nil)))) [] <|
 .branch (.un (.not) (.var 11)) (
  .ret (.un (.cW) (.cons (.un (.cW) (.cons (.ao .i64 (0)) (.cons (.cF false) (.nil)))) (.cons (.un (.agg) (.cons (.var 3) (.cons (.var 4) (.cons (.var 5) (.nil))))) (.nil)))))
  (
  .call 15 50 (.cons (.un (.pj) (.cons (.var 3) (.cons (.var 4) (.cons (.var 5) (.nil))))) (.cons (.var 0) (.nil))) [] <|
  .branch (.bin (.or) (.bin (.ne) (.un (.cell 1) (.var 15)) (.ao .i64 (0))) (.bin (.ne) (.un (.cell 0) (.var 15)) (.var 1))) (
   .ret (.un (.cW) (.cons (.un (.cW) (.cons (.ao .i64 (0)) (.cons (.cF false) (.nil)))) (.cons (.un (.agg) (.cons (.var 3) (.cons (.var 4) (.cons (.var 5) (.nil))))) (.nil)))))
   (
   .loop 31 (fl [[.ao .i64 (0)],[.cF false],[.ao .i64 (0)],vr 3 3]) [.int .i64, .bool, .int .i64, .int .i64, .int .i64, .list (.agg (.cons (.int .i64) (.cons (.int .i64) (.cons (.int .i64) (.cons (.int .i64) (.cons (.int .i64) (.cons (.int .i64) (.cons (.int .i64) (.cons (.int .i64) (.cons (.int .i64) (.cons (.list (.agg (.cons (.int .i64) (.cons (.int .i64) (.cons (.int .i64) (.nil)))))) (.cons (.int .i64) (.cons (.bool) (.cons (.int .i64) (.cons (.int .i64) (.cons (.int .i64) (.cons (.bool) (.cons (.bool) (.cons (.int .i64) (.cons (.int .i64) (.cons (.int .i64) (.cons (.list (.agg (.cons (.int .i64) (.cons (.int .i64) (.nil))))) (.cons (.int .i64) (.cons (.int .i64) (.cons (.int .i64) (.cons (.list (.int .i64)) (.cons (.list (.agg (.cons (.int .i64) (.cons (.int .i64) (.cons (.int .i64) (.cons (.int .i64) (.cons (.int .i64) (.cons (.int .i64) (.cons (.int .i64) (.cons (.int .i64) (.cons (.int .i64) (.cons (.bool) (.cons (.int .i64) (.nil)))))))))))))) (.cons (.bool) (.cons (.list (.int .i64)) (.cons (.list (.int .i64)) (.nil)))))))))))))))))))))))))))))))] (
    .branch (.bin (.lt) (.var 33) (.un (.len) (.var 2))) (
     .iP [] (.bin (.and) (.bin (.le) (.ao .i64 (0)) (.var 33)) (.bin (.lt) (.var 33) (.un (.len) (.var 2))))<|
     .call 49 50 (.cons (.un (.pj) (.cons (.var 34) (.cons (.var 35) (.cons (.var 36) (.nil))))) (.cons (.un (.cell 0) (.bin (.idx) (.var 2) (.var 33))) (.nil))) [] <|
     .branch (.bin (.and) (.bin (.eq) (.un (.cell 1) (.var 49)) (.ao .i64 (0))) (.bin (.eq) (.un (.cell 0) (.var 49)) (.un (.cell 1) (.bin (.idx) (.var 2) (.var 33))))) (
      .again 0 (fl [[.var 31],[.var 32],[.bin (.add .i64) (.var 33) (.ao .i64 (1))],vr 34 3]))
      (
      .iP [] (.bin (.and) (.bin (.le) (.ao .i64 (0)) (.bin (.sub .i64) (.bin (.sub .i64) (.un (.cell 0) (.bin (.idx) (.var 2) (.var 33))) (.var 34)) (.ao .i64 (1)))) (.bin (.le) (.bin (.sub .i64) (.bin (.sub .i64) (.un (.cell 0) (.bin (.idx) (.var 2) (.var 33))) (.var 34)) (.ao .i64 (1))) (.un (.len) (.var 36))))<|
      .iP [] (.bin (.and) (.bin (.le) (.ao .i64 (0)) (.var 33)) (.bin (.and) (.bin (.le) (.var 33) (.un (.len) (.var 2))) (.bin (.le) (.un (.len) (.var 2)) (.un (.len) (.var 2)))))<|
      .room [] (.bin (.cat) (.bin (.take) (.var 36) (.bin (.sub .i64) (.bin (.sub .i64) (.un (.cell 0) (.bin (.idx) (.var 2) (.var 33))) (.var 34)) (.ao .i64 (1)))) (.bin (.drop) (.bin (.take) (.var 2) (.un (.len) (.var 2))) (.var 33))) 320<|
      .iP [] (.bin (.lt) (.ao .i64 (0)) (.un (.len) (.bin (.drop) (.bin (.take) (.var 2) (.un (.len) (.var 2))) (.var 33))))<|
      .ret (.un (.cW) (.cons (.un (.cW) (.cons (.un (.cell 0) (.bin (.idx) (.var 2) (.var 33))) (.cons (.cF true) (.nil)))) (.cons (.un (.agg) (.cons (.var 34) (.cons (.var 35) (.cons (.bin (.cat) (.bin (.take) (.var 36) (.bin (.sub .i64) (.bin (.sub .i64) (.un (.cell 0) (.bin (.idx) (.var 2) (.var 33))) (.var 34)) (.ao .i64 (1)))) (.bin (.drop) (.bin (.take) (.var 2) (.un (.len) (.var 2))) (.var 33))) (.nil))))) (.nil))))))
     (
     .ret (.un (.cW) (.cons (.un (.cW) (.cons (.ao .i64 (0)) (.cons (.cF true) (.nil)))) (.cons (.un (.agg) (.cons (.var 34) (.cons (.var 35) (.cons (.var 36) (.nil))))) (.nil))))))))
def aeW:VC:=
 .call 9 25 (.cons (.un (.pj) (.cons (.var 2) (.cons (.var 3) (.cons (.var 4) (.nil))))) (.nil)) [] <|
 .call 20 57 (.cons (.var 0) (.cons (.ao .i64 (1)) (.cons (.ao .i64 (1099511627776)) (.nil)))) [(.bin (.lt) (.var 0) (.un (.cell 1) (.var 9)),false)] <|
 .branch (.bin (.or) (.bin (.lt) (.var 0) (.un (.cell 1) (.var 9))) (.un (.not) (.var 20))) (
  .ret (.un (.cW) (.cons (.un (.cW) (.cons (.un (.agg) (.bQ (fl [rp 9 (.ao .i64 (0)),[.nil],[.ao .i64 (0)],[.cF false],rp 3 (.ao .i64 (0)),rp 2 (.cF false),rp 3 (.ao .i64 (0)),[.nil],rp 3 (.ao .i64 (0)),rp 2 (.nil),[.cF false],rp 2 (.nil)]))) (.cons (.ao .i64 (1)) (.nil)))) (.cons (.un (.agg) (.cons (.var 2) (.cons (.var 3) (.cons (.var 4) (.nil))))) (.nil)))))
  (
  .branch (.bin (.ge) (.un (.cell 0) (.var 9)) (.ao .i64 (1099511627776))) (
   .ret (.un (.cW) (.cons (.un (.cW) (.cons (.un (.agg) (.bQ (fl [rp 9 (.ao .i64 (0)),[.nil],[.ao .i64 (0)],[.cF false],rp 3 (.ao .i64 (0)),rp 2 (.cF false),rp 3 (.ao .i64 (0)),[.nil],rp 3 (.ao .i64 (0)),rp 2 (.nil),[.cF false],rp 2 (.nil)]))) (.cons (.ao .i64 (2)) (.nil)))) (.cons (.un (.agg) (.cons (.var 2) (.cons (.var 3) (.cons (.var 4) (.nil))))) (.nil)))))
   (
   .room [] (.bin (.cat) (.var 4) (.cons (.un (.agg) (.bQ (fl [[.bin (.add .i64) (.un (.cell 0) (.var 9)) (.ao .i64 (1))],[.var 0],cr 0 27 (.var 1)]))) (.nil))) 320<|
   .ret (.un (.cW) (.cons (.un (.cW) (.cons (.un (.agg) (.bQ (fl [[.bin (.add .i64) (.un (.cell 0) (.var 9)) (.ao .i64 (1))],[.var 0],cr 0 27 (.var 1)]))) (.cons (.ao .i64 (0)) (.nil)))) (.cons (.un (.agg) (.cons (.var 2) (.cons (.var 3) (.cons (.bin (.cat) (.var 4) (.cons (.un (.agg) (.bQ (fl [[.bin (.add .i64) (.un (.cell 0) (.var 9)) (.ao .i64 (1))],[.var 0],cr 0 27 (.var 1)]))) (.nil))) (.nil))))) (.nil))))))
def ae7:VC:=
 .call 6 25 (.cons (.un (.pj) (.cons (.var 1) (.cons (.var 2) (.cons (.var 3) (.nil))))) (.nil)) [] <|
 .branch (.bin (.gt) (.var 0) (.un (.cell 0) (.var 6))) (
  .ret (.un (.cW) (.cons (.ao .i64 (3)) (.cons (.un (.agg) (.cons (.var 1) (.cons (.var 2) (.cons (.var 3) (.nil))))) (.nil)))))
  (
  .branch (.bin (.le) (.var 0) (.var 1)) (
   .ret (.un (.cW) (.cons (.ao .i64 (0)) (.cons (.un (.agg) (.cons (.var 1) (.cons (.var 2) (.cons (.var 3) (.nil))))) (.nil)))))
   (
   .call 25 50 (.cons (.un (.pj) (.cons (.var 1) (.cons (.var 2) (.cons (.var 3) (.nil))))) (.cons (.var 0) (.nil))) [] <|
   .iP [] (.bin (.and) (.bin (.le) (.ao .i64 (0)) (.bin (.sub .i64) (.var 0) (.var 1))) (.bin (.and) (.bin (.le) (.bin (.sub .i64) (.var 0) (.var 1)) (.un (.len) (.var 3))) (.bin (.le) (.un (.len) (.var 3)) (.un (.len) (.var 3)))))<|
   .room [] (.bin (.cat) (.nil) (.bin (.drop) (.bin (.take) (.var 3) (.un (.len) (.var 3))) (.bin (.sub .i64) (.var 0) (.var 1)))) 320<|
   .ret (.un (.cW) (.cons (.ao .i64 (0)) (.cons (.un (.agg) (.cons (.var 0) (.cons (.un (.cell 0) (.var 25)) (.cons (.bin (.cat) (.nil) (.bin (.drop) (.bin (.take) (.var 3) (.un (.len) (.var 3))) (.bin (.sub .i64) (.var 0) (.var 1)))) (.nil))))) (.nil))))))
def aeN:VC:=
 .call 4 57 (.cons (.var 0) (.cons (.ao .i64 (0)) (.cons (.ao .i64 (1099511627776)) (.nil)))) [] <|
 .call 8 57 (.cons (.var 1) (.cons (.ao .i64 (0)) (.cons (.ao .i64 (1099511627776)) (.nil)))) [(.un (.not) (.var 4),false)] <|
 .branch (.bin (.or) (.bin (.or) (.un (.not) (.var 4)) (.un (.not) (.var 8))) (.un (.not) (.bin (.beq) (.bin (.eq) (.var 0) (.ao .i64 (0))) (.bin (.eq) (.var 1) (.ao .i64 (0)))))) (
  .stuck 11)
  (
  .ret (.un (.cW) (.cons (.un (.cW) (.nil)) (.cons (.un (.agg) (.cons (.var 0) (.cons (.var 1) (.cons (.nil) (.nil))))) (.nil)))))
def aeO:VC:=
 .call 4 57 (.cons (.var 0) (.cons (.ao .i64 (0)) (.cons (.ao .i64 (1099511627776)) (.nil)))) [] <|
 .call 8 57 (.cons (.var 1) (.cons (.ao .i64 (0)) (.cons (.ao .i64 (1099511627776)) (.nil)))) [(.un (.not) (.var 4),false)] <|
 .branch (.bin (.or) (.bin (.or) (.un (.not) (.var 4)) (.un (.not) (.var 8))) (.un (.not) (.bin (.beq) (.bin (.eq) (.var 0) (.ao .i64 (0))) (.bin (.eq) (.var 1) (.ao .i64 (0)))))) (
  .ret (.eW))
  (
  .stuck 11)
def Wv:VC:=
 .branch (.bin (.or) (.bin (.or) (.bin (.lt) (.var 1) (.ao .i64 (1))) (.bin (.le) (.var 0) (.var 2))) (.bin (.ge) (.bin (.sub .i64) (.bin (.sub .i64) (.var 0) (.var 2)) (.ao .i64 (1))) (.un (.len) (.var 4)))) (
  .ret (.un (.cW) (.cons (.nil) (.cons (.un (.agg) (.cons (.var 2) (.cons (.var 3) (.cons (.var 4) (.nil))))) (.nil)))))
  (
  .branch (.bin (.lt) (.var 1) (.bin (.sub .i64) (.un (.len) (.var 4)) (.bin (.sub .i64) (.bin (.sub .i64) (.var 0) (.var 2)) (.ao .i64 (1))))) (
   .iP [] (.bin (.and) (.bin (.le) (.ao .i64 (0)) (.bin (.sub .i64) (.bin (.sub .i64) (.var 0) (.var 2)) (.ao .i64 (1)))) (.bin (.and) (.bin (.le) (.bin (.sub .i64) (.bin (.sub .i64) (.var 0) (.var 2)) (.ao .i64 (1))) (.bin (.add .i64) (.bin (.sub .i64) (.bin (.sub .i64) (.var 0) (.var 2)) (.ao .i64 (1))) (.var 1))) (.bin (.le) (.bin (.add .i64) (.bin (.sub .i64) (.bin (.sub .i64) (.var 0) (.var 2)) (.ao .i64 (1))) (.var 1)) (.un (.len) (.var 4)))))<|
   .room [] (.bin (.cat) (.nil) (.bin (.drop) (.bin (.take) (.var 4) (.bin (.add .i64) (.bin (.sub .i64) (.bin (.sub .i64) (.var 0) (.var 2)) (.ao .i64 (1))) (.var 1))) (.bin (.sub .i64) (.bin (.sub .i64) (.var 0) (.var 2)) (.ao .i64 (1))))) 320<|
   .ret (.un (.cW) (.cons (.bin (.cat) (.nil) (.bin (.drop) (.bin (.take) (.var 4) (.bin (.add .i64) (.bin (.sub .i64) (.bin (.sub .i64) (.var 0) (.var 2)) (.ao .i64 (1))) (.var 1))) (.bin (.sub .i64) (.bin (.sub .i64) (.var 0) (.var 2)) (.ao .i64 (1))))) (.cons (.un (.agg) (.cons (.var 2) (.cons (.var 3) (.cons (.var 4) (.nil))))) (.nil)))))
   (
   .iP [] (.bin (.and) (.bin (.le) (.ao .i64 (0)) (.bin (.sub .i64) (.bin (.sub .i64) (.var 0) (.var 2)) (.ao .i64 (1)))) (.bin (.and) (.bin (.le) (.bin (.sub .i64) (.bin (.sub .i64) (.var 0) (.var 2)) (.ao .i64 (1))) (.un (.len) (.var 4))) (.bin (.le) (.un (.len) (.var 4)) (.un (.len) (.var 4)))))<|
   .room [] (.bin (.cat) (.nil) (.bin (.drop) (.bin (.take) (.var 4) (.un (.len) (.var 4))) (.bin (.sub .i64) (.bin (.sub .i64) (.var 0) (.var 2)) (.ao .i64 (1))))) 320<|
   .ret (.un (.cW) (.cons (.bin (.cat) (.nil) (.bin (.drop) (.bin (.take) (.var 4) (.un (.len) (.var 4))) (.bin (.sub .i64) (.bin (.sub .i64) (.var 0) (.var 2)) (.ao .i64 (1))))) (.cons (.un (.agg) (.cons (.var 2) (.cons (.var 3) (.cons (.var 4) (.nil))))) (.nil))))))
def apu:VC:=
 .ret (.un (.cW) (.cons (.un (.cW) (.nil)) (.cons (.un (.agg) (.bQ (fl [[.cF true],vr 1 12,[.un (.pj) (.nil)],vr 14 37]))) (.cons (.un (.agg) (.cons (.var 51) (.cons (.var 52) (.cons (.var 53) (.nil))))) (.nil)))))
def apv:VC:=
 .ret (.un (.cW) (.cons (.un (.cW) (.nil)) (.cons (.un (.agg) (.bQ (fl [vr 0 13,[.un (.pj) (.nil)],vr 14 8,rp 2 (.ao .i64 (0)),vr 24 27]))) (.cons (.un (.agg) (.cons (.var 51) (.cons (.var 52) (.cons (.var 53) (.nil))))) (.nil)))))
def aps:VC:=
 .room [] (.bin (.cat) (.var 6) (.cons (.un (.agg) (.bQ (fl [[.un (.cell 0) (.var 0)],[.var 9],[.un (.cell 2) (.var 0)],[.var 12],cr 4 42 (.var 0)]))) (.nil))) 536<|
 .ret (.un (.cW) (.cons (.un (.cW) (.nil)) (.cons (.un (.agg) (.bQ (fl [vr 1 5,[.bin (.cat) (.var 6) (.cons (.un (.agg) (.bQ (fl [[.un (.cell 0) (.var 0)],[.var 9],[.un (.cell 2) (.var 0)],[.var 12],cr 4 42 (.var 0)]))) (.nil))],vr 7 7,[.un (.pj) (.nil)],vr 15 37]))) (.cons (.un (.agg) (.cons (.var 52) (.cons (.var 53) (.cons (.var 54) (.nil))))) (.nil)))))
def afg:VC:=oz Try.prog ZJ [] s41 Try.f41
def apw:VC:=
 .ret (.un (.cW) (.cons (.un (.agg) (.bQ (fl [[.var 0],[.var 11],[.var 12],vr 3 5]))) (.cons (.un (.agg) (.bQ (fl [[.cF false],rp 2 (.ao .i64 (0)),[.nil],[.eW],rp 3 (.nil),vr 8 5,[.un (.pj) (.nil)],vr 14 37]))) (.cons (.un (.agg) (.cons (.var 51) (.cons (.var 52) (.cons (.var 53) (.nil))))) (.nil)))))
def afh:VC:=oz Try.prog ZT [] s39 Try.f39
def afk:VC:=oz Try.prog ZR [(0,{drop:=[4006001]})] s33 Try.f33
def apo:VC:=
 .ret (.bin (.eq) (.un (.cell 2) (.var 0)) (.ao .i64 (2)))
def QL:VC:=
 .loop 6 [.ao .i64 (0), .ao .i64 (0)] [.int .i64, .int .i64] (
  .branch (.bin (.lt) (.var 7) (.un (.len) (.var 0))) (
   .iP [] (.bin (.and) (.bin (.le) (.ao .i64 (0)) (.var 7)) (.bin (.lt) (.var 7) (.un (.len) (.var 0))))<|
   .call 16 84 (.cons (.bin (.idx) (.var 0) (.var 7)) (.nil)) [] <|
   .branch (.var 16) (
    .ret (.var 7))
    (
    .again 0 [.var 6, .bin (.add .i64) (.var 7) (.ao .i64 (1))]))
   (
   .ret (.ao .i64 (-1))))
def QN:VC:=
 .call 5 80 (.cons (.var 0) (.cons (.var 1) (.nil))) [] <|
 .ret (.bin (.ge) (.var 5) (.ao .i64 (0)))
def aeU:VC:=oz Try.prog I4 [] s73 Try.f73
def Zy:VC:=oz Try.prog ZF [(1000000,{drop:=[18]}),(3,{own:=[(4,3)]}),(5,{drop:=[4005005]})] s40 Try.f40
def TX:VC:=oz Try.prog ZQ [(3,{boxes:=Cu}),(9,{boxes:=Cu}),(5,{drop:=[4006004]})] s67 Try.f67
def Zz:VC:=oz Try.prog ZH [(8,{boxes:=Cu})] s37 Try.f37
def aff:VC:=oz Try.prog ZS [] s42 Try.f42
def afe:VC:=oz Try.prog ZP [] s43 Try.f43
def afd:VC:=oz Try.prog ZO [] s44 Try.f44
def aeS:VC:=oz Try.prog ZN [] Tl Try.f75
def Ww:VC:=
 .branch (.bin (.or) (.bin (.or) (.bin (.lt) (.var 1) (.ao .i64 (1))) (.bin (.le) (.var 0) (.var 2))) (.bin (.ge) (.bin (.sub .i64) (.bin (.sub .i64) (.var 0) (.var 2)) (.ao .i64 (1))) (.un (.len) (.var 4)))) (
  .ret (.un (.cW) (.cons (.nil) (.cons (.un (.agg) (.cons (.var 2) (.cons (.var 3) (.cons (.var 4) (.nil))))) (.nil)))))
  (
  .branch (.bin (.lt) (.var 1) (.bin (.sub .i64) (.un (.len) (.var 4)) (.bin (.sub .i64) (.bin (.sub .i64) (.var 0) (.var 2)) (.ao .i64 (1))))) (
   .iP [] (.bin (.and) (.bin (.le) (.ao .i64 (0)) (.bin (.sub .i64) (.bin (.sub .i64) (.var 0) (.var 2)) (.ao .i64 (1)))) (.bin (.and) (.bin (.le) (.bin (.sub .i64) (.bin (.sub .i64) (.var 0) (.var 2)) (.ao .i64 (1))) (.bin (.add .i64) (.bin (.sub .i64) (.bin (.sub .i64) (.var 0) (.var 2)) (.ao .i64 (1))) (.var 1))) (.bin (.le) (.bin (.add .i64) (.bin (.sub .i64) (.bin (.sub .i64) (.var 0) (.var 2)) (.ao .i64 (1))) (.var 1)) (.un (.len) (.var 4)))))<|
   .room [] (.bin (.cat) (.nil) (.bin (.drop) (.bin (.take) (.var 4) (.bin (.add .i64) (.bin (.sub .i64) (.bin (.sub .i64) (.var 0) (.var 2)) (.ao .i64 (1))) (.var 1))) (.bin (.sub .i64) (.bin (.sub .i64) (.var 0) (.var 2)) (.ao .i64 (1))))) 320<|
   .ret (.un (.cW) (.cons (.bin (.cat) (.nil) (.bin (.drop) (.bin (.take) (.var 4) (.bin (.add .i64) (.bin (.sub .i64) (.bin (.sub .i64) (.var 0) (.var 2)) (.ao .i64 (1))) (.var 1))) (.bin (.sub .i64) (.bin (.sub .i64) (.var 0) (.var 2)) (.ao .i64 (1))))) (.cons (.un (.agg) (.cons (.var 2) (.cons (.var 3) (.cons (.var 4) (.nil))))) (.nil)))))
   (
   .iP [] (.bin (.and) (.bin (.le) (.ao .i64 (0)) (.bin (.sub .i64) (.bin (.sub .i64) (.var 0) (.var 2)) (.ao .i64 (1)))) (.bin (.and) (.bin (.le) (.bin (.sub .i64) (.bin (.sub .i64) (.var 0) (.var 2)) (.ao .i64 (1))) (.un (.len) (.var 4))) (.bin (.le) (.un (.len) (.var 4)) (.un (.len) (.var 4)))))<|
   .room [] (.bin (.cat) (.nil) (.bin (.drop) (.bin (.take) (.var 4) (.un (.len) (.var 4))) (.bin (.sub .i64) (.bin (.sub .i64) (.var 0) (.var 2)) (.ao .i64 (1))))) 320<|
   .ret (.un (.cW) (.cons (.bin (.cat) (.nil) (.bin (.drop) (.bin (.take) (.var 4) (.un (.len) (.var 4))) (.bin (.sub .i64) (.bin (.sub .i64) (.var 0) (.var 2)) (.ao .i64 (1))))) (.cons (.un (.agg) (.cons (.var 2) (.cons (.var 3) (.cons (.var 4) (.nil))))) (.nil))))))
def afc:VC:=oz Try.prog PC [] s45 Try.f45
def Zv:VC:=oz Try.prog ZM [(4,{boxes:=Cu})] lA Try.f77
def aeR:VC:=oz Try.prog ZD [(1,{drop:=[4006001]})] s78 Try.f78
def afb:VC:=oz Try.prog ZC [(3,{drop:=[5106003]})] s46 Try.f46
def ae9:VC:=oz Try.prog ZL [(5,{drop:=[5106003]})] s48 Try.f48
def apz:VC:=
 .call 5 26 (.cons (.un (.agg) (.cons (.un (.cell 2) (.var 0)) (.cons (.un (.cell 3) (.var 0)) (.nil)))) (.nil)) [] <|
 .call 8 52 (.cons (.un (.cell 4) (.var 0)) (.nil)) [] <|
 .ret (.un (.agg) (.bQ (fl [[.un (.cell 0) (.var 0)],[.un (.cell 1) (.var 0)],[.un (.cell 0) (.var 5)],[.un (.cell 1) (.var 5)],[.var 8]])))
def afa:VC:=aa8 Try.prog ZV Lf [(21,{drop:=[9000000010]})] s47 Try.f47
def afs:VC:=oz Try.prog ZK [] s17 Try.f17
def ZB:VC:=oz Try.prog af4 [(6,{boxes:=Cu})] s15 Try.f15
def aeP:VC:=
 .branch (.bin (.ne) (.un (.len) (.var 0)) (.un (.len) (.var 1))) (
  .ret (.cF false))
  (
  .loop 9 [.cF false, .ao .i64 (0)] [.bool, .int .i64] (
   .branch (.bin (.lt) (.var 10) (.un (.len) (.var 0))) (
    .iP [] (.bin (.and) (.bin (.le) (.ao .i64 (0)) (.var 10)) (.bin (.lt) (.var 10) (.un (.len) (.var 0))))<|
    .iP [] (.bin (.and) (.bin (.le) (.ao .i64 (0)) (.var 10)) (.bin (.lt) (.var 10) (.un (.len) (.var 1))))<|
    .branch (.bin (.ne) (.bin (.idx) (.var 0) (.var 10)) (.bin (.idx) (.var 1) (.var 10))) (
     .ret (.cF false))
     (
     .again 0 [.var 9, .bin (.add .i64) (.var 10) (.ao .i64 (1))]))
    (
    .ret (.cF true))))
def ae1:VC:=
 .call 9 81 (.cons (.un (.cell 0) (.var 0)) (.cons (.un (.cell 0) (.var 1)) (.nil))) [] <|
 .call 15 81 (.cons (.un (.cell 1) (.var 0)) (.cons (.un (.cell 1) (.var 1)) (.nil))) [] <|
 .ret (.bin (.and) (.var 9) (.var 15))
def apx:VC:=
 .call 9 62 (.cons (.un (.agg) (.cons (.un (.cell 25) (.var 0)) (.cons (.un (.cell 26) (.var 0)) (.nil)))) (.cons (.un (.agg) (.cons (.un (.cell 25) (.var 1)) (.cons (.un (.cell 26) (.var 1)) (.nil)))) (.nil))) [] <|
 .ret (.bin (.and) (.bin (.and) (.bin (.and) (.bin (.and) (.bin (.and) (.var 9) (.bin (.eq) (.un (.cell 0) (.var 0)) (.un (.cell 0) (.var 1)))) (.bin (.eq) (.un (.cell 1) (.var 0)) (.un (.cell 1) (.var 1)))) (.bin (.eq) (.un (.cell 2) (.var 0)) (.un (.cell 2) (.var 1)))) (.bin (.eq) (.un (.cell 3) (.var 0)) (.un (.cell 3) (.var 1)))) (.bin (.eq) (.un (.cell 8) (.var 0)) (.un (.cell 8) (.var 1))))
def vc8:VC:=
 .branch (.bin (.lt) (.var 0) (.ao .i64 (0))) (
  .iP [] (.bin (.ne) (.var 1) (.ao .i64 (0)))<|
  .ret (.bin (.rem .i64) (.un (.neg .i64) (.bin (.add .i64) (.var 0) (.ao .i64 (1)))) (.var 1)))
  (
  .iP [] (.bin (.ne) (.var 1) (.ao .i64 (0)))<|
  .ret (.bin (.rem .i64) (.var 0) (.var 1)))
attribute [irreducible] Zx ZA Zw afi afg afh afk aeU Zy TX Zz aff afe afd aeS afc Zv aeR afb ae9 afa afs ZB
end
end Go.Proofs.Ytjhmkaninmgilaa
