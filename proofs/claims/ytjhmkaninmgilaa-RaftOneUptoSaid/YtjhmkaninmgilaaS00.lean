/- Part 0 of the proof of RaftOne; no condition. -/
import Derived.Orders
import Derived.Below
import Derived.Laws.AppendOwn
import Derived.Laws.Rows
import Derived.Laws.Slices
import Derived.Laws.StructEq
import Derived.Laws.Cells
import Derived.Maps.OwnSet
import Derived.Carry
import Derived.DeepKeys4
import Derived.Laws.Closers25b
import Derived.Great.BuildSlice
set_option linter.unusedVariables false
set_option linter.unusedSimpArgs false
set_option maxHeartbeats 4000000
set_option linter.defProp false
open Go.IntKind (i64)
namespace Go.dV
open Go Go.RowKit
theorem aW{α:Type _}{l:List α}{i:Nat}(h:i<l.length):l[i]? =some l[i] :=List.getElem?_eq_getElem h
theorem aH{α:Type _}{i:Nat}{a:α}{l:List α}:l[i]? =some a↔∃h:i<l.length,l[i]=a:=List.getElem?_eq_some_iff
theorem ca{α:Type _}{l:List α}{i:Nat}{a:α}:l[i]? =some a→a∈l:=List.mem_of_getElem?
theorem da{α β:Type _}{x:Option α}{f:α→β}{b:β}:Option.map f x=some b↔∃a,x=some a∧f a=b:=Option.map_eq_some_iff
theorem cn{α:Type _}{p:α→Bool}{l:List α}:l.all p=true↔∀x∈l,p x=true:=List.all_eq_true
theorem bc(a b:Bool):((a&&b)=true)=(a=true∧b=true):=Bool.and_eq_true a b
theorem bQ{p:Prop}[Decidable p]:(decide p=true)=p:=decide_eq_true_eq
def fC:= @List.eq_nil_iff_forall_not_mem
def au:= @List.eq_nil_of_length_eq_zero
def aK:= @Array.getElem?_eq_some_iff
def aF:= @List.getElem?_append_right
def av:= @List.getD_eq_getElem?_getD
def eO:= @List.getElem?_eq_none_iff
def aB:= @List.getElem?_append_left
def cY:= @List.drop_eq_getElem_cons
def dC:= @Array.getElem?_eq_getElem
def dH:= @Option.isSome_iff_exists
def dP:= @Option.bind_eq_some_iff
def du:= @List.getElem?_cons_succ
def dt:= @List.getElem?_cons_zero
def bO:= @List.length_eq_one_iff
def eM:= @List.take_of_length_le
def ck:= @List.drop_of_length_le
def fM:= @List.getElem?_eq_none
def fL:= @Nat.div_lt_iff_lt_mul
def ev:= @List.take_append_drop
def bG:= @List.length_singleton
def dq:= @List.getElem?_toArray
def bC:= @List.mem_append_right
def aI:= @List.mem_cons_of_mem
def eL:= @List.mem_of_mem_drop
def bg:= @Go.World.cell?_of_block
def aE:= @List.getElem?_of_mem
def az:= @Nat.mul_le_mul_right
def dG:= @List.getElem?_append
def eK:= @List.mem_of_mem_take
def aC:= @List.mem_append_left
def dN:= @List.getElem?_range
def gv:= @List.take_succ_cons
def gw:= @List.getElem_of_mem
def gz:= @Array.length_toList
def ak:= @Bool.false_eq_true
def bI:= @List.mem_cons_self
def aG:= @List.getElem?_take
def ar:= @Nat.lt_of_lt_of_le
def an:= @List.length_append
def aA:= @List.mem_singleton
def gL:= @Int.natCast_nonneg
def bH:= @List.mem_filterMap
def aO:= @List.getElem?_drop
def eY:= @Option.toList_some
def gK:= @List.pairwise_cons
def ae:= @Option.some.injEq
def ah:= @List.getElem?_map
def cT:= @List.getElem?_set
def ez:= @List.append_assoc
def gj:= @Bool.not_eq_true'
def ct:= @Go.Result.andThen_ok
def gi:= @List.ext_getElem?
def eR:= @Go.World.ownsRow_nil
def cE:= @Int.toNat_natCast
def cS:= @List.size_toArray
def gh:= @List.length_range
def dj:= @List.take_add_one
def dF:= @Bool.eq_false_iff
def eS:= @List.flatten_cons
def fc:= @List.not_mem_nil
def cu:= @Option.bind_some
def cP:= @Nat.le_add_right
def bM:= @List.length_cons
def fb:= @Nat.lt_succ_self
def bF:= @List.length_drop
def aX:= @List.getElem_mem
def er:= @List.cons_append
def bL:= @Option.getD_some
def bj:= @List.length_take
def gH:= @List.any_eq_true
def dh:= @List.mem_flatMap
def fS:= @List.take_length
def dB:= @Bool.eq_iff_iff
def cQ:= @List.append_nil
def aP:= @Option.map_some
def aS:= @List.mem_append
def bE:= @List.length_set
def eI:= @List.nil_append
def cz:= @List.map_append
def aw:= @List.length_map
def gq:= @List.length_nil
def fB:= @Bool.or_eq_true
def eJ:= @List.cons.injEq
def cW:= @List.mem_range
def ai:= @Prod.mk.injEq
def aM:= @List.mem_cons
def cZ:= @List.map_cons
def fo:= @Nat.add_assoc
def bB:= @List.mem_map
def bW:= @List.all_nil
def aR:= @Nat.le_trans
def ay:= @Nat.zero_add
def ep:= @Nat.add_zero
def bA:= @Go.Sem.run_bind
def bn:= @Nat.le_refl
def bf:= @Nat.zero_le
def cA:= @Int.le_refl
def cd:= @Nat.mul_one
def cw:= @Nat.add_mul
def dg:= @Array.ext'
def dD:= @Iff.rfl
theorem jC{α β:Type _}{a0 b0:α}{a1 b1:β}(h:some (a0,a1)=some (b0,b1)):a0=b0∧a1=b1:=by
 injection h with h;simp only[Prod.mk.injEq]at h;exact h
theorem RA{α β γ:Type _}{a0 b0:α}{a1 b1:β}{a2 b2:γ}(h:some (a0,a1,a2)=some (b0,b1,b2)):a0=b0∧a1=b1∧a2=b2:=by
 injection h with h;simp only[Prod.mk.injEq]at h;exact h
theorem zP4{α β γ δ:Type _}{a0 b0:α}{a1 b1:β}{a2 b2:γ}{a3 b3:δ}(h:some (a0,a1,a2,a3)=some (b0,b1,b2,b3)):a0=b0∧a1=b1∧a2=b2∧a3=b3:=by
 injection h with h;simp only[Prod.mk.injEq]at h;exact h
theorem zP5{α β γ δ ε:Type _}{a0 b0:α}{a1 b1:β}{a2 b2:γ}{a3 b3:δ}{a4 b4:ε}(h:some (a0,a1,a2,a3,a4)=some (b0,b1,b2,b3,b4)):a0=b0∧a1=b1∧a2=b2∧a3=b3∧a4=b4:=by
 injection h with h;simp only[Prod.mk.injEq]at h;exact h
theorem zP6{α β γ δ ε ζ:Type _}{a0 b0:α}{a1 b1:β}{a2 b2:γ}{a3 b3:δ}{a4 b4:ε}{a5 b5:ζ}(h:some (a0,a1,a2,a3,a4,a5)=some (b0,b1,b2,b3,b4,b5)):a0=b0∧a1=b1∧a2=b2∧a3=b3∧a4=b4∧a5=b5:=by
 injection h with h;simp only[Prod.mk.injEq]at h;exact h
inductive D where
 |int (k:IntKind) (n:Int)
 |bool (b:Bool)
 |str (s:ByteArray)
 |list (l:List D)
 |agg (l:List D)
 |fx (l:List D)
 |gW
 |ptr (l:List D)
 |fn (f:Nat) (l:List D)
 |top
 deriving Inhabited
def D.cells:D→List D
 |.agg l=>l
 |d=> [d]
def D.aq:D→Int
 |.int _ n=>n
 |_=>0
def D.gV:D→Bool
 |.bool b=>b
 |_=>false
def D.aV:D→List D
 |.list l=>l
 |.agg l=>l
 |.fx l=>l
 |.ptr l=>l
 |.fn _ l=>l
 |_=> []
def D.keq(x y:D):Bool:=decide (x.cells.map D.aq=y.cells.map D.aq)
def D.ic:D→Bool
 |.gW=>true
 |_=>false
inductive Ty where
 |int (k:IntKind)
 |bool
 |str
 |list (t:Ty)
 |agg (fs:Ty)
 |fx (fs:Ty)
 |box (fs:Ty)
 |ptr (fs:Ty)
 |fn (f:Nat) (fs:Ty)
 |nil
 |cons (h t:Ty)
 deriving DecidableEq
def Ty.aV:Ty→List Ty
 |.cons h t=>h::t.aV
 |_=> []
def Ty.dJ:List Ty→Ty
 | [] =>.nil
 |h::t=>.cons h (Ty.dJ t)
theorem Ty.fa(l:List Ty):(Ty.dJ l).aV=l:=by
 induction l with
 |nil=>rfl
 |cons h t ih=>simp[Ty.dJ,Ty.aV,ih]
def Ty.cells:Ty→List Ty
 |.agg fs=>fs.aV
 |t=> [t]
def Ty.sc:Ty→Nat
 |.int k=>k.bits/8
 |.bool=>1
 |.str=>16
 |.list _=>24
 |_=>8
def Ty.al:Ty→Nat
 |.int k=>k.bits/8
 |.bool=>1
 |_=>8
def Ty.bytes:Ty→Nat
 |.agg fs=>
  let r:=fs.aV.foldl (fun x c=>((x.1+c.al-1)/c.al*c.al+c.sc,max x.2 c.al)) (0,1)
  (r.1+r.2-1)/r.2*r.2
 |t=>t.sc
theorem Ty.Rv(fs:Ty):(Ty.agg (.dJ fs.aV)).bytes=(Ty.agg fs).bytes:=by
 simp only[Ty.bytes,Ty.fa]
def HZ(K:Nat)(t:Ty)(n:Nat):Prop:=n≤maxLen∧n*t.bytes≤K
def oG(t:Ty)(n:Nat):Prop:=n≤maxLen∧n*t.bytes≤140737488355328
theorem ft(t:Ty):oG t 0:=⟨bf _,by omega⟩
theorem Bo(K:Nat)(t:Ty):HZ K t 0:=⟨bf _,by omega⟩
theorem oG.mono{t:Ty}{n m:Nat}(h:oG t n)(hm:m≤n):oG t m:=⟨aR hm h.1,aR (az _ hm) h.2⟩
def oY(k:IntKind)(n:Int):Prop:=k.min≤n∧n≤k.max
instance (k:IntKind) (n:Int):Decidable (oY k n):=inferInstanceAs (Decidable (_∧_))
def B6(K:Nat):Ty→(D→Prop)×(List D→Prop)
 |.int k=>(fun d=> ∃n,d= .int k n∧oY k n,fun _=>False)
 |.bool=>(fun d=> ∃b,d= .bool b,fun _=>False)
 |.str=>(fun d=> ∃s,d= .str s,fun _=>False)
 |.list t=>(fun d=> ∃l,d= .list l∧HZ K t l.length∧ ∀x∈l,(B6 K t).1 x,fun _=>False)
 |.agg fs=>(fun d=> ∃l,d= .agg l∧(B6 K fs).2 l,fun _=>False)
 |.fx fs=>(fun d=> ∃l,d= .fx l∧(B6 K fs).2 l,fun _=>False)
 |.box fs=>(fun d=> ∃l,d= .ptr l∧(B6 K fs).2 l,fun _=>False)
 |.ptr fs=>(fun d=>d= .gW∨ ∃l,d= .ptr l∧(B6 K fs).2 l,fun _=>False)
 |.fn f fs=>(fun d=> ∃l,d= .fn f l∧(B6 K fs).2 l,fun _=>False)
 |.nil=>(fun _=>False,fun l=>l=[])
 |.cons h t=>(fun _=>False,fun l=> ∃a r,l=a::r∧(B6 K h).1 a∧(B6 K t).2 r)
def su(K:Nat)(t:Ty)(d:D):Prop:=(B6 K t).1 d
def tQ(K:Nat)(t:Ty)(l:List D):Prop:=(B6 K t).2 l
def Has(t:Ty)(d:D):Prop:=(B6 140737488355328 t).1 d
def dK(t:Ty)(l:List D):Prop:=(B6 140737488355328 t).2 l
theorem pO{K K':Nat}(h:K≤K'): ∀(t:Ty),(∀d,su K t d→su K' t d)∧ ∀l,tQ K t l→tQ K' t l
 |.int _| .bool| .str=>⟨fun _ h=>h,fun _ h=>h⟩
 |.nil=>⟨fun _ h=>h,fun _ h=>h⟩
 |.list t=>⟨fun _ ⟨l,h1,h2,h3⟩=>⟨l,h1,⟨h2.1,aR h2.2 h⟩,fun x hx=>(pO h t).1 x (h3 x hx)⟩,fun _ h=>h⟩
 |.agg t| .fx t| .box t| .fn _ t=>⟨fun _ ⟨l,h1,h2⟩=>⟨l,h1,(pO h t).2 l h2⟩,fun _ h=>h⟩
 |.ptr t=>⟨fun _ h'=>h'.elim .inl fun⟨l,h1,h2⟩=>.inr ⟨l,h1,(pO h t).2 l h2⟩,fun _ h=>h⟩
 |.cons a t=>⟨fun _ h=>h,fun _ ⟨x,r,h1,h2,h3⟩=>⟨x,r,h1,(pO h a).1 x h2,(pO h t).2 r h3⟩⟩
section
variable{d:D}{l:List D}{k:IntKind}{t h:Ty}{f:Nat}
theorem dA:Has (.int k) d↔ ∃n,d= .int k n∧oY k n:=dD
theorem dz:Has .bool d↔ ∃b,d= .bool b:=dD
theorem oa:Has .str d↔ ∃s,d= .str s:=dD
theorem bK:Has (.list t) d↔ ∃l,d= .list l∧oG t l.length∧ ∀x∈l,Has t x:=dD
theorem eN:Has (.agg t) d↔ ∃l,d= .agg l∧dK t l:=dD
theorem Zs:Has (.fx t) d↔ ∃l,d= .fx l∧dK t l:=dD
theorem jH:Has (.box t) d↔ ∃l,d= .ptr l∧dK t l:=dD
theorem m9:Has (.ptr t) d↔d= .gW∨ ∃l,d= .ptr l∧dK t l:=dD
theorem mo:Has (.fn f t) d↔ ∃l,d= .fn f l∧dK t l:=dD
theorem dr:dK .nil l↔l=[] :=dD
theorem aj:dK (.cons h t) l↔ ∃a r,l=a::r∧Has h a∧dK t r:=dD
end
theorem il: ∀{t:Ty} {l:List D},dK t l→l.length=t.aV.length
 |.nil,l,h=>by rw[dr.1 h];rfl
 |.cons a b,l,h=>by
  obtain⟨x,r,rfl,_,hr⟩:=aj.1 h
  simp[Ty.aV,il hr]
 |.int _,_,h| .bool,_,h| .str,_,h| .list _,_,h| .agg _,_,h| .fx _,_,h| .box _,_,h| .ptr _,_,h| .fn _ _,_,h=>h.elim
theorem dY: ∀{t:Ty} {l:List D},dK t l→ ∀(j:Nat) u,t.aV[j]? =some u→ ∃x,l[j]? =some x∧Has u x
 |.nil,l,h,j,u,hj=>by simp[Ty.aV]at hj
 |.cons a b,l,h,j,u,hj=>by
  obtain⟨x,r,rfl,hx,hr⟩:=aj.1 h
  cases j with
  |zero=>simp[Ty.aV]at hj;subst hj;exact⟨x,rfl,hx⟩
  |succ j=>exact dY hr j u (by simpa [Ty.aV]using hj)
 |.int _,_,h,_,_,_| .bool,_,h,_,_,_| .str,_,h,_,_,_| .list _,_,h,_,_,_| .agg _,_,h,_,_,_| .fx _,_,h,_,_,_| .box _,_,h,_,_,_| .ptr _,_,h,_,_,_| .fn _ _,_,h,_,_,_=>h.elim
theorem jQ: ∀{ts:List Ty} {l:List D},l.length=ts.length→(∀(j:Nat) u x,ts[j]? =some u→l[j]? =some x→Has u x)→dK (Ty.dJ ts) l
 | [],l,hl,_=>dr.2 (au (by simpa using hl))
 |t::ts,[],hl,_=>by simp at hl
 |t::ts,x::l,hl,h=>aj.2 ⟨x,l,rfl,h 0 t x rfl rfl,jQ (by simpa using hl) fun j u y h1 h2=>h (j+1) u y (by simpa using h1) (by simpa using h2)⟩
theorem cN{t:Ty}{d:D}(h:Has t d):d.cells.length=t.cells.length∧ ∀(j:Nat) u,t.cells[j]? =some u→ ∃x,d.cells[j]? =some x∧Has u x:=by
 by_cases ha: ∃fs,t= .agg fs
 ·obtain⟨fs,rfl⟩:=ha
  obtain⟨l,rfl,hl⟩:=eN.1 h
  exact⟨il hl,dY hl⟩
 ·have ht:t.cells=[t] :=by cases t<;>first|rfl|exact absurd ⟨_,rfl⟩ ha
  have hd:d.cells=[d] :=by
   cases t with
   |agg fs=>exact absurd ⟨_,rfl⟩ ha
   |int k=>obtain⟨n,rfl,_⟩:=dA.1 h;rfl
   |bool=>obtain⟨n,rfl⟩:=dz.1 h;rfl
   |str=>obtain⟨n,rfl⟩:=oa.1 h;rfl
   |list t=>obtain⟨n,rfl,_⟩:=bK.1 h;rfl
   |fx t=>obtain⟨n,rfl,_⟩:=Zs.1 h;rfl
   |box t=>obtain⟨n,rfl,_⟩:=jH.1 h;rfl
   |ptr t=>rcases m9.1 h with rfl|⟨n,rfl,_⟩<;>rfl
   |fn f t=>obtain⟨n,rfl,_⟩:=mo.1 h;rfl
   |nil=>exact h.elim
   |cons a b=>exact h.elim
  rw[ht,hd]
  refine⟨rfl,fun j u hj=> ?_⟩
  cases j with
  |zero=>simp at hj;subst hj;exact⟨d,rfl,h⟩
  |succ j=>simp at hj
abbrev bU:=Nat→Nat→Prop
inductive cH (w:World) (S:bU):Value→D→Prop
 |int (k:IntKind) (n:Int):cH w S (.int k n) (.int k n)
 |bool (b:Bool):cH w S (.bool b) (.bool b)
 |str (s:ByteArray):cH w S (.string s) (.str s)
 |agg (cs:List Value) (ds:List D) (hl:cs.length=ds.length) (h: ∀(i:Nat) v d,cs[i]? =some v→ds[i]? =some d→cH w S v d):cH w S (.agg cs.toArray) (.agg ds)
 |fx (cs:List Value) (ds:List D) (hl:cs.length=ds.length) (h: ∀(i:Nat) v d,cs[i]? =some v→ds[i]? =some d→cH w S v d):cH w S (.tuple cs.toArray) (.fx ds)
 |gW:cH w S (.pointer none) .gW
 |ptr (b:Nat) (cs:List Value) (ds:List D) (hl:cs.length=ds.length) (hS: ∀i,i<ds.length→S b i) (hc: ∀(i:Nat) v,cs[i]? =some v→w.cell? ⟨b,i,none⟩=some v)
   (h: ∀(i:Nat) v d,cs[i]? =some v→ds[i]? =some d→cH w S v d):cH w S (.pointer (some ⟨b,0,none⟩)) (.ptr ds)
 |nil (a:Option Addr) (cap:Nat):cH w S (.slice a 0 cap) (.list [])
 |list (b off cap sz:Nat) (xs:List Value) (ds:List D) (iY:0<sz) (fY:ds≠ []) (ke:ds.length≤cap) (hl:xs.length=ds.length*sz)
   (hS: ∀i,i<xs.length→S b (off+i)) (hc: ∀(i:Nat) v,xs[i]? =some v→w.cell? ⟨b,off+i,none⟩=some v)
   (hw: ∀(i:Nat) d,ds[i]? =some d→d.cells.length=sz)
   (h: ∀(i:Nat) d (j:Nat) v c,ds[i]? =some d→d.cells[j]? =some c→xs[i*sz+j]? =some v→cH w S v c):cH w S (.slice (some ⟨b,off,none⟩) ds.length cap) (.list ds)
 |fn (f:Nat) (cs:List Value) (ds:List D) (hl:cs.length=ds.length) (h: ∀(i:Nat) v d,cs[i]? =some v→ds[i]? =some d→cH w S v d):cH w S (.func (.func f) #[] cs.toArray) (.fn f ds)
theorem cH.keep{w w':World}{S S':bU}{v:Value}{d:D}(hS: ∀b o,S b o→S' b o)(hk: ∀b o,S b o→w'.cell? ⟨b,o,none⟩=w.cell? ⟨b,o,none⟩)(h:cH w S v d):cH w' S' v d:=by
 induction h with
 |int k n=>exact .int k n
 |bool b=>exact .bool b
 |str s=>exact .str s
 |agg cs ds hl _ ih=>exact .agg cs ds hl ih
 |fx cs ds hl _ ih=>exact .fx cs ds hl ih
 |gW=>exact .gW
 |ptr b cs ds hl hs hc _ ih=>
  refine .ptr b cs ds hl (fun i hi=>hS _ _ (hs i hi)) (fun i v hv=> ?_) ih
  have hi:i<cs.length:=(aH.1 hv).1
  rw[hk _ _ (hs i (by omega))]
  exact hc i v hv
 |nil a cap=>exact .nil a cap
 |list b off cap sz xs ds iY fY ke hl hs hc hw _ ih=>
  refine .list b off cap sz xs ds iY fY ke hl (fun i hi=>hS _ _ (hs i hi)) (fun i v hv=> ?_) hw ih
  have hi:i<xs.length:=(aH.1 hv).1
  rw[hk _ _ (hs i hi)]
  exact hc i v hv
 |fn f cs ds hl _ ih=>exact .fn f cs ds hl ih
section
variable{w:World}{S:bU}{v:Value}{l:List D}{k:IntKind}{n:Int}
theorem cH.cX(h:cH w S v (.int k n)):v= .int k n:=by cases h;rfl
theorem cH.iE{b:Bool}(h:cH w S v (.bool b)):v= .bool b:=by cases h;rfl
theorem cH.Io{b:ByteArray}(h:cH w S v (.str b)):v= .string b:=by cases h;rfl
theorem cH.Ip(h:cH w S v (.agg l)): ∃cs:List Value,v= .agg cs.toArray∧cs.length=l.length∧ ∀(i:Nat) u d,cs[i]? =some u→l[i]? =some d→cH w S u d:=by
 cases h with|agg cs _ hl h=>exact⟨cs,rfl,hl,h⟩
theorem cH.xN{f:Nat}(h:cH w S v (.fn f l)): ∃cs:List Value,v= .func (.func f) #[] cs.toArray∧cs.length=l.length∧ ∀(i:Nat) u d,cs[i]? =some u→l[i]? =some d→cH w S u d:=by
 cases h with|fn _ cs _ hl h=>exact⟨cs,rfl,hl,h⟩
theorem cH.yS(h:cH w S v (.ptr l)): ∃(b:Nat) (cs:List Value),v= .pointer (some ⟨b,0,none⟩)∧cs.length=l.length∧(∀i,i<l.length→S b i)∧(∀(i:Nat) u,cs[i]? =some u→w.cell? ⟨b,i,none⟩=some u)∧
  ∀(i:Nat) u d,cs[i]? =some u→l[i]? =some d→cH w S u d:=by
 cases h with|ptr b cs _ hl hs hc h=>exact⟨b,cs,rfl,hl,hs,hc,h⟩
theorem cH.u9(h:cH w S v .gW):v= .pointer none:=by cases h;rfl
theorem cH.qd(h:cH w S v (.list l)): ∃a cap,v= .slice a l.length cap:=by
 cases h with
 |nil a cap=>exact⟨a,cap,rfl⟩
 |list b off cap=>exact⟨_,cap,rfl⟩
theorem cH.KE(h:cH w S v (.list l)){i:Nat}{d:D}(hi:l[i]? =some d): ∃(b off cap:Nat) (u:Nat→Value),v= .slice (some ⟨b,off,none⟩) l.length cap∧
  ∀(j:Nat) c,d.cells[j]? =some c→S b (off+i*d.cells.length+j)∧w.cell? ⟨b,off+i*d.cells.length+j,none⟩=some (u j)∧cH w S (u j) c:=by
 cases h with
 |nil a cap=>simp at hi
 |list b off cap sz xs _ iY fY ke hl hs hc hw h=>
  have Fs:=hw i d hi
  have iJ:i<l.length:=(aH.1 hi).1
  refine⟨b,off,cap,fun j=>xs.getD (i*sz+j) undef,rfl,fun j c hj=> ?_⟩
  have lZ:j<d.cells.length:=(aH.1 hj).1
  have bP:i*sz+j<xs.length:=by
   have:(i+1)*sz≤l.length*sz:=az _ iJ
   rw[cw]at this
   omega
  have hx:xs[i*sz+j]? =some (xs.getD (i*sz+j) undef):=by simp[List.getD,bP]
  rw[Fs,fo]
  exact⟨hs _ bP,hc _ _ hx,h i d j _ c hi hj hx⟩
end
inductive U where
 |not|neg (k:IntKind)|len|cell (j:Nat)|part (off n:Nat)|agg|fx|so|fnc (f:Nat)|De|aav (k:IntKind)
 deriving DecidableEq
inductive B where
 |add (k:IntKind)|sub (k:IntKind)|mul (k:IntKind)|rem (k:IntKind)|quo (k:IntKind)
 |lt|le|gt|ge|eq|ne|and|or|beq|idx|cat|take|drop|min (k:IntKind)|max (k:IntKind)|xor (k:IntKind)|has
 deriving DecidableEq
inductive E where
 |var (i:Nat)|aT (k:IntKind) (n:Int)|ff (b:Bool)|Fo (s:ByteArray)|gW
 |nil|cons (h t:E)
 |un (o:U) (e:E)|bin (o:B) (a b:E)|ite (c a b:E)
 deriving DecidableEq,Inhabited
def U.den:U→D→D
 |.not,d=>.bool (!d.gV)
 |.neg k,d=>.int k (k.wrap (0-d.aq))
 |.len,d=>.int .i64 d.aV.length
 |.cell j,d=>d.aV.getD j .top
 |.part off n,d=>.agg ((d.aV.drop off).take n)
 |.agg,d=>.agg d.aV
 |.fx,d=>.fx d.aV
 |.so,d=>.ptr d.aV
 |.fnc f,d=>.fn f d.aV
 |.De,d=>.bool d.ic
 |.aav k,d=>.int k (k.wrap d.aq)
def M5(k:IntKind)(x y:Int):Int:=k.wrap ((BitVec.ofInt k.bits x ^^^ BitVec.ofInt k.bits y).toNat)
def B.den:B→D→D→D
 |.add k,x,y=>.int k (k.wrap (x.aq+y.aq))
 |.sub k,x,y=>.int k (k.wrap (x.aq-y.aq))
 |.mul k,x,y=>.int k (k.wrap (x.aq*y.aq))
 |.rem k,x,y=>.int k (x.aq.tmod y.aq)
 |.quo k,x,y=>.int k (k.wrap (x.aq.tdiv y.aq))
 |.lt,x,y=>.bool (decide (x.aq<y.aq))
 |.le,x,y=>.bool (decide (x.aq≤y.aq))
 |.gt,x,y=>.bool (decide (x.aq>y.aq))
 |.ge,x,y=>.bool (decide (x.aq≥y.aq))
 |.eq,x,y=>.bool (x.aq==y.aq)
 |.ne,x,y=>.bool (x.aq !=y.aq)
 |.and,x,y=>.bool (x.gV&&y.gV)
 |.or,x,y=>.bool (x.gV||y.gV)
 |.beq,x,y=>.bool (x.gV==y.gV)
 |.idx,x,y=>x.aV.getD y.aq.toNat .top
 |.cat,x,y=>.list (x.aV++y.aV)
 |.take,x,y=>.list (x.aV.take y.aq.toNat)
 |.drop,x,y=>.list (x.aV.drop y.aq.toNat)
 |.min k,x,y=>.int k (if y.aq<x.aq then y.aq else x.aq)
 |.max k,x,y=>.int k (if y.aq>x.aq then y.aq else x.aq)
 |.xor k,x,y=>.int k (M5 k x.aq y.aq)
 |.has,x,y=>.bool (x.aV.any fun z=>z.keq y)
def den(ρ:Nat→D):E→D
 |.var i=>ρ i
 |.aT k n=>.int k n
 |.ff b=>.bool b
 |.Fo s=>.str s
 |.gW=>.gW
 |.nil=>.list []
 |.cons h t=>.list (den ρ h::(den ρ t).aV)
 |.un o e=>o.den (den ρ e)
 |.bin o a b=>o.den (den ρ a) (den ρ b)
 |.ite c a b=>if(den ρ c).gV then den ρ a else den ρ b
def E.lt(n:Nat):E→Bool
 |.var i=>i<n
 |.aT .. | .ff _| .Fo _| .gW| .nil=>true
 |.cons h t=>h.lt n&&t.lt n
 |.un _ e=>e.lt n
 |.bin _ a b=>a.lt n&&b.lt n
 |.ite c a b=>c.lt n&&a.lt n&&b.lt n
def fU{α:Type}(ρ:Nat→α)(i:Nat)(d:α):Nat→α:=fun j=>if j=i then d else ρ j
theorem eB{α:Type}(ρ:Nat→α)(i:Nat)(d:α):fU ρ i d i=d:=by simp[fU]
theorem fJ{α:Type}(ρ:Nat→α){i j:Nat}(d:α)(h:j≠i):fU ρ i d j=ρ j:=by simp[fU,h]
theorem dU{ρ gN:Nat→D}{n:Nat}(h: ∀i,i<n→gN i=ρ i): ∀{e:E},e.lt n=true→den gN e=den ρ e:=by
 intro e
 induction e with
 |var i=>intro he;exact h i (by simpa [E.lt]using he)
 |aT|ff|Fo|gW|nil=>intro _;rfl
 |cons a b rG rF=>intro he;simp only[E.lt,bc]at he;simp only[den,rG he.1,rF he.2]
 |un o e ih=>intro he;simp only[E.lt]at he;simp only[den,ih he]
 |bin o a b rG rF=>intro he;simp only[E.lt,bc]at he;simp only[den,rG he.1,rF he.2]
 |ite c a b PB rG rF=>intro he;simp only[E.lt,bc]at he;simp only[den,PB he.1.1,rG he.1.2,rF he.2]
def E.dJ:List E→E
 | [] =>.nil
 |h::t=>.cons h (E.dJ t)
theorem gG(ρ:Nat→D)(l:List E):den ρ (E.dJ l)= .list (l.map (den ρ)):=by
 induction l with
 |nil=>rfl
 |cons h t ih=>simp[E.dJ,den,ih,D.aV]
structure acV(P:Program)(T:TypeId)(kt:Ty):Prop where
 ex: ∃k e,P.underlying T=some (.map k e)∧P.underlying e=some .bool∧(∀w,(zeroValue e).run P w= .ok (.bool false) w)∧Maps.Keyed P k∧
  ∀(w:World) (S:bU) v d,cH w S v d→Has kt d→ ∃kl,keyOf P k v=some kl
 inj: ∀(w w':World) (S S':bU) v v' d d',cH w S v d→cH w' S' v' d'→Has kt d→Has kt d'→D.keq d d'=true→v=v'
 aBS: ∀(w w':World) (S S':bU) v d d',cH w S v d→cH w' S' v d'→Has kt d→Has kt d'→D.keq d d'=true
structure yN(P:Program)(w:World)(b:Nat)(T:TypeId)(kt:Ty)(l:List D):Prop where
 key:acV P T kt
 own: ∃k e n,∃D0:DataW Unit,P.underlying T=some (.map k e)∧w.ownsMap P k (plainElem P e) b n D0∧n≤l.length∧(∀x∈l,Has kt x)∧
  ∀(w':World) (S:bU) v d kl,cH w' S v d→Has kt d→keyOf P k v=some kl→D0.atKey kl (.lit (.bool false))= .lit (.bool (l.any fun z=>z.keq d))
theorem yN.lt{P:Program}{w:World}{b:Nat}{T:TypeId}{kt:Ty}{l:List D}(h:yN P w b T kt l):b<w.heap.size:=by
 obtain⟨_,_,_,_,_,h1,_⟩:=h.own
 exact h1.lt
theorem yN.congr{P:Program}{w w':World}{b:Nat}{T:TypeId}{kt:Ty}{l:List D}(h:yN P w b T kt l)(hb:w'.heap[b]? =w.heap[b]?):yN P w' b T kt l:=by
 obtain⟨k,e,n,D0,h0,⟨es,clock,h1,h2⟩,h3⟩:=h.own
 exact⟨h.key,k,e,n,D0,h0,⟨es,clock,hb.trans h1,h2⟩,h3⟩
theorem yb{P:Program}{e:TypeId}(he:P.underlying e=some .bool){v:Value}{z:DataW Unit×List MemPlace}(h:plainElem P e v=some z): ∃x,v= .bool x∧z=(.lit (.bool x),[]):=by
 unfold plainElem at h
 rw[he]at h
 cases v<;>simp at h
 exact⟨_,rfl,h.symm⟩
theorem yN.lookup{P:Program}{w:World}{b:Nat}{T:TypeId}{kt:Ty}{l:List D}(h:yN P w b T kt l){w':World}{S:bU}{v:Value}{d:D}(hr:cH w' S v d)(hd:Has kt d):
  (Instr.lookup T (.map (some b)) v false).run P w= .ok (.bool (l.any fun z=>z.keq d)) w:=by
 obtain⟨k,e,n,D0,h0,h1,h2,h3,h4⟩:=h.own
 obtain⟨k',e',g1,g2,g3,g4,g5⟩:=h.key.ex
 rw[h0]at g1
 injection g1 with g1;injection g1 with g1 g1';subst g1;subst g1'
 obtain⟨kl,hkl⟩:=g5 w' S v d hr hd
 obtain⟨u,ps,fh,hu⟩:=h1.lookup g4 h0 (g3 w) (plainElem_bool g2 false) hkl
 obtain⟨x,rfl,hx⟩:=yb g2 hu
 rw[h4 w' S v d kl hr hd hkl]at hx
 simp only[ai,DataW.lit.injEq,Lit.bool.injEq]at hx
 rw[fh,hx.1]
abbrev Tag:=Nat×Nat
def Fe(j:Nat):Bool:=decide (1000≤j)
def Tag.ex(g:Tag):Bool:=Fe g.2
inductive SC where
 |iW (e:E) (t:Ty)
 |po (t:Ty)
 |own (g:Tag) (e:E) (t:Ty)
 |clip (e:E) (t:Ty)
 |r9 (id off:Nat)
 |C7 (l i:E) (t:Ty) (off:Nat)
 |CX (e:E) (fs:Ty) (off:Nat)
 |xo (g:Tag) (t:Ty)
 |xC (g:Tag) (i:E) (t:Ty) (off:Nat)
 |Hp (id:Nat)
 |L1
 |xD (e:E) (kt:Ty) (T:TypeId)
 deriving DecidableEq
def mapOf:List SC→Option (E×Ty×TypeId)
 | [.xD e kt T] =>some (e,kt,T)
 |_=>none
inductive SV where
 |one (c:SC)
 |agg (l:List SC)
 |fx (l:List (Bool×List SC))
 deriving DecidableEq
abbrev dI:=List (E×Bool)
def aU(ρ:Nat→D)(c:dI):Bool:=c.all fun x=>(den ρ x.1).gV==x.2
structure St where
 tm:Nat→Option (dI×SV)
 hp:Nat→Option (Bool×List SC)
 live:Tag→Option (E×TypeId×Ty)
structure Gh where
 S:bU
 β:Nat→Nat
 τ:Tag→Value
def Ty.scalar:Ty→Bool
 |.int _| .bool| .str| .list _| .box _| .ptr _| .fn _ _=>true
 |_=>false
def SC.scalar:SC→Bool
 |.iW _ t=>t.scalar
 |_=>true
def SC.lt(n:Nat):SC→Bool
 |.iW e _| .own _ e _| .CX e _ _| .clip e _=>e.lt n
 |.C7 l i _ _=>l.lt n&&i.lt n
 |.xC _ i _ _=>i.lt n
 |.xD e _ _=>e.lt n
 |.po _| .r9 .. | .xo .. | .Hp _| .L1=>true
def SV.lt(n:Nat):SV→Bool
 |.one c=>c.lt n
 |.agg l=>l.all (SC.lt n)
 |.fx l=>l.all fun x=>x.2.all (SC.lt n)
structure Cx where
 ρ:Nat→D
 N:Nat
 M:Nat→Prop
def tJ(C:Cx)(w:World)(G:Gh):SC→Value→Prop
 |.iW e t,v=>e.lt C.N=true∧cH w G.S v (den C.ρ e)∧Has t (den C.ρ e)
 |.po _,v=>v= .slice none 0 0
 |.own g e t,v=>C.M g.1∧e.lt C.N=true∧cH w G.S v (den C.ρ e)∧Has (.list t) (den C.ρ e)∧v=G.τ g
 |.clip e t,v=>e.lt C.N=true∧cH w G.S v (den C.ρ e)∧Has (.list t) (den C.ρ e)∧ ∃a,v= .slice a (den C.ρ e).aV.length (den C.ρ e).aV.length
 |.r9 id off,v=>C.M id∧v= .pointer (some ⟨G.β id,off,none⟩)
 |.C7 l i t off,v=>l.lt C.N=true∧i.lt C.N=true∧ ∃(b o:Nat) (u:Nat→Value),v= .pointer (some ⟨b,o+off,none⟩)∧Has t (den C.ρ (.bin .idx l i))∧
   ∀(j:Nat) c,(den C.ρ (.bin .idx l i)).cells[j]? =some c→G.S b (o+j)∧w.cell? ⟨b,o+j,none⟩=some (u j)∧cH w G.S (u j) c
 |.CX e fs off,v=>e.lt C.N=true∧ ∃(b:Nat) (l:List D) (u:Nat→Value),den C.ρ e= .ptr l∧dK fs l∧v= .pointer (some ⟨b,off,none⟩)∧
   ∀(j:Nat) c,l[j]? =some c→G.S b j∧w.cell? ⟨b,j,none⟩=some (u j)∧cH w G.S (u j) c
 |.xo g _,v=>C.M g.1∧v=G.τ g∧ ∃a n cap,v= .slice a n cap
 |.xC g i t off,v=>C.M g.1∧i.lt C.N=true∧ ∃b cap n,G.τ g= .slice (some ⟨b,0,none⟩) n cap∧0≤(den C.ρ i).aq∧(den C.ρ i).aq.toNat<n∧
   v= .pointer (some ⟨b,(den C.ρ i).aq.toNat*t.cells.length+off,none⟩)
 |.Hp id,v=>C.M id∧v= .map (some (G.β id))
 |.L1,v=>v= .map none∨v= .nilFunc
 |.xD ..,_=>False
def lA(C:Cx)(w:World)(G:Gh)(l:List SC)(vs:List Value):Prop:=
 vs.length=l.length∧ ∀(i:Nat) c v,l[i]? =some c→vs[i]? =some v→tJ C w G c v
def nJ(C:Cx)(w:World)(G:Gh)(x:Bool×List SC)(v:Value):Prop:=
 if x.1 then∃vs:List Value,v= .agg vs.toArray∧lA C w G x.2 vs else∃c,x.2=[c] ∧tJ C w G c v
def Ab(C:Cx)(w:World)(G:Gh):SV→Value→Prop
 |.one c,v=>tJ C w G c v
 |.agg l,v=> ∃vs:List Value,v= .agg vs.toArray∧lA C w G l vs
 |.fx l,v=> ∃vs:List Value,v= .tuple vs.toArray∧vs.length=l.length∧ ∀(i:Nat) x u,l[i]? =some x→vs[i]? =some u→nJ C w G x u
structure dT(C:Cx)(w:World)(G:Gh)(C':Cx)(w':World)(G':Gh):Prop where
 den: ∀e:E,e.lt C.N=true→dV.den C'.ρ e=dV.den C.ρ e∧e.lt C'.N=true
 M: ∀i,C.M i→C'.M i
 S: ∀b o,G.S b o→G'.S b o
 cell: ∀b o,G.S b o→w'.cell? ⟨b,o,none⟩=w.cell? ⟨b,o,none⟩
 β: ∀i,C.M i→G'.β i=G.β i
 τ: ∀g:Tag,C.M g.1→G'.τ g=G.τ g
section
variable{C C':Cx}{w w':World}{G G':Gh}{v:Value}
theorem tJ.later(h:dT C w G C' w' G'): ∀{c:SC},tJ C w G c v→tJ C' w' G' c v
 |.iW e t,⟨h1,h2,h3⟩=>by
  obtain⟨h4,h5⟩:=h.den e h1
  exact⟨h5,h4▸h2.keep h.S h.cell,h4▸h3⟩
 |.po _,hv=>hv
 |.own g e t,⟨hm,h1,h2,h3,h6⟩=>by
  obtain⟨h4,h5⟩:=h.den e h1
  exact⟨h.M _ hm,h5,h4▸h2.keep h.S h.cell,h4▸h3,by rw[h.τ g hm];exact h6⟩
 |.clip e t,⟨h1,h2,h3,a,h6⟩=>by
  obtain⟨h4,h5⟩:=h.den e h1
  exact⟨h5,h4▸h2.keep h.S h.cell,h4▸h3,a,by rw[h4];exact h6⟩
 |.r9 id off,⟨hm,hv⟩=>⟨h.M _ hm,by rw[h.β id hm];exact hv⟩
 |.C7 l i t off,⟨hl,hi,b,o,u,hv,ht,hc⟩=>by
  have h4:dV.den C'.ρ (.bin .idx l i)=dV.den C.ρ (.bin .idx l i):=(h.den (.bin .idx l i) (by simp[E.lt,hl,hi])).1
  refine⟨(h.den l hl).2,(h.den i hi).2,b,o,u,hv,h4▸ht,fun j c hj=> ?_⟩
  rw[h4]at hj
  obtain⟨h5,h6,h7⟩:=hc j c hj
  exact⟨h.S _ _ h5,by rw[h.cell _ _ h5];exact h6,h7.keep h.S h.cell⟩
 |.CX e fs off,⟨he,b,l,u,h1,h2,hv,hc⟩=>by
  refine⟨(h.den e he).2,b,l,u,by rw[(h.den e he).1];exact h1,h2,hv,fun j c hj=> ?_⟩
  obtain⟨h5,h6,h7⟩:=hc j c hj
  exact⟨h.S _ _ h5,by rw[h.cell _ _ h5];exact h6,h7.keep h.S h.cell⟩
 |.xo g t,⟨hm,hv,Hc⟩=>⟨h.M _ hm,by rw[h.τ g hm];exact hv,Hc⟩
 |.xC g i t off,⟨hm,hi,b,cap,n,h1,h2,h3,h4⟩=>⟨h.M _ hm,(h.den i hi).2,b,cap,n,by rw[h.τ g hm];exact h1,by rw[(h.den i hi).1];exact h2,by rw[(h.den i hi).1];exact h3,by rw[(h.den i hi).1];exact h4⟩
 |.Hp id,⟨hm,hv⟩=>⟨h.M _ hm,by rw[h.β id hm];exact hv⟩
 |.L1,hv=>hv
 |.xD ..,hv=>hv.elim
theorem lA.later(h:dT C w G C' w' G'){l:List SC}{vs:List Value}(hr:lA C w G l vs):lA C' w' G' l vs:=
 ⟨hr.1,fun i c v h1 h2=>(hr.2 i c v h1 h2).later h⟩
theorem nJ.later(h:dT C w G C' w' G'){x:Bool×List SC}(hr:nJ C w G x v):nJ C' w' G' x v:=by
 unfold nJ at*
 split
 ·rename_i hx;rw[if_pos hx]at hr;obtain⟨vs,h1,h2⟩:=hr;exact⟨vs,h1,h2.later h⟩
 ·rename_i hx;rw[if_neg hx]at hr;obtain⟨c,h1,h2⟩:=hr;exact⟨c,h1,h2.later h⟩
theorem Ab.later(h:dT C w G C' w' G'): ∀{s:SV},Ab C w G s v→Ab C' w' G' s v
 |.one _,hr=>tJ.later h hr
 |.agg _,⟨vs,h1,h2⟩=>⟨vs,h1,h2.later h⟩
 |.fx _,⟨vs,h1,h2,h3⟩=>⟨vs,h1,h2,fun i x u hx hu=>(h3 i x u hx hu).later h⟩
theorem dT.refl(C:Cx)(w:World)(G:Gh):dT C w G C w G:=⟨fun _ h=>⟨rfl,h⟩,fun _ h=>h,fun _ _ h=>h,fun _ _ _=>rfl,fun _ _=>rfl,fun _ _=>rfl⟩
theorem dT.trans{C'':Cx}{BE:World}{G'':Gh}(h:dT C w G C' w' G')(k:dT C' w' G' C'' BE G''):dT C w G C'' BE G'' where
 den e he:=by obtain⟨h1,h2⟩:=h.den e he;obtain⟨h3,h4⟩:=k.den e h2;exact⟨h3.trans h1,h4⟩
 M i hi:=k.M i (h.M i hi)
 S b o hs:=k.S b o (h.S b o hs)
 cell b o hs:=(k.cell b o (h.S b o hs)).trans (h.cell b o hs)
 β i hi:=(k.β i (h.M i hi)).trans (h.β i hi)
 τ g hg:=(k.τ g (h.M _ hg)).trans (h.τ g hg)
theorem cH.ko{w:World}{S:bU}{d:D}{t:Ty}(h:cH w S v d)(ht:Has t d)(hs:t.scalar=true):v.oneCell'=true:=by
 cases h<;>first
  |rfl
  |(cases t<;>simp[Ty.scalar]at hs<;>simp[dA,dz,oa,bK,jH,m9,mo]at ht)
theorem tJ.ko{c:SC}(h:tJ C w G c v)(hs:c.scalar=true):v.oneCell'=true:=by
 cases c with
 |iW e t=>exact h.2.1.ko h.2.2 hs
 |po t=>simp only[tJ]at h;subst h;rfl
 |own g e t=>exact h.2.2.1.ko h.2.2.2.1 rfl
 |clip e t=>exact h.2.1.ko h.2.2.1 rfl
 |r9 id off=>obtain⟨_,rfl⟩:=h;rfl
 |C7 l i t off=>obtain⟨_,_,b,o,u,rfl,_⟩:=h;rfl
 |CX e fs off=>obtain⟨_,b,l,u,_,_,rfl,_⟩:=h;rfl
 |xo g t=>obtain⟨_,_,a,n,cap,rfl⟩:=h;rfl
 |xC g i t off=>obtain⟨_,_,b,cap,n,_,_,_,rfl⟩:=h;rfl
 |Hp id=>obtain⟨_,rfl⟩:=h;rfl
 |L1=>simp only[tJ]at h;rcases h with rfl|rfl<;>rfl
 |xD e kt T=>exact h.elim
theorem cH.UK{w:World}{S:bU}{d:D}{fs:Ty}(h:cH w S v d)(ht:Has (.agg fs) d): ∃l:List D,d= .agg l∧dK fs l∧ ∃cs:List Value,v= .agg cs.toArray∧cs.length=l.length∧
  ∀(i:Nat) u c,cs[i]? =some u→l[i]? =some c→cH w S u c:=by
 obtain⟨l,rfl,hl⟩:=eN.1 ht
 obtain⟨cs,h1,h2,h3⟩:=h.Ip
 exact⟨l,rfl,hl,cs,h1,h2,h3⟩
end
def kY(P:Program)(C:Cx)(w:World)(G:Gh)(b:Nat)(cs:List SC):Prop:=
 match mapOf cs with
 |some (e,kt,T)=>e.lt C.N=true∧Has (.list kt) (den C.ρ e)∧yN P w b T kt (den C.ρ e).aV
 |none=> ∃(vs:List Value) (T:TypeId),w.heap[b]? =some (.cells vs.toArray T (0,0))∧lA C w G cs vs
theorem kY.cells{P:Program}{C:Cx}{w:World}{G:Gh}{b:Nat}{cs:List SC}(h:kY P C w G b cs)(hm:mapOf cs=none): ∃(vs:List Value) (T:TypeId),w.heap[b]? =some (.cells vs.toArray T (0,0))∧lA C w G cs vs:=by
 unfold kY at h;rw[hm]at h;exact h
theorem kY.mk{P:Program}{C:Cx}{w:World}{G:Gh}{b:Nat}{cs:List SC}{vs:List Value}{T:TypeId}(h:w.heap[b]? =some (.cells vs.toArray T (0,0)))(hr:lA C w G cs vs):kY P C w G b cs:=by
 unfold kY
 split
 ·rename_i e kt T' hm
  unfold mapOf at hm
  split at hm
  ·cases hl:vs with
   |nil=>have:=hr.1;rw[hl]at this;simp at this
   |cons v G4=>exact(hr.2 0 _ v rfl (by rw[hl];rfl)).elim
  ·cases hm
 ·exact⟨vs,T,h,hr⟩
theorem kY.later{P:Program}{C C':Cx}{w w':World}{G G':Gh}{b:Nat}{cs:List SC}(cp:dT C w G C' w' G')(h:kY P C w G b cs)(hb:w'.heap[b]? =w.heap[b]?):kY P C' w' G' b cs:=by
 unfold kY at*
 split
 ·rename_i e kt T hm
  rw[hm]at h
  obtain⟨h1,h2,h3⟩:=h
  obtain⟨d1,d2⟩:=cp.den e h1
  exact⟨d2,by rw[d1];exact h2,by rw[d1];exact h3.congr hb⟩
 ·rename_i hm
  rw[hm]at h
  obtain⟨vs,T,h1,h2⟩:=h
  exact⟨vs,T,by rw[hb];exact h1,h2.later cp⟩
theorem kY.lt{P:Program}{C:Cx}{w:World}{G:Gh}{b:Nat}{cs:List SC}(h:kY P C w G b cs):b<w.heap.size:=by
 unfold kY at h
 split at h
 ·exact h.2.2.lt
 ·obtain⟨vs,T,h1,_⟩:=h
  exact(aK.1 h1).1
structure j7(C:Cx)(w:World)(base:Nat)(G:Gh)(g:Tag)(e:E)(T:TypeId)(t:Ty):Prop where
 m:C.M g.1
 lt:e.lt C.N=true
 has:Has (.list t) (den C.ρ e)
 own: ∃xs l,den C.ρ e= .list l∧w.ownsRow base T t.cells.length (G.τ g) l.length xs∧(∀b,(G.τ g).ownBlock=some b→ ∀o,G.S b o↔g.ex=false∧o<xs.length)∧
  ∀(i:Nat) d (j:Nat) v c,l[i]? =some d→d.cells[j]? =some c→xs[i*t.cells.length+j]? =some v→cH w G.S v c
structure iu where
 kJ:bU
 mu:Nat→Prop
 si:Nat→Option Nat
 fr:Prop
 wz:Prop
 prog:Program:=default
 dfs:List Deferred:=[]
structure hU(mu:Nat→Prop)(w w':World):Prop where
 os:w'.os=w.os
 tape:w'.tape=w.tape
 output:w'.output=w.output
 size:w.heap.size≤w'.heap.size
 block: ∀k,k<w.heap.size→ ¬mu k→w'.heap[k]? =w.heap[k]?
theorem hU.refl(mu:Nat→Prop)(w:World):hU mu w w:=⟨rfl,rfl,rfl,bn _,fun _ _ _=>rfl⟩
theorem hU.trans{mu:Nat→Prop}{a b c:World}(h:hU mu a b)(k:hU mu b c):hU mu a c:=
 ⟨k.os.trans h.os,k.tape.trans h.tape,k.output.trans h.output,aR h.size k.size,fun i hi hm=>(k.block i (ar hi h.size) hm).trans (h.block i hi hm)⟩
theorem hU.of{mu:Nat→Prop}{w w':World}(h:Below w.heap.size w w'):hU mu w w':=⟨h.os,h.tape,h.output,h.size,fun k hk _=>h.block k hk⟩
theorem hU.to{mu:Nat→Prop}{w w':World}(h:hU mu w w')(hm: ∀b,¬mu b):Below w.heap.size w w':=⟨h.os,h.tape,h.output,h.size,fun k hk=>h.block k hk (hm k)⟩
theorem hU.alloc{mu:Nat→Prop}{a w:World}(h:hU mu a w)(o:Obj):hU mu a (w.alloc o):=
 h.trans ⟨rfl,rfl,rfl,by simp,fun k hk _=>Below.heap_alloc _ _ _ hk⟩
theorem hU.drew{mu:Nat→Prop}{a w:World}(h:hU mu a w):hU mu a {w with drawn:=w.drawn+1}:=⟨h.os,h.tape,h.output,h.size,h.block⟩
def kA(w0:World)(S0:iu)(b:Nat):Prop:=w0.heap.size≤b∨S0.mu b
def Mi(w0:World)(S0:iu)(b:Nat):Prop:=w0.heap.size≤b∨S0.mu b∧ ∃i,S0.si i=some b
def oJ(X:Nat→Prop):Value→Prop
 |.int _ _=>True
 |.bool _=>True
 |.string _=>True
 |.slice a n _=>n=0∨ ∃b o,a=some ⟨b,o,none⟩∧X b
 |_=>False
theorem oJ.mono{X Y:Nat→Prop}(h: ∀b,X b→Y b){v:Value}(hv:oJ X v):oJ Y v:=by
 cases v<;>first
  |exact hv
  |(rcases hv with hv|⟨b,o,h1,h2⟩
    ·exact .inl hv
    ·exact .inr ⟨b,o,h1,h b h2⟩)
def UL(z:Nat→Prop)(w:World)(S:bU)(X:Nat→Prop):Prop:= ∀b,X b→z b∧(∃o,S b o)∧(∃cur T,w.heap[b]? =some (.cells cur T (0,0)))∧ ∀o v,S b o→w.cell? ⟨b,o,none⟩=some v→oJ X v
def Cm(z:Nat→Prop)(w:World)(S:bU)(b:Nat):Prop:= ∃X,UL z w S X∧X b
def Cl(z:Nat→Prop)(w:World)(S:bU)(v:Value):Prop:= ∀a n cap,v= .slice a n cap→oJ (Cm z w S) v
theorem Cm.set(z:Nat→Prop)(w:World)(S:bU):UL z w S (Cm z w S):=by
 rintro b ⟨X,hX,hb⟩
 obtain⟨h1,h2,h4,h3⟩:=hX b hb
 exact⟨h1,h2,h4,fun o v hs hc=>(h3 o v hs hc).mono fun b hb=>⟨X,hX,hb⟩⟩
theorem Cm.mono{z:Nat→Prop}{w w':World}{S S':bU}(hh: ∀b o,S b o→w'.heap[b]? =w.heap[b]?)(hS: ∀b o,S b o→S' b o)(jN: ∀b o,S' b o→(∃o',S b o')→S b o){b:Nat}(h:Cm z w S b):Cm z w' S' b:=by
 obtain⟨X,hX,hb⟩:=h
 refine⟨X,fun b' ju=> ?_,hb⟩
 obtain⟨h1,⟨o1,h2⟩,h4,h3⟩:=hX b' ju
 refine⟨h1,⟨o1,hS _ _ h2⟩,by rw[hh _ _ h2];exact h4,fun o v hs Hh=> ?_⟩
 have uf:=jN b' o hs ⟨o1,h2⟩
 exact h3 o v uf (by rw[←Hh];simp only[World.cell?,hh _ _ uf])
theorem Cl.mono{z:Nat→Prop}{w w':World}{S S':bU}(hh: ∀b o,S b o→w'.heap[b]? =w.heap[b]?)(hS: ∀b o,S b o→S' b o)(jN: ∀b o,S' b o→(∃o',S b o')→S b o){v:Value}(h:Cl z w S v):Cl z w' S' v:=
 fun a n cap hv=>(h a n cap hv).mono fun _ hb=>hb.mono hh hS jN
theorem Cl.ajb{z z':Nat→Prop}{w:World}{S:bU}{v:Value}(h:Cl z w S v)(hz: ∀b,z b→z' b):Cl z' w S v:=fun a n cap hv=>(h a n cap hv).mono fun b hb=>by
 obtain⟨X,hX,hb⟩:=hb
 exact⟨X,fun b' ju=>by obtain⟨h1,h2,h3,h4⟩:=hX b' ju;exact⟨hz b' h1,h2,h3,h4⟩,hb⟩
theorem Cl.nilIface{z:Nat→Prop}{w:World}{S:bU}:Cl z w S .nilIface:=fun _ _ _ h=>by cases h
structure fp(w0:World)(S0:iu)(C:Cx)(G:Gh)(σ:St)(w:World):Prop where
 below:hU S0.mu w0 w
 kW: ∀b o,S0.kJ b o→G.S b o
 keep: ∀b o,S0.kJ b o→w.cell? ⟨b,o,none⟩=w0.cell? ⟨b,o,none⟩
 si: ∀i b,S0.si i=some b→C.M i∧G.β i=b
 mQ: ∀i b,S0.si i=some b→True
 dO: ∀b o,G.S b o→b<w.heap.size
 iN: ∀b o,G.S b o→S0.kJ b o∨kA w0 S0 b
 pb: ∀id x,σ.hp id=some x→C.M id
 box: ∀id ro cs,σ.hp id=some (ro,cs)→Mi w0 S0 (G.β id)∧(cs.all SC.scalar=true)∧kY S0.prog C w G (G.β id) cs∧
  (if ro then∀o,o<cs.length→G.S (G.β id) o else∀o,¬G.S (G.β id) o)
 inj: ∀i j x y,σ.hp i=some x→σ.hp j=some y→G.β i=G.β j→i=j
 own: ∀g e T t,σ.live g=some (e,T,t)→j7 C w 0 G g e T t
 gS: ∀g x b,σ.live g=some x→(G.τ g).ownBlock=some b→kA w0 S0 b
 kM: ∀g g' x y b,σ.live g=some x→σ.live g'=some y→(G.τ g).ownBlock=some b→(G.τ g').ownBlock=some b→g=g'
 eV: ∀g id x y b,σ.live g=some x→σ.hp id=some y→(G.τ g).ownBlock=some b→b≠G.β id
 fresh:S0.fr→ ∀g,Cl (kA w0 S0) w G.S (G.τ g)
 wz:S0.wz→ ∀b o,G.S b o→ ∃cur T,w.heap[b]? =some (.cells cur T (0,0))
theorem fp.aeG{w0:World}{S0:iu}{C:Cx}{G:Gh}{σ:St}{w:World}(h:fp w0 S0 C G σ w){b:Nat}(hb:Mi w0 S0 b):kA w0 S0 b:=by
 rcases hb with hb|⟨hm,_⟩
 ·exact .inl hb
 ·exact .inr hm
def jO(C:Cx)(w:World)(G:Gh)(tm:Nat→Option (dI×SV))(a:Act):Prop:=
 ∀t c s,tm t=some (c,s)→ ∃v,a.tmps[t]? =some v∧(∀x∈c,x.1.lt C.N=true)∧s.lt C.N=true∧(if aU C.ρ c then Ab C w G s v else v=undef)
structure iq(n:Nat)(w0:World)(S0:iu)(C:Cx)(G:Gh)(σ:St)(a:Act)(w:World):Prop where
 m:fp w0 S0 C G σ w
 t:jO C w G σ.tm a
 sz:a.tmps.size=n
 defers:a.defers=S0.dfs
theorem Li{C C':Cx}{w w':World}{G G':Gh}(h:dT C w G C' w' G'){c:dI}(hc: ∀x∈c,x.1.lt C.N=true):aU C'.ρ c=aU C.ρ c:=by
 unfold aU
 rw[dB,cn,cn]
 constructor
 ·intro H x hx
  rw[←(h.den x.1 (hc x hx)).1];exact H x hx
 ·intro H x hx
  rw[(h.den x.1 (hc x hx)).1];exact H x hx
theorem SC.uZ{C C':Cx}{w w':World}{G G':Gh}(h:dT C w G C' w' G'){c:SC}(hc:c.lt C.N=true):c.lt C'.N=true:=by
 cases c<;>simp only[SC.lt,bc]at hc⊢
 all_goals first|trivial|exact(h.den _ hc).2|exact⟨(h.den _ hc.1).2,(h.den _ hc.2).2⟩
theorem SV.uZ{C C':Cx}{w w':World}{G G':Gh}(h:dT C w G C' w' G'){s:SV}(hs:s.lt C.N=true):s.lt C'.N=true:=by
 cases s<;>simp only[SV.lt,cn]at hs⊢
 ·exact SC.uZ h hs
 ·exact fun c hc=>SC.uZ h (hs c hc)
 ·exact fun x hx c hc=>SC.uZ h (hs x hx c hc)
theorem jO.later{C C':Cx}{w w':World}{G G':Gh}{tm:Nat→Option (dI×SV)}{a:Act}(h:dT C w G C' w' G')(ht:jO C w G tm a):jO C' w' G' tm a:=by
 intro t c s hs
 obtain⟨v,h1,h2,h0,h3⟩:=ht t c s hs
 refine⟨v,h1,fun x hx=>(h.den _ (h2 x hx)).2,SV.uZ h h0,?_⟩
 rw[Li h h2]
 split
 ·rename_i hc;rw[if_pos hc]at h3;exact h3.later h
 ·rename_i hc;rw[if_neg hc]at h3;exact h3
theorem jO.put{C:Cx}{w:World}{G:Gh}{tm:Nat→Option (dI×SV)}{a:Act}(ht:jO C w G tm a)(d:Option Nat)(v:Value)(c:dI)(s:SV)
  (hc: ∀x∈c,x.1.lt C.N=true) (hs0:s.lt C.N=true) (hv:if aU C.ρ c then Ab C w G s v else v=undef) (iY: ∀i,d=some i→i<a.tmps.size):
  jO C w G (match d with|some i=>fU tm i (some (c,s))|none=>tm) (a.put d v):=by
 cases d with
 |none=>exact ht
 |some i=>
  intro t c' s' hs
  by_cases XA:t=i
  ·subst XA
   simp only[eB,ae,ai]at hs
   obtain⟨rfl,rfl⟩:=hs
   exact⟨v,by simp[Act.put,iY t rfl],hc,hs0,hv⟩
  ·simp only[fJ _ _ XA]at hs
   obtain⟨u,h1,h2⟩:=ht t c' s' hs
   exact⟨u,by simp only[Act.put];rw[Array.getElem?_setIfInBounds_ne (Ne.symm XA)];exact h1,h2⟩
def Cx.add(C:Cx)(p:Nat):Cx:={C with M:=fun i=>C.M i∨i=p}
section
variable{C:Cx}{w w0:World}{G:Gh}{S0:iu}{σ:St}{p:Nat}
theorem dT.pV(C:Cx)(w:World)(G:Gh)(p:Nat):dT C w G (C.add p) w G:=
 ⟨fun _ h=>⟨rfl,h⟩,fun _ h=>.inl h,fun _ _ h=>h,fun _ _ _=>rfl,fun _ _=>rfl,fun _ _=>rfl⟩
theorem j7.rep{base:Nat}{g:Tag}{e:E}{T:TypeId}{t:Ty}(h:j7 C w base G g e T t)(iY:0<t.cells.length)(hex:g.ex=false:=by rfl):cH w G.S (G.τ g) (den C.ρ e):=by
 obtain⟨xs,l,hd,dm,hS,hr⟩:=h.own
 rw[hd]
 obtain⟨hl,hh⟩:=dm
 rcases hh with⟨hv,hn⟩|⟨b,cap,cur,hv,hb,hg,zZ,Jg,kP,xf⟩
 ·have:l=[] :=au hn
  subst this
  rw[hv];exact .nil none 0
 ·have iR:=h.has
  rw[hd]at iR
  obtain⟨l',lD,_,hx⟩:=bK.1 iR
  injection lD with lD;subst lD
  by_cases fY:l=[]
  ·subst fY;rw[hv];exact .nil _ cap
  ·rw[hv]
   refine .list b 0 cap t.cells.length xs l iY fY zZ hl (fun i hi=> ?_) (fun i v hi=> ?_) (fun i d kO=> ?_) hr
   ·rw[ay];exact(hS b (by rw[hv];rfl) i).2 ⟨hex,hi⟩
   ·rw[ay,cell_of_row w b i cur T (0,0) hg]
    rw[←xf,aG]at hi
    split at hi
    ·simpa using hi
    ·cases hi
   ·exact(cN (hx d (ca kO))).1
theorem j7.later{C':Cx}{w':World}{G':Gh}{base:Nat}{g:Tag}{e:E}{T:TypeId}{t:Ty}(cp:dT C w G C' w' G')(h:j7 C w base G g e T t)
  (fZ: ∀b,(G.τ g).ownBlock=some b→w'.heap[b]? =w.heap[b]?) (hS: ∀b,(G.τ g).ownBlock=some b→ ∀o,G'.S b o→G.S b o):j7 C' w' base G' g e T t:=by
 obtain⟨hd,bP⟩:=cp.den e h.lt
 have iI:=cp.τ g h.m
 refine⟨cp.M _ h.m,bP,hd▸h.has,?_⟩
 obtain⟨xs,l,hl,dm,mU,hr⟩:=h.own
 refine⟨xs,l,hd.trans hl,?_,?_,fun i d j v c h1 h2 h3=>(hr i d j v c h1 h2 h3).keep cp.S cp.cell⟩
 ·rw[iI]
  refine⟨dm.1,?_⟩
  rcases dm.2 with hn|⟨b,cap,cur,hv,hb,hg,rest⟩
  ·exact .inl hn
  ·exact .inr ⟨b,cap,cur,hv,hb,by rw[fZ b (by rw[hv];rfl)];exact hg,rest⟩
 ·intro b hb o
  rw[iI]at hb
  rw[←mU b hb o]
  exact⟨hS b hb o,cp.S b o⟩
theorem j7.hY{base:Nat}{g:Tag}{e:E}{T:TypeId}{t:Ty}(h:j7 C w base G g e T t): ∀b,(G.τ g).ownBlock=some b→base≤b∧b<w.heap.size:=by
 obtain⟨xs,l,_,dm,_⟩:=h.own
 exact dm.lt
theorem fp.pV(h:fp w0 S0 C G σ w)(p:Nat):fp w0 S0 (C.add p) G σ w where
 below:=h.below
 kW:=h.kW
 keep:=h.keep
 si i b hi:=⟨.inl (h.si i b hi).1,(h.si i b hi).2⟩
 mQ:=h.mQ
 dO:=h.dO
 iN:=h.iN
 pb id x hx:=.inl (h.pb id x hx)
 box id ro cs hx:=by
  obtain⟨h1,h2,h3,h5⟩:=h.box id ro cs hx
  exact⟨h1,h2,h3.later (dT.pV C w G p) rfl,h5⟩
 inj:=h.inj
 own g e T t hx:=(h.own g e T t hx).later (dT.pV C w G p) (fun _ _=>rfl) (fun _ _ _ h=>h)
 gS:=h.gS
 kM:=h.kM
 eV:=h.eV
 fresh:=h.fresh
 wz:=h.wz
theorem fp.nY{C':Cx}{w':World}{G':Gh}(h:fp w0 S0 C G σ w)(cp:dT C w G C' w' G'): ∀b o,S0.kJ b o→w'.cell? ⟨b,o,none⟩=w0.cell? ⟨b,o,none⟩:=
 fun b o hs=>(cp.cell b o (h.kW b o hs)).trans (h.keep b o hs)
theorem fp.pJ{C':Cx}{w':World}{G':Gh}(h:fp w0 S0 C G σ w)(cp:dT C w G C' w' G'): ∀i b,S0.si i=some b→C'.M i∧G'.β i=b:=
 fun i b hi=>⟨cp.M i (h.si i b hi).1,(cp.β i (h.si i b hi).1).trans (h.si i b hi).2⟩
theorem fp.oW{C':Cx}{w':World}{G':Gh}(h:fp w0 S0 C G σ w)(cp:dT C w G C' w' G')(iI:G'.τ=G.τ)(hh: ∀b o,G.S b o→w'.heap[b]? =w.heap[b]?)(jN: ∀b o,G'.S b o→(∃o',G.S b o')→G.S b o):
  S0.fr→ ∀g,Cl (kA w0 S0) w' G'.S (G'.τ g):=by
 intro hf g
 rw[iI]
 exact(h.fresh hf g).mono hh cp.S jN
theorem fp.vX(h:fp w0 S0 C G σ w):w0.heap.size≤w.heap.size:=h.below.size
theorem fp.mZ(h:fp w0 S0 C G σ w){id:Nat}{x:Bool×List SC}(hx:σ.hp id=some x):G.β id<w.heap.size:=by
 obtain⟨_,_,h3,_⟩:=h.box id x.1 x.2 hx
 exact h3.lt
theorem fp.alloc(h:fp w0 S0 C G σ w)(hp: ¬C.M p){cs:List SC}{vs:List Value}(hr:lA C w G cs vs)(mf:cs.all SC.scalar=true)(T:TypeId):
  dT C w G (C.add p) (w.alloc (.cells vs.toArray T)) {G with β:=fU G.β p w.heap.size}∧
  fp w0 S0 (C.add p) {G with β:=fU G.β p w.heap.size} {σ with hp:=fU σ.hp p (some (false,cs))} (w.alloc (.cells vs.toArray T)):=by
 have cp:dT C w G (C.add p) (w.alloc (.cells vs.toArray T)) {G with β:=fU G.β p w.heap.size}:=
  ⟨fun _ h=>⟨rfl,h⟩,fun _ h=>.inl h,fun _ _ h=>h,fun b o hs=>World.cell?_alloc_lt w _ _ (h.dO b o hs),
   fun i hi=>fJ _ _ (fun e=>hp (e▸hi)),fun _ _=>rfl⟩
 refine⟨cp,?_⟩
 have hb:=h.vX
 refine⟨h.below.alloc _,h.kW,h.nY cp,h.pJ cp,h.mQ,fun b o hs=>by simpa using Nat.lt_succ_of_lt (h.dO b o hs),h.iN,?_,?_,?_,?_,h.gS,?_,?_,h.oW cp rfl (fun b o hs=>Below.heap_alloc w _ _ (h.dO b o hs)) (fun _ _ h _=>h),fun hz b o hs=>by
  obtain⟨cur,T,kR⟩:=h.wz hz b o hs
  exact⟨cur,T,(Below.heap_alloc w _ _ (h.dO b o hs)).trans kR⟩⟩
 ·intro id x hx
  by_cases fD:id=p
  ·exact .inr fD
  ·simp only[fJ _ _ fD]at hx;exact .inl (h.pb id x hx)
 ·intro id ro tI hx
  by_cases fD:id=p
  ·subst fD
   simp only[eB,ae,ai]at hx
   obtain⟨rfl,rfl⟩:=hx
   refine⟨by simp only[eB];exact .inl hb,mf,kY.mk (vs:=vs) (T:=T) ?_ (hr.later cp),?_⟩
   ·simp only[eB];exact heap_alloc_new w _
   ·simp only[eB,ak,if_false]
    intro o ho
    exact absurd (h.dO _ _ ho) (by omega)
  ·simp only[fJ _ _ fD]at hx
   obtain⟨h1,h2,h3,h5⟩:=h.box id ro tI hx
   simp only[fJ _ _ fD]
   exact⟨h1,h2,h3.later cp (Below.heap_alloc w _ _ (h.mZ hx)),h5⟩
 ·intro i j x y hi hj he
  by_cases hip:i=p
  ·by_cases hjp:j=p
   ·rw[hip,hjp]
   ·subst hip
    simp only[eB,fJ _ _ hjp]at he hj
    have:=h.mZ hj
    omega
  ·by_cases hjp:j=p
   ·subst hjp
    simp only[eB,fJ _ _ hip]at he hi
    have:=h.mZ hi
    omega
   ·simp only[fJ _ _ hip,fJ _ _ hjp]at he hi hj
    exact h.inj i j x y hi hj he
 ·intro g e T' t hx
  have ho:=h.own g e T' t hx
  exact ho.later cp (fun b ju=>Below.heap_alloc w _ _ (ho.hY b ju).2) (fun _ _ _ h=>h)
 ·exact h.kM
 ·intro g id x y b hx hy ju
  by_cases fD:id=p
  ·subst fD
   simp only[eB]
   have:=((h.own g x.1 x.2.1 x.2.2 hx).hY b ju).2
   omega
  ·simp only[fJ _ _ fD]at hy⊢
   exact h.eV g id x y b hx hy ju
theorem fp.afG(h:fp w0 S0 C G σ w){id:Nat}{cs0 cs:List SC}(fD:σ.hp id=some (false,cs0))(RL:mapOf cs0=none){vs:List Value}(hr:lA C w G cs vs)(mf:cs.all SC.scalar=true):
  dT C w G C (w.setRow (G.β id) vs.toArray) G∧fp w0 S0 C G {σ with hp:=fU σ.hp id (some (false,cs))} (w.setRow (G.β id) vs.toArray):=by
 obtain⟨hb,_,fZ,E1⟩:=h.box id false cs0 fD
 obtain⟨vs0,T,hg,_⟩:=fZ.cells RL
 simp only[ak,if_false]at E1
 have nP: ∀k,k≠G.β id→(w.setRow (G.β id) vs.toArray).heap[k]? =w.heap[k]? :=fun k hk=>setRow_other w _ k _ hk
 have cp:dT C w G C (w.setRow (G.β id) vs.toArray) G:=
  ⟨fun _ h=>⟨rfl,h⟩,fun _ h=>h,fun _ _ h=>h,fun b o hs=>bg (nP b (fun e=>E1 o (e▸hs))),fun _ _=>rfl,fun _ _=>rfl⟩
 refine⟨cp,?_⟩
 refine⟨?_,h.kW,h.nY cp,h.pJ cp,h.mQ,fun b o hs=>by simpa using h.dO b o hs,h.iN,?_,?_,?_,?_,h.gS,h.kM,?_,h.oW cp rfl (fun b o hs=>nP b (fun e=>E1 o (e▸hs))) (fun _ _ h _=>h),fun hz b o hs=>by
  obtain⟨cur,T,kR⟩:=h.wz hz b o hs
  exact⟨cur,T,(nP b (fun e=>E1 o (e▸hs))).trans kR⟩⟩
 ·refine⟨h.below.os,h.below.tape,h.below.output,by simpa using h.below.size,fun k hk hm=>(nP k ?_).trans (h.below.block k hk hm)⟩
  rintro rfl
  rcases h.aeG hb with hb|hb
  ·omega
  ·exact hm hb
 ·intro i x hx
  by_cases hi:i=id
  ·subst hi;exact h.pb _ _ fD
  ·simp only[fJ _ _ hi]at hx;exact h.pb i x hx
 ·intro i ro tI hx
  by_cases hi:i=id
  ·subst hi
   simp only[eB,ae,ai]at hx
   obtain⟨rfl,rfl⟩:=hx
   refine⟨hb,mf,kY.mk (vs:=vs) (T:=T) (setRow_heap w _ _ _ T _ hg) (hr.later cp),?_⟩
   simp only[ak,if_false];exact E1
  ·simp only[fJ _ _ hi]at hx
   obtain⟨h1,h2,h3,h5⟩:=h.box i ro tI hx
   exact⟨h1,h2,h3.later cp (nP _ (fun e=>hi (h.inj _ _ _ _ hx fD e))),h5⟩
 ·intro i j x y hi hj he
  have Fl: ∀i x,(fU σ.hp id (some (false,cs))) i=some x→ ∃x',σ.hp i=some x':=by
   intro i x hx
   by_cases N7:i=id
   ·exact⟨_,N7▸fD⟩
   ·exact⟨x,by rw[fJ _ _ N7]at hx;exact hx⟩
  obtain⟨x',lv⟩:=Fl i x hi
  obtain⟨y',om⟩:=Fl j y hj
  exact h.inj i j x' y' lv om he
 ·intro g e T' t hx
  have ho:=h.own g e T' t hx
  exact ho.later cp (fun b ju=>nP b (h.eV g id _ _ b hx fD ju)) (fun _ _ _ h=>h)
 ·intro g i x y b hx hy ju
  by_cases N7:i=id
  ·subst N7;exact h.eV g i x _ b hx fD ju
  ·simp only[fJ _ _ N7]at hy;exact h.eV g i x y b hx hy ju
theorem fp.freeze(h:fp w0 S0 C G σ w){id:Nat}{ro:Bool}{cs:List SC}(fD:σ.hp id=some (ro,cs))(RL:mapOf cs=none):
  ∃G',dT C w G C w G'∧fp w0 S0 C G' {σ with hp:=fU σ.hp id (some (true,cs))} w∧(∀o,o<cs.length→G'.S (G.β id) o)∧G'.β=G.β∧G'.τ=G.τ:=by
 obtain⟨hb,mf,fZ,E1⟩:=h.box id ro cs fD
 obtain⟨vs0,T,hg,Xd⟩:=fZ.cells RL
 have bP:=h.mZ fD
 refine⟨{G with S:=fun b o=>G.S b o∨(b=G.β id∧o<cs.length)},?_,?_,fun o ho=>.inr ⟨rfl,ho⟩,rfl,rfl⟩
 all_goals have cp:dT C w G C w {G with S:=fun b o=>G.S b o∨(b=G.β id∧o<cs.length)}:=
  ⟨fun _ h=>⟨rfl,h⟩,fun _ h=>h,fun _ _ h=>.inl h,fun _ _ _=>rfl,fun _ _=>rfl,fun _ _=>rfl⟩
 ·exact cp
 refine⟨h.below,fun b o hs=>.inl (h.kW b o hs),h.keep,h.si,h.mQ,?_,?_,?_,?_,?_,?_,h.gS,h.kM,?_,h.oW cp rfl (fun _ _ _=>rfl) ?_,fun hz b o hs=>by
  rcases hs with hs|⟨rfl,_⟩
  ·exact h.wz hz b o hs
  ·exact⟨_,_,hg⟩⟩
 rotate_right
 ·rintro b o (hs|⟨rfl,ho⟩) ⟨o',zY⟩
  ·exact hs
  ·cases ro with
   |true=>simp only[if_true]at E1;exact E1 o ho
   |false=>simp only[ak,if_false]at E1;exact absurd zY (E1 o')
 ·rintro b o (hs|⟨rfl,_⟩)
  ·exact h.dO b o hs
  ·exact bP
 ·rintro b o (hs|⟨rfl,_⟩)
  ·exact h.iN b o hs
  ·exact .inr (h.aeG hb)
 ·intro i x hx
  by_cases hi:i=id
  ·subst hi;exact h.pb _ _ fD
  ·simp only[fJ _ _ hi]at hx;exact h.pb i x hx
 ·intro i Ji tI hx
  by_cases hi:i=id
  ·subst hi
   simp only[eB,ae,ai]at hx
   obtain⟨rfl,rfl⟩:=hx
   exact⟨hb,mf,fZ.later cp rfl,by simp only[if_true];exact fun o ho=>.inr ⟨trivial,ho⟩⟩
  ·simp only[fJ _ _ hi]at hx
   obtain⟨h1,h2,h3,h5⟩:=h.box i Ji tI hx
   refine⟨h1,h2,h3.later cp rfl,?_⟩
   cases Ji with
   |true=>simp only[if_true]at h5⊢;exact fun o ho=>.inl (h5 o ho)
   |false=>
    simp only[ak,if_false]at h5⊢
    rintro o (ho|⟨he,_⟩)
    ·exact h5 o ho
    ·exact hi (h.inj _ _ _ _ hx fD he)
 ·intro i j x y hi hj he
  have Fl: ∀i x,(fU σ.hp id (some (true,cs))) i=some x→ ∃x',σ.hp i=some x':=by
   intro i x hx
   by_cases N7:i=id
   ·exact⟨_,N7▸fD⟩
   ·exact⟨x,by rw[fJ _ _ N7]at hx;exact hx⟩
  obtain⟨x',lv⟩:=Fl i x hi
  obtain⟨y',om⟩:=Fl j y hj
  exact h.inj i j x' y' lv om he
 ·intro g e T' t hx
  have ho:=h.own g e T' t hx
  refine ho.later cp (fun _ _=>rfl) (fun b ju o hs=> ?_)
  rcases hs with hs|⟨rfl,_⟩
  ·exact hs
  ·exact absurd rfl (h.eV g id _ _ _ hx fD ju)
 ·intro g i x y b hx hy ju
  by_cases N7:i=id
  ·subst N7;exact h.eV g i x _ b hx fD ju
  ·simp only[fJ _ _ N7]at hy;exact h.eV g i x y b hx hy ju
theorem fp.atM(h:fp w0 S0 C G σ w){g:Tag}{e e':E}{T:TypeId}{t:Ty}(hg:σ.live g=some (e,T,t))(hex:g.ex=true){live':Tag→Option (E×TypeId×Ty)}
  (cJ: ∀g' x,live' g'=some x→(g'≠g∧σ.live g'=some x)∨(g'=g∧x=(e',T,t))) {b n cap:Nat} {cur row:Array Value} {l':List D}
  (iI:G.τ g= .slice (some ⟨b,0,none⟩) n cap) (kR:w.heap[b]? =some (.cells cur T (0,0))) (iY:row.size=cur.size)
  (Jt:e'.lt C.N=true) (aoB:den C.ρ e'= .list l') (hlen:l'.length=n) (iR:Has (.list t) (den C.ρ e'))
  (E0: ∀(i:Nat) d (j:Nat) v c,l'[i]? =some d→d.cells[j]? =some c→row[i*t.cells.length+j]? =some v→cH w G.S v c):
  dT C w G C (w.setRow b row) G∧fp w0 S0 C G {σ with live:=live'} (w.setRow b row):=by
 have cI:=h.own g e T t hg
 obtain⟨xs,l0,hd0,dm,hS,hr⟩:=cI.own
 have fX:(G.τ g).ownBlock=some b:=by rw[iI];rfl
 have hnS: ∀o,¬G.S b o:=fun o hs=>by
  have:=(hS b fX o).1 hs
  rw[hex]at this;exact Bool.noConfusion this.1
 have nP: ∀k,k≠b→(w.setRow b row).heap[k]? =w.heap[k]? :=fun k hk=>setRow_other w _ k _ hk
 have cp:dT C w G C (w.setRow b row) G:=
  ⟨fun _ h=>⟨rfl,h⟩,fun _ h=>h,fun _ _ h=>h,fun b' o hs=>bg (nP b' (fun e=>hnS o (e▸hs))),fun _ _=>rfl,fun _ _=>rfl⟩
 have hb:kA w0 S0 b:=h.gS g _ b hg fX
 have Fl: ∀g' x,live' g'=some x→ ∃y,σ.live g'=some y:=by
  intro g' x hx
  rcases cJ g' x hx with⟨_,h2⟩|⟨rfl,_⟩
  ·exact⟨_,h2⟩
  ·exact⟨_,hg⟩
 refine⟨cp,?_⟩
 refine⟨?_,h.kW,h.nY cp,h.pJ cp,h.mQ,fun b o hs=>by simpa using h.dO b o hs,h.iN,h.pb,?_,h.inj,?_,?_,?_,?_,h.oW cp rfl (fun b' o hs=>nP b' (fun e=>hnS o (e▸hs))) (fun _ _ h _=>h),fun hz b' o hs=>by
  obtain⟨ama,T',aoC⟩:=h.wz hz b' o hs
  exact⟨ama,T',(nP b' (fun e=>hnS o (e▸hs))).trans aoC⟩⟩
 ·refine⟨h.below.os,h.below.tape,h.below.output,by simpa using h.below.size,fun k hk hm=>(nP k ?_).trans (h.below.block k hk hm)⟩
  rintro rfl
  rcases hb with hb|hb
  ·omega
  ·exact hm hb
 ·intro i ro tI hx
  obtain⟨h1,h2,h3,h5⟩:=h.box i ro tI hx
  exact⟨h1,h2,h3.later cp (nP _ (Ne.symm (h.eV g i _ _ b hg hx fX))),h5⟩
 ·intro g' e1 T1 t1 hx
  rcases cJ g' _ hx with⟨fY,hl⟩|⟨rfl,hl⟩
  ·have ho:=h.own g' e1 T1 t1 hl
   exact ho.later cp (fun b' ju=>nP b' (fun e=>fY (h.kM g' g _ _ b' hl hg ju (e▸fX)))) (fun _ _ _ h=>h)
  ·simp only[ai]at hl
   obtain⟨rfl,rfl,rfl⟩:=hl
   obtain⟨nq,hh⟩:=dm
   rcases hh with⟨hv,_⟩|⟨b',HB,ama,hv,ju,PQ,zZ,Jg,kP,xf⟩
   ·rw[iI]at hv;cases hv
   ·rw[iI]at hv
    injection hv with FR Jo hv3
    injection FR with FR
    injection FR with FR
    subst FR;subst hv3
    rw[kR]at PQ
    injection PQ with PQ
    injection PQ with PQ
    subst PQ
    have Sc:n≤cap:=by omega
    have hle:n*t1.cells.length≤row.toList.length:=by
     simp only[gz];rw[iY,kP];exact az _ Sc
    have AU:(row.toList.take (n*t1.cells.length)).length=n*t1.cells.length:=by rw[bj];omega
    refine⟨cI.m,Jt,iR,row.toList.take (n*t1.cells.length),l',aoB,⟨by rw[AU,hlen],.inr ⟨b,cap,row,by rw[iI,hlen],ju,?_,by omega,Jg,by rw[iY];exact kP,by rw[hlen]⟩⟩,?_,?_⟩
    ·exact setRow_heap w _ _ _ _ _ kR
    ·intro b1 xA o
     have:b1=b:=by rw[fX]at xA;injection xA with xA;exact xA.symm
     subst this
     rw[hex]
     exact⟨fun hs=>(hnS o hs).elim,fun hs=>Bool.noConfusion hs.1⟩
    ·intro i d j v c h1 h2 h3
     refine(E0 i d j v c h1 h2 ?_).keep cp.S cp.cell
     rw[aG]at h3
     split at h3
     ·simpa using h3
     ·cases h3
 ·intro g' x b' hx ju
  obtain⟨y,hy⟩:=Fl g' x hx
  exact h.gS g' y b' hy ju
 ·intro g1 g2 x y b' hx hy xA xz
  obtain⟨x',lv⟩:=Fl g1 x hx
  obtain⟨y',om⟩:=Fl g2 y hy
  exact h.kM g1 g2 x' y' b' lv om xA xz
 ·intro g' id x y b' hx hy ju
  obtain⟨x',lv⟩:=Fl g' x hx
  exact h.eV g' id x' y b' lv hy ju
end
theorem gF(b o j:Nat):(⟨b,o,none⟩:Addr).add j=⟨b,o+j,none⟩:=by unfold Addr.add;split<;>simp_all
section
variable{P:Program}(w:World)
theorem jW(base:Nat)(t ty e:TypeId)(i:TypeInfo)(z:Value)(size:Nat)(ht:P.underlying t=some (.slice e))(hi:P.info? e=some i)(hz:i.zero=some z)
  (OC:i.size=size) (yl:z.cells.size=size)
  (v:Value) (n:Nat) (xs:List Value) (dm:w.ownsRow base e size v n xs)
  (A:Option Addr) (m c:Nat) (news:List Value) (hA:A=none→m=0) (hl:news.length=m*size)
  (rL: ∀a,A=some a→ ∀(j:Nat) u,news[j]? =some u→w.cell? (a.add j)=some u) (h1: ∀u∈news,u.oneCell'=true)
  (h63:n+m≤maxLen) (H5:(n+m)*i.bytes≤140737488355328) (ON:base≤w.heap.size):
  ∃v' w',(Builtin.append_ #[t,t] ty #[v,.slice A m c]).run P w= .ok v' w'∧w'.ownsRow base e size v' (n+m) (xs++news)∧
   ((v'.ownBlock=v.ownBlock∧w.grownBy w' v.ownBlock)∨(v'.ownBlock=some w.heap.size∧w.grownBy w' none)):=by
 subst OC
 have DE:n+m≤9223372036854775807:=by simp only[maxLen]at h63;omega
 have hlen:(xs++news).length=(n+m)*i.size:=by rw[an,dm.1,hl,cw]
 by_cases hm:m=0
 ·subst hm
  have hn:news=[] :=au (by simpa using hl)
  subst hn
  refine⟨v,w,?_,by simpa using dm,.inl ⟨rfl,⟨rfl,rfl,rfl,bn _,fun _ _ _=>rfl⟩⟩⟩
  rcases dm.2 with⟨rfl,rfl⟩|⟨g,cap,cur,rfl,_,_,zZ,_⟩
  ·cases A<;>simp[Builtin.append_,run_underlying ht,sizeOf,typeInfo,hi,Builtin.lenOf,Builtin.firstCells,loadCells,loadCellsFrom]
  ·cases A<;>simp[Builtin.append_,run_underlying ht,sizeOf,typeInfo,hi,Builtin.lenOf,Builtin.firstCells,zZ,storeCells,loadCells,loadCellsFrom]
 ·obtain⟨a,rfl⟩: ∃a,A=some a:=by
   cases A with
   |none=>exact absurd (hA rfl) hm
   |some a=>exact⟨a,rfl⟩
  have rL:=rL a rfl
  have grown: ∀(BQ:Nat),BQ<n+m→
    (w.drew.alloc (.cells (xs.toArray++news.toArray++Builtin.zeroCells z.cells (grownCap w (n+m) BQ e-(n+m))) e)).ownsRow base e i.size
     (.slice (some ⟨w.heap.size,0,none⟩) (n+m) (grownCap w (n+m) BQ e)) (n+m) (xs++news)∧
    w.grownBy (w.drew.alloc (.cells (xs.toArray++news.toArray++Builtin.zeroCells z.cells (grownCap w (n+m) BQ e-(n+m))) e)) none:=by
   intro BQ ho
   have ou:=grownCap_ge w (n+m) BQ e
   have Jg:grownCap w (n+m) BQ e≤maxLen:=grownCap_le_maxLen w (n+m) BQ e h63
   refine⟨⟨hlen,.inr ⟨w.heap.size,_,_,rfl,ON,heap_alloc_new w.drew _,ou,Jg,?_,?_⟩⟩,⟨rfl,rfl,rfl,by simp,fun k hk _=>heap_alloc_old w.drew _ k hk⟩⟩
   ·simp only[Array.size_append,cS,size_zeroCells,yl,dm.1,hl,←cw]
    congr 1
    omega
   ·simp only[Array.toList_append,ez]
    rw[←ez,←hlen]
    exact List.take_left
  rcases dm.2 with⟨rfl,rfl⟩|⟨g,cap,cur,rfl,hbg,hg,zZ,Jg,kP,xf⟩
  ·have hx:xs=[] :=au (by simpa using dm.1)
   subst hx
   have hr:=run_append_nil (P:=P) w t ty e i z ht hi hz a m c news hl rL (by omega) (by omega) (by have hb:=H5;simp only[ay]at hb;omega)
   have hgr:=grown 0 (by omega)
   simp only[ay,eI,Array.empty_append]at hgr⊢
   exact⟨_,_,hr,hgr.1,.inr ⟨rfl,hgr.2⟩⟩
  ·by_cases xg:n+m≤cap
   ·have lz:n*i.size+news.length≤cur.size:=by rw[hl,kP,←cw];exact az _ xg
    have hr:=run_append_room (P:=P) w t ty e i ht hi g n cap cur hg a m c news hl rL h1 xg lz
    refine⟨_,_,hr,⟨hlen,.inr ⟨g,cap,_,rfl,hbg,setRow_heap w g cur _ e _ hg,xg,Jg,?_,?_⟩⟩,.inl ⟨rfl,⟨rfl,rfl,rfl,by simp,fun k _ hk=>setRow_other w g k _ (fun e=>hk (by simp[Value.ownBlock,e]))⟩⟩⟩
    ·simp only[cS,an,bj,bF,gz]
     omega
    ·rw[xf,←hlen]
     exact List.take_left
   ·have holds: ∀(j:Nat) u,xs[j]? =some u→w.cell? ((⟨g,0,none⟩:Addr).add j)=some u:=dm.cells (g:=g) rfl
    have hr:=run_append_grow (P:=P) w t ty e i z ht hi hz ⟨g,0,none⟩ n cap xs dm.1 holds a m c news hl rL (by omega) (by omega) (growslice_fits (by omega) H5)
    have hgr:=grown cap (by omega)
    exact⟨_,_,hr,hgr.1,.inr ⟨rfl,hgr.2⟩⟩
end
section
variable{C:Cx}{w w' w0:World}{G:Gh}{S0:iu}{σ:St}{p:Nat}
theorem j7.mono{base Kc:Nat}{g:Tag}{e:E}{T:TypeId}{t:Ty}(h:j7 C w base G g e T t)(hb:Kc≤base):j7 C w Kc G g e T t:=by
 obtain⟨xs,l,hd,dm,Um⟩:=h.own
 refine⟨h.m,h.lt,h.has,xs,l,hd,⟨dm.1,?_⟩,Um⟩
 rcases dm.2 with hn|⟨b,cap,cur,hv,Sp,hg⟩
 ·exact .inl hn
 ·exact .inr ⟨b,cap,cur,hv,by omega,hg⟩
theorem fp.called(h:fp w0 S0 C G σ w)(hp: ¬C.M p){S':bU}{τ':Nat→Value}(lG:Below w.heap.size w w')(hS: ∀b o,G.S b o→S' b o)(bP: ∀b o,S' b o→b<w'.heap.size)
  (jN: ∀b o,S' b o→G.S b o∨w.heap.size≤b) (live':Tag→Option (E×TypeId×Ty)) (G':Gh)
  (hG:G'={S:=S',β:=G.β,τ:=fun g=>if g.1=p then τ' g.2 else G.τ g})
  (cJ: ∀g x,live' g=some x→(g.1≠p∧σ.live g=some x)∨(g.1=p∧j7 (C.add p) w' w.heap.size G' g x.1 x.2.1 x.2.2))
  (Fv: ∀j k x y b,live' (p,j)=some x→live' (p,k)=some y→(τ' j).ownBlock=some b→(τ' k).ownBlock=some b→j=k)
  (nk:S0.fr→ ∀j,Cl (kA w0 S0) w' S' (τ' j)) (mg: ¬S0.wz):
  dT C w G (C.add p) w' G'∧fp w0 S0 (C.add p) G' {σ with live:=live'} w':=by
 subst hG
 have fZ: ∀k,k<w.heap.size→w'.heap[k]? =w.heap[k]? :=lG.block
 have cp:dT C w G (C.add p) w' {S:=S',β:=G.β,τ:=fun g=>if g.1=p then τ' g.2 else G.τ g}:=
  ⟨fun _ h=>⟨rfl,h⟩,fun _ h=>.inl h,hS,fun b o hs=>bg (fZ b (h.dO b o hs)),fun _ _=>rfl,fun g hg=>if_neg (fun e=>hp (by rw[←e];exact hg))⟩
 refine⟨cp,?_⟩
 have hb:=h.vX
 refine⟨h.below.trans (.of lG),fun b o hs=>hS b o (h.kW b o hs),h.nY cp,h.pJ cp,h.mQ,bP,?_,fun id x hx=>.inl (h.pb id x hx),?_,h.inj,?_,?_,?_,?_,fun hf g=> ?_,fun h=>absurd h mg⟩
 rotate_right
 ·show Cl (kA w0 S0) w' S' (if g.1=p then τ' g.2 else G.τ g)
  split
  ·exact nk hf g.2
  ·exact(h.fresh hf g).mono (fun b o hs=>fZ b (h.dO b o hs)) hS (fun b o hs ⟨o',zY⟩=>by
    rcases jN b o hs with h6|h6
    ·exact h6
    ·have:=h.dO _ _ zY;omega)
 ·intro b o hs
  rcases jN b o hs with h1|h1
  ·exact h.iN b o h1
  ·exact .inr (.inl (by omega))
 ·intro id ro cs hx
  obtain⟨h1,h2,h3,h5⟩:=h.box id ro cs hx
  have bP:=h.mZ hx
  refine⟨h1,h2,h3.later cp (fZ _ bP),?_⟩
  cases ro with
  |true=>simp only[if_true]at h5⊢;exact fun o ho=>hS _ _ (h5 o ho)
  |false=>
   simp only[ak,if_false]at h5⊢
   intro o ho
   rcases jN _ _ ho with h6|h6
   ·exact h5 o h6
   ·omega
 ·intro g e T t hx
  rcases cJ g _ hx with⟨h1,h2⟩|⟨h1,h2⟩
  ·have ho:=h.own g e T t h2
   refine ho.later cp (fun b ju=>fZ b (ho.hY b ju).2) (fun b ju o hs=> ?_)
   rcases jN b o hs with h6|h6
   ·exact h6
   ·have:=(ho.hY b ju).2;omega
  ·exact h2.mono (bf _)
 ·intro g x b hx jq
  rcases cJ g _ hx with⟨h1,h2⟩|⟨h1,h2⟩
  ·simp only[if_neg h1]at jq
   exact h.gS g x b h2 jq
  ·exact .inl (by have:=(h2.hY b jq).1;omega)
 ·intro g g' x y b hx hy jq oz
  rcases cJ g _ hx with⟨h1,h2⟩|⟨h1,h2⟩<;>rcases cJ g' _ hy with⟨h3,h4⟩|⟨h3,h4⟩
  ·simp only[if_neg h1]at jq;simp only[if_neg h3]at oz
   exact h.kM g g' x y b h2 h4 jq oz
  ·simp only[if_neg h1]at jq
   have h5:=((h.own g x.1 x.2.1 x.2.2 h2).hY b jq).2
   have h6:=(h4.hY b oz).1
   omega
  ·simp only[if_neg h3]at oz
   have h5:=((h.own g' y.1 y.2.1 y.2.2 h4).hY b oz).2
   have h6:=(h2.hY b jq).1
   omega
  ·obtain⟨g1,j⟩:=g
   obtain⟨g2,k⟩:=g'
   simp only at h1 h3
   subst h1;subst h3
   simp only[if_true]at jq oz
   rw[Fv j k x y b hx hy jq oz]
 ·intro g id x y b hx hy jq
  rcases cJ g _ hx with⟨h1,h2⟩|⟨h1,h2⟩
  ·simp only[if_neg h1]at jq
   exact h.eV g id x y b h2 hy jq
  ·have h6:=(h2.hY b jq).1
   have h7:=h.mZ hy
   intro he
   have h8:b=G.β id:=he
   omega
theorem fp.appended(h:fp w0 S0 C G σ w)(hp: ¬C.M p)(q:Nat){v v':Value}{T:TypeId}{t:Ty}{n m:Nat}{xs news:List Value}{l l2:List D}{e2:E}
  (iY:0<t.cells.length) (Sg:l.length=n) (FV:l2.length=m)
  (Z5: ∀(i:Nat) d (j:Nat) u c,l[i]? =some d→d.cells[j]? =some c→xs[i*t.cells.length+j]? =some u→cH w G.S u c)
  (BS: ∀(i:Nat) d (j:Nat) u c,l2[i]? =some d→d.cells[j]? =some c→news[i*t.cells.length+j]? =some u→cH w G.S u c)
  (hxw: ∀d∈l,d.cells.length=t.cells.length)
  (hx:xs.length=n*t.cells.length) (dm:w'.ownsRow 0 T t.cells.length v' (n+m) (xs++news))
  (gY:(v'.ownBlock=v.ownBlock∧w.grownBy w' v.ownBlock)∨(v'.ownBlock=some w.heap.size∧w.grownBy w' none))
  (live':Tag→Option (E×TypeId×Ty))
  (hold:v= .slice none 0 0∨ ∃g x,σ.live g=some x∧G.τ g=v∧live' g=none∧ ∀b,v.ownBlock=some b→(∀o,G.S b o↔Tag.ex (p,q)=false∧o<xs.length)∧ ∀o u,xs[o]? =some u→w.cell? ⟨b,o,none⟩=some u)
  (he:e2.lt C.N=true) (gA:den C.ρ e2= .list (l++l2)) (iR:Has (.list t) (den C.ρ e2))
  (cJ: ∀g x,live' g=some x→(g≠(p,q)∧σ.live g=some x)∨(g=(p,q)∧x=(e2,T,t)))
  (afl:S0.fr→Tag.ex (p,q)=false∧(v= .slice none 0 0→ ∀u∈xs,oJ (Cm (kA w0 S0) w G.S) u)∧ ∀u∈news,oJ (Cm (kA w0 S0) w G.S) u) (mg: ¬S0.wz):
  ∃G',dT C w G (C.add p) w' G'∧fp w0 S0 (C.add p) G' {σ with live:=live'} w'∧G'.τ (p,q)=v':=by
 have hle:=h.vX
 have aoo:(xs++news).length=(n+m)*t.cells.length:=dm.1
 have eW: ∀b o,G.S b o→w'.cell? ⟨b,o,none⟩=w.cell? ⟨b,o,none⟩:=by
  intro b o hs
  have FX:=h.dO b o hs
  rcases gY with⟨h1,h2⟩|⟨h1,h2⟩
  ·by_cases PU:some b=v.ownBlock
   ·rcases hold with hv|⟨g,x,hg,LI,_,mU⟩
    ·rw[hv]at PU;cases PU
    ·obtain⟨hf,hc⟩:=mU b PU.symm
     have ho:=((hf o).1 hs).2
     have RH:xs[o]? =some xs[o] :=aW ho
     have h3:=dm.cells (g:=b) (h1.trans PU.symm) o xs[o] (by rw[aB ho];exact RH)
     rw[gF,ay]at h3
     rw[h3,hc o _ RH]
   ·exact bg (h2.block b FX PU)
  ·exact bg (h2.block b FX (by simp))
 have fZ: ∀b,b<w.heap.size→v.ownBlock≠some b→w'.heap[b]? =w.heap[b]? :=by
  intro b hb fY
  rcases gY with⟨_,h2⟩|⟨_,h2⟩
  ·exact h2.block b hb (fun e=>fY e.symm)
  ·exact h2.block b hb (by simp)
 have hvb: ∀b,v.ownBlock=some b→kA w0 S0 b∧b<w.heap.size:=by
  intro b hb
  rcases hold with hv|⟨g,x,hg,LI,_,_⟩
  ·rw[hv]at hb;cases hb
  ·rw[←LI]at hb;exact⟨h.gS g x b hg hb,((h.own g x.1 x.2.1 x.2.2 hg).hY b hb).2⟩
 have aeS: ∀b,v'.ownBlock=some b→kA w0 S0 b:=by
  intro b hb
  rcases gY with⟨h1,_⟩|⟨h1,_⟩
  ·exact(hvb b (h1▸hb)).1
  ·rw[h1]at hb;injection hb with hb;exact .inl (by omega)
 have P4: ∀b,v'.ownBlock=some b→(v.ownBlock=some b∨b=w.heap.size):=by
  intro b hb
  rcases gY with⟨h1,_⟩|⟨h1,_⟩
  ·exact .inl (h1▸hb)
  ·rw[h1]at hb;injection hb with hb;exact .inr hb.symm
 have OC:w.heap.size≤w'.heap.size:=by rcases gY with⟨_,h2⟩|⟨_,h2⟩<;>exact h2.size
 let G':Gh:={S:=fun b o=>G.S b o∨(Tag.ex (p,q)=false∧v'.ownBlock=some b∧o<(xs++news).length),β:=G.β,τ:=fun g=>if g.1=p then v' else G.τ g}
 have iI: ∀g:Tag,C.M g.1→(if g.1=p then v' else G.τ g)=G.τ g:=fun g hg=>if_neg (fun e=>hp (by rw[←e];exact hg))
 have cp:dT C w G (C.add p) w' G':=⟨fun _ h=>⟨rfl,h⟩,fun _ h=>.inl h,fun _ _ h=>.inl h,eW,fun _ _=>rfl,iI⟩
 refine⟨G',cp,?_,if_pos rfl⟩
 refine⟨?_,fun b o hs=>.inl (h.kW b o hs),h.nY cp,h.pJ cp,h.mQ,?_,?_,fun id x hx=>.inl (h.pb id x hx),?_,h.inj,?_,?_,?_,?_,fun hf g=> ?_,fun h=>absurd h mg⟩
 rotate_right
 ·obtain⟨hq,Hs,rL⟩:=afl hf
  ·have au5: ∀(o:Nat) u,xs[o]? =some u→oJ (Cm (kA w0 S0) w G.S) u:=by
    intro o u hu
    have mM:o<xs.length:=(aH.1 hu).1
    rcases hold with hv|⟨g1,x1,hg1,LI,_,mU⟩
    ·exact Hs hv u (ca hu)
    ·have BX:=h.own g1 x1.1 x1.2.1 x1.2.2 hg1
     obtain⟨xs0,l0,_,OF,XQ,_⟩:=BX.own
     rcases OF.2 with⟨hn,_⟩|⟨b1,aBW,aBT,FR,Sp,_⟩
     ·exact Hs (LI▸hn) u (ca hu)
     ·have avB:v.ownBlock=some b1:=by rw[←LI,FR];rfl
      obtain⟨LK,qZ⟩:=mU b1 avB
      have hS1:G.S b1 o:=(LK o).2 ⟨hq,mM⟩
      have h3:=(XQ b1 (by rw[FR];rfl) o).1 hS1
      have h4:=h.fresh hf g1 _ _ _ FR
      rw[FR]at h4
      rcases h4 with h4|⟨b2,o2,h5,h6⟩
      ·have h7:xs0.length=l0.length*_:=OF.1
       rw[h4,Nat.zero_mul]at h7
       omega
      ·simp only[ae,Addr.mk.injEq]at h5
       obtain⟨rfl,_⟩:=h5
       exact(Cm.set _ _ _ b1 h6).2.2.2 o u hS1 (qZ o u hu)
   have hX:UL (kA w0 S0) w' G'.S (fun b=>Cm (kA w0 S0) w G.S b∨(v'.ownBlock=some b∧0<(xs++news).length)):=by
    intro b hb
    by_cases uC:v'.ownBlock=some b
    ·have ir:0<(xs++news).length∨Cm (kA w0 S0) w G.S b:=hb.elim .inr (fun h=>.inl h.2)
     have aog: ∃o,G'.S b o:=by
      rcases ir with h1|h1
      ·exact⟨0,.inr ⟨hq,uC,h1⟩⟩
      ·obtain⟨o,ho⟩:=(Cm.set _ _ _ b h1).2.1
       exact⟨o,.inl ho⟩
     have hcz: ∃cur T,w'.heap[b]? =some (.cells cur T (0,0)):=by
      rcases dm.2 with⟨hv,_⟩|⟨b2,cap,cur,hv,_,AV,_⟩
      ·rw[hv]at uC;cases uC
      ·rw[hv]at uC
       simp only[Value.ownBlock,ae]at uC
       subst uC
       exact⟨_,_,AV⟩
     refine⟨aeS b uC,aog,hcz,fun o u hs hu=> ?_⟩
     have main:o<(xs++news).length→oJ (fun b=>Cm (kA w0 S0) w G.S b∨(v'.ownBlock=some b∧0<(xs++news).length)) u:=by
      intro ho
      have h3:=dm.cells (g:=b) uC o (xs++news)[o] (aW ho)
      rw[gF,ay,hu]at h3
      injection h3 with h3
      have h4:(xs++news)[o]? =some u:=by rw[h3];exact aW ho
      by_cases hox:o<xs.length
      ·rw[aB hox]at h4
       exact(au5 o u h4).mono fun b hb=>.inl hb
      ·rw[aF (by omega)]at h4
       exact(rL u (ca h4)).mono fun b hb=>.inl hb
     rcases hs with hs|⟨_,_,hs⟩
     ·rcases P4 b uC with h6|h6
      ·rcases hold with hv|⟨g',x',z6,LI,J5,mU⟩
       ·rw[hv]at h6;cases h6
       ·have:=((mU b h6).1 o).1 hs
        exact main (by rw[an];omega)
      ·have:=h.dO b o hs;omega
     ·exact main hs
    ·rcases hb with hb|⟨hb,_⟩
     ·obtain⟨h1,⟨o1,h2⟩,⟨Yy,T0,h4⟩,h3⟩:=Cm.set _ _ _ b hb
      have F8:w'.heap[b]? =w.heap[b]? :=by
       rcases gY with⟨h5,h6⟩|⟨_,h6⟩
       ·exact h6.block b (h.dO b o1 h2) (fun e=>uC (h5.trans e.symm))
       ·exact h6.block b (h.dO b o1 h2) (by simp)
      refine⟨h1,⟨o1,.inl h2⟩,⟨Yy,T0,F8.trans h4⟩,fun o u hs hu=> ?_⟩
      rcases hs with hs|⟨_,hs,_⟩
      ·exact(h3 o u hs (by rw[←eW b o hs];exact hu)).mono fun b hb=>.inl hb
      ·exact absurd hs uC
     ·exact absurd hb uC
   show Cl (kA w0 S0) w' G'.S (if g.1=p then v' else G.τ g)
   split
   ·intro a0 n0 Tq ym
    rcases dm.2 with⟨hv,_⟩|⟨b,cap,cur,hv,_⟩
    ·rw[hv];exact .inl rfl
    ·rw[hv]
     by_cases h0:n+m=0
     ·exact .inl h0
     ·refine .inr ⟨b,0,rfl,_,hX,.inr ⟨by rw[hv];rfl,?_⟩⟩
      rw[aoo]
      exact Nat.mul_pos (by omega) iY
   ·exact fun a0 n0 Tq ym=>(h.fresh hf g a0 n0 Tq ym).mono fun b hb=>⟨_,hX,.inl hb⟩
 ·rcases gY with⟨_,h2⟩|⟨_,h2⟩
  ·refine⟨h2.os.trans h.below.os,h2.tape.trans h.below.tape,h2.output.trans h.below.output,aR h.below.size h2.size,fun k hk hm=>(h2.block k (by omega) (fun e=> ?_)).trans (h.below.block k hk hm)⟩
   rcases (hvb k e.symm).1 with h3|h3
   ·omega
   ·exact hm h3
  ·exact h.below.trans ⟨h2.os,h2.tape,h2.output,h2.size,fun k hk _=>h2.block k hk (by simp)⟩
 ·rintro b o (hs|⟨_,hb,_⟩)
  ·have:=h.dO b o hs;omega
  ·exact(dm.lt b hb).2
 ·rintro b o (hs|⟨_,hb,_⟩)
  ·exact h.iN b o hs
  ·exact .inr (aeS b hb)
 ·intro id ro cs lv
  obtain⟨h1,h2,h3,h5⟩:=h.box id ro cs lv
  have bP:=h.mZ lv
  have fY: ∀b,v.ownBlock=some b→b≠G.β id:=by
   intro b hb
   rcases hold with hv|⟨g,x,hg,LI,_,_⟩
   ·rw[hv]at hb;cases hb
   ·rw[←LI]at hb;exact h.eV g id x _ b hg lv hb
  refine⟨h1,h2,h3.later cp (fZ _ bP (fun e=>fY _ e rfl)),?_⟩
  cases ro with
  |true=>simp only[if_true]at h5⊢;exact fun o ho=>.inl (h5 o ho)
  |false=>
   simp only[ak,if_false]at h5⊢
   rintro o (ho|⟨_,hb,_⟩)
   ·exact h5 o ho
   ·rcases P4 _ hb with h6|h6
    ·exact fY _ h6 rfl
    ·have h7:G.β id=w.heap.size:=h6
     omega
 ·intro g e T' t' lv
  rcases cJ g _ lv with⟨h1,h2⟩|⟨h1,h2⟩
  ·have ho:=h.own g e T' t' h2
   have alI: ∀b,(G.τ g).ownBlock=some b→v.ownBlock≠some b:=by
    intro b hb uC
    rcases hold with hv|⟨g',x,z6,LI,J5,_⟩
    ·rw[hv]at uC;cases uC
    ·rw[←LI]at uC
     have:=h.kM g g' _ x b h2 z6 hb uC
     have r7:live' g=some (e,T',t'):=lv
     rw[this,J5]at r7;cases r7
   refine ho.later cp (fun b hb=>fZ b (ho.hY b hb).2 (alI b hb)) (fun b hb o hs=> ?_)
   rcases hs with hs|⟨_,hs,_⟩
   ·exact hs
   ·rcases P4 b hs with h6|h6
    ·exact absurd h6 (alI b hb)
    ·have:=(ho.hY b hb).2;omega
  ·subst h1
   simp only[ai]at h2
   obtain⟨rfl,rfl,rfl⟩:=h2
   refine⟨.inr rfl,he,iR,xs++news,l++l2,gA,?_,?_,?_⟩
   ·show w'.ownsRow 0 T' t'.cells.length (if p=p then v' else _) _ _
    rw[if_pos rfl,an,Sg,FV];exact dm
   ·intro b hb o
    have ju:v'.ownBlock=some b:=by simpa [G']using hb
    constructor
    ·rintro(hs|⟨hq,_,hs⟩)
     ·rcases P4 b ju with h6|h6
      ·rcases hold with hv|⟨g',x,z6,LI,J5,mU⟩
       ·rw[hv]at h6;cases h6
       ·have:=((mU b h6).1 o).1 hs
        rw[an];exact⟨this.1,by omega⟩
      ·have:=h.dO b o hs;omega
     ·exact⟨hq,hs⟩
    ·intro ho;exact .inr ⟨ho.1,ju,ho.2⟩
   ·intro i d j u c h1 h2 h3
    by_cases hi:i<l.length
    ·rw[aB hi]at h1
     have hj:j<d.cells.length:=(aH.1 h2).1
     have hw:=hxw d (ca h1)
     have bP:i*t'.cells.length+j<xs.length:=by
      rw[hx,←Sg]
      have:(i+1)*t'.cells.length≤l.length*t'.cells.length:=az _ hi
      rw[cw]at this
      omega
     rw[aB bP]at h3
     exact(Z5 i d j u c h1 h2 h3).keep cp.S cp.cell
    ·rw[aF (by omega)]at h1
     have ou:xs.length≤i*t'.cells.length+j:=by
      rw[hx,←Sg]
      exact aR (az _ (by omega)) (cP _ _)
     rw[aF ou]at h3
     refine(BS (i-l.length) d j u c h1 h2 ?_).keep cp.S cp.cell
     rw[←h3,hx,←Sg,Nat.sub_mul]
     congr 1
     have:l.length*t'.cells.length≤i*t'.cells.length:=az _ (by omega)
     omega
 ·intro g x b lv jq
  rcases cJ g _ lv with⟨h1,h2⟩|⟨h1,h2⟩
  ·have h3:g.1≠p:=fun XN=>hp (XN▸(h.own g x.1 x.2.1 x.2.2 h2).m)
   simp only[G',if_neg h3]at jq
   exact h.gS g x b h2 jq
  ·subst h1
   simp only[G',if_true]at jq
   exact aeS b jq
 ·intro g g' x y b lv om jq oz
  have key: ∀g x,g.1≠p∨g≠(p,q)→live' g=some x→σ.live g=some x:=by
   intro g x fY hl
   rcases cJ g _ hl with⟨_,h2⟩|⟨h1,_⟩
   ·exact h2
   ·subst h1;rcases fY with fY|fY<;>exact absurd rfl fY
  have Yb: ∀g x,g≠(p,q)→σ.live g=some x→live' g=some x→g.1≠p:=by
   intro g x _ hs _ XN
   exact hp (XN▸(h.own g x.1 x.2.1 x.2.2 hs).m)
  have abU: ∀g x,g≠(p,q)→live' g=some x→(G.τ g).ownBlock=some b→v'.ownBlock=some b→False:=by
   intro g x fY hl hb ju
   have hs:=key g x (.inr fY) hl
   have ho:=h.own g x.1 x.2.1 x.2.2 hs
   rcases P4 b ju with h6|h6
   ·rcases hold with hv|⟨g',x',z6,LI,J5,_⟩
    ·rw[hv]at h6;cases h6
    ·rw[←LI]at h6
     have:=h.kM g g' _ x' b hs z6 hb h6
     rw[this,J5]at hl;cases hl
   ·have:=(ho.hY b hb).2;omega
  by_cases h1:g=(p,q)<;>by_cases h2:g'=(p,q)
  ·rw[h1,h2]
  ·subst h1
   have h3:=Yb g' y h2 (key g' y (.inr h2) om) om
   simp only[G',if_true,if_neg h3]at jq oz
   exact(abU g' y h2 om oz jq).elim
  ·subst h2
   have h3:=Yb g x h1 (key g x (.inr h1) lv) lv
   simp only[G',if_true,if_neg h3]at jq oz
   exact(abU g x h1 lv jq oz).elim
  ·have h3:=Yb g x h1 (key g x (.inr h1) lv) lv
   have h4:=Yb g' y h2 (key g' y (.inr h2) om) om
   simp only[G',if_neg h3,if_neg h4]at jq oz
   exact h.kM g g' x y b (key g x (.inr h1) lv) (key g' y (.inr h2) om) jq oz
 ·intro g id x y b lv om jq
  rcases cJ g _ lv with⟨h1,h2⟩|⟨h1,h2⟩
  ·have h3:g.1≠p:=fun XN=>hp (XN▸(h.own g x.1 x.2.1 x.2.2 h2).m)
   simp only[G',if_neg h3]at jq
   exact h.eV g id x y b h2 om jq
  ·subst h1
   simp only[G',if_true]at jq
   rcases P4 b jq with h6|h6
   ·rcases hold with hv|⟨g',x',z6,LI,_,_⟩
    ·rw[hv]at h6;cases h6
    ·rw[←LI]at h6;exact h.eV g' id x' _ b z6 om h6
   ·have h7:=h.mZ om
    intro he
    have h8:b=G.β id:=he
    omega
end
abbrev bD:=Ty×Option (Nat×TypeId)
structure Ob where
 shape:List Bool
 cC:List (List bD)
 outs:List (List bD)
 fresh:Bool
def Ob.Ae(ob:Ob):Bool:=ob.shape.isEmpty&&ob.cC.isEmpty&&(ob.outs.length==2)
def Ob.mv(ob:Ob):Bool:=ob.fresh&&(ob.outs.length==ob.cC.length)
def Ob.new(ob:Ob):Bool:=ob.fresh&& !(ob.outs.length==ob.cC.length)
theorem Ob.HY{ob:Ob}(h:ob.mv=true):ob.new=false:=by
 unfold Ob.mv at h;unfold Ob.new
 simp only[bc]at h
 rw[h.1,h.2];rfl
structure dQ where
 params:List Ty
 res:List (Bool×List bD)
 ob:Option Ob
structure DO where
 ps:List Ty
 t:Ty
 T:TypeId
 kt:Ty
 TM:TypeId
 nn:Option (dQ×Ty):=none
structure o3 where
 l:List (Nat×dQ)
 ex:List Nat
 fr:Nat
 mp:List (TypeId×Ty):=[]
 et:List (Nat×DO):=[]
inductive Item where
 |Oa (pc:dI) (b:Bool)
 |lM (pc:dI) (e:E)
 |call (p f:Nat) (args:E) (pc:dI)
 |room (pc:dI) (e:E) (bytes:Nat)
def flat(P:Program):Nat→TypeId→Option (List Ty)
 |0,_=>none
 |n+1,t=>
  match P.underlying t with
  |some (.int k)=>some [.int k]
  |some .bool=>some [.bool]
  |some .string=>some [.str]
  |some (.slice e)=>
   match P.underlying e,flat P n e with
   |some (.struct _),some l=>some [.list (.agg (.dJ l))]
   |_,some [x] =>some [.list x]
   |_,_=>none
  |some (.pointer e)=>(flat P n e).map fun l=> [.ptr (.dJ l)]
  |some (.struct fs)=>fs.toList.foldr (fun f acc=>match flat P n f.type,acc with|some a,some b=>some (a++b)|_,_=>none) (some [])
  |_=>none
def J8:Nat:=8
def J9:Nat:=12
def tyV(P:Program)(t:TypeId):Option Ty:=
 match P.underlying t,flat P J9 t with
 |some (.struct _),some l=>some (.agg (.dJ l))
 |some _,some [x] =>some x
 |_,_=>none
def ta:Ty→Value→Option SC
 |.int k,.int k' n=>if k'=k∧oY k n then some (.iW (.aT k n) (.int k)) else none
 |.bool,.bool b=>some (.iW (.ff b) .bool)
 |.str,.string s=>some (.iW (.Fo s) .str)
 |.list t,.slice none 0 0=>some (.po t)
 |.ptr fs,.pointer none=>some (.iW .gW (.ptr fs))
 |_,_=>none
def Fm(P:Program)(σ:St)(hint:TypeId):Operand→Option (dI×SV)
 |.tmp t=>σ.tm t
 |.const (.int k n)=>(ta (.int k) (.int k n)).map fun c=>([],.one c)
 |.const .nilFunc=>some ([],.one .L1)
 |.const v=>match tyV P hint with
  |some t=>(ta t v).map fun c=>([],.one c)
  |none=>none
 |.func f=>some ([],.one (.iW (.un (.fnc f) .nil) (.fn f .nil)))
 |.global _=>none
def Iq(c pc:dI):Bool:=c.all pc.contains
def gu(P:Program)(σ:St)(pc:dI)(x:Operand)(hint:TypeId):Option SV:=
 match Fm P σ hint x with
 |some (c,s)=>if Iq c pc then some s else none
 |none=>none
def asData:SC→Option (E×Ty)
 |.iW e t=>some (e,t)
 |.po t=>some (.nil,.list t)
 |.own _ e t=>some (e,.list t)
 |.clip e t=>some (e,.list t)
 |_=>none
def iO:List SC→Option (List E×List Ty)
 | [] =>some ([],[])
 |c::r=>match asData c,iO r with
  |some (e,t),some (es,ts)=>some (e::es,t::ts)
  |_,_=>none
theorem jV{cs:List SC}{x:List E×List Ty}(h:iO cs=some x):mapOf cs=none:=by
 unfold mapOf
 split
 ·simp[iO,asData]at h
 ·rfl
def qP:SV→Option (E×Ty)
 |.one c=>asData c
 |.agg l=>match iO l with
  |some (es,ts)=>some (.un .agg (.dJ es),.agg (.dJ ts))
  |none=>none
 |.fx _=>none
def fK(P:Program)(σ:St)(pc:dI)(x:Operand)(hint:TypeId):Option (E×Ty):=(gu P σ pc x hint).bind qP
def nh(e:E):Nat→List Ty→List SC
 |_,[] => []
 |j,t::r=>.iW (.un (.cell j) e) t::nh e (j+1) r
def oc:SV→Option (List SC)
 |.one (.iW e (.agg fs))=>some (nh e 0 fs.aV)
 |.one c=>some [c]
 |.agg l=>some l
 |.fx _=>none
def j5(P:Program)(t:TypeId):Bool:=match P.underlying t with|some (.struct _)=>true|some (.array ..)=>true|_=>false
def jF(P:Program)(t:TypeId):Option Nat:=(P.info? t).map (·.size)
def DC(t:Ty)(c a b:E):E:=
 match t,a,b with
 |.bool,a,.ff false=>.bin .and c a
 |.bool,.ff true,b=>.bin .or c b
 |_,a,b=>.ite c a b
section
variable{P:Program}{C:Cx}{w:World}{G:Gh}{σ:St}{a:Act}
theorem GQ{t:Ty}{v:Value}{c:SC}(h:ta t v=some c):tJ C w G c v∧c.scalar=true:=by
 unfold ta at h
 split at h
 ·split at h
  ·rename_i hk
   injection h with h;subst h
   obtain⟨rfl,hi⟩:=hk
   exact⟨⟨rfl,.int _ _,dA.2 ⟨_,rfl,hi⟩⟩,rfl⟩
  ·cases h
 ·injection h with h;subst h;exact⟨⟨rfl,.bool _,dz.2 ⟨_,rfl⟩⟩,rfl⟩
 ·injection h with h;subst h;exact⟨⟨rfl,.str _,oa.2 ⟨_,rfl⟩⟩,rfl⟩
 ·injection h with h;subst h;exact⟨rfl,rfl⟩
 ·injection h with h;subst h;exact⟨⟨rfl,.gW,m9.2 (.inl rfl)⟩,rfl⟩
 ·cases h
theorem FL{ρ:Nat→D}{c pc:dI}(h:Iq c pc=true)(eu:aU ρ pc=true):aU ρ c=true:=by
 unfold aU Iq at*
 rw[cn]at*
 intro x hx
 exact eu x (by simpa using h x hx)
theorem YN(ht:jO C w G σ.tm a){hint:TypeId}{x:Operand}{c:dI}{s:SV}(h:Fm P σ hint x=some (c,s))(hc:aU C.ρ c=true):Ab C w G s (a.eval x):=by
 cases x with
 |tmp t=>
  obtain⟨v,h1,_,_,h2⟩:=ht t c s h
  rw[if_pos hc]at h2
  simpa [Act.eval,h1]using h2
 |const v=>
  have key: ∀(t:Ty),(ta t v).map (fun c=>(([] :dI),SV.one c))=some (c,s)→Ab C w G s v:=by
   intro t h
   simp only[da,ai]at h
   obtain⟨c',h1,_,rfl⟩:=h
   exact(GQ h1).1
  cases v<;>simp only[Fm]at h<;>first
   |exact key _ h
   |(injection h with h;injection h with h1 h2;subst h2;exact .inr rfl)
   |(split at h
     ·exact key _ h
     ·cases h)
 |func f=>
  simp only[Fm,ae,ai]at h
  obtain⟨_,rfl⟩:=h
  refine⟨rfl,?_,mo.2 ⟨[],rfl,dr.2 rfl⟩⟩
  exact cH.fn f [] [] rfl (by intro i v d hi;simp at hi)
 |global g=>cases h
theorem cK(ht:jO C w G σ.tm a){pc:dI}(eu:aU C.ρ pc=true){hint:TypeId}{x:Operand}{s:SV}(h:gu P σ pc x hint=some s):Ab C w G s (a.eval x):=by
 unfold gu at h
 split at h
 ·rename_i c s' ho
  split at h
  ·rename_i hi
   injection h with h;subst h
   exact YN ht ho (FL hi eu)
  ·cases h
 ·cases h
theorem Rn{t:Ty}{v:Value}{c:SC}{n:Nat}(h:ta t v=some c):c.lt n=true:=by
 unfold ta at h
 split at h
 ·split at h
  ·injection h with h;subst h;rfl
  ·cases h
 all_goals first|(injection h with h;subst h;rfl)|cases h
theorem Zu(ht:jO C w G σ.tm a){pc:dI}{hint:TypeId}{x:Operand}{s:SV}(h:gu P σ pc x hint=some s):s.lt C.N=true:=by
 unfold gu at h
 split at h
 ·rename_i c s' ho
  split at h
  ·injection h with h;subst h
   cases x with
   |tmp t=>exact(ht t c s' ho).choose_spec.2.2.1
   |const v=>
    have key: ∀(t:Ty),(ta t v).map (fun c=>(([] :dI),SV.one c))=some (c,s')→s'.lt C.N=true:=by
     intro t h
     simp only[da,ai]at h
     obtain⟨c',h1,_,rfl⟩:=h
     exact Rn h1
    cases v<;>simp only[Fm]at ho<;>first
     |exact key _ ho
     |(injection ho with ho;injection ho with h1 h2;subst h2;rfl)
     |(split at ho
       ·exact key _ ho
       ·cases ho)
   |func f=>
    simp only[Fm,ae,ai]at ho
    obtain⟨_,rfl⟩:=ho
    rfl
   |global g=>cases ho
  ·cases h
 ·cases h
theorem GX{c:SC}{e:E}{t:Ty}{n:Nat}(h:asData c=some (e,t))(hc:c.lt n=true):e.lt n=true:=by
 cases c<;>simp only[asData]at h
 all_goals first|cases h;done|(obtain⟨rfl,rfl⟩:=jC h;first|rfl|exact hc)
theorem EG{n:Nat}: ∀{l:List SC} {es:List E} {ts:List Ty},iO l=some (es,ts)→l.all (SC.lt n)=true→(E.dJ es).lt n=true
 | [],es,ts,h,_=>by
  simp only[iO,ae,ai]at h
  obtain⟨rfl,rfl⟩:=h;rfl
 |c::l,es,ts,h,hl=>by
  simp only[iO]at h
  simp only[List.all_cons,bc]at hl
  split at h
  ·rename_i e t wY Xr h1 h2
   obtain⟨rfl,rfl⟩:=jC h
   simp[E.dJ,E.lt,GX h1 hl.1,EG h2 hl.2]
  ·cases h
theorem Pe(ht:jO C w G σ.tm a){pc:dI}{hint:TypeId}{x:Operand}{e:E}{t:Ty}(h:fK P σ pc x hint=some (e,t)):e.lt C.N=true:=by
 unfold fK at h
 cases hs:gu P σ pc x hint with
 |none=>simp[hs]at h
 |some s=>
  simp only[hs,cu]at h
  have h0:=Zu ht hs
  cases s with
  |one c=>exact GX h h0
  |agg l=>
   simp only[qP]at h
   split at h
   ·rename_i es ts h1
    obtain⟨rfl,rfl⟩:=jC h
    exact EG h1 h0
   ·cases h
  |fx l=>cases h
theorem mE{c:SC}{e:E}{t:Ty}{v:Value}(h:asData c=some (e,t))(hr:tJ C w G c v):e.lt C.N=true∧cH w G.S v (den C.ρ e)∧Has t (den C.ρ e):=by
 cases c<;>simp only[asData]at h
 ·obtain⟨rfl,rfl⟩:=jC h;exact hr
 ·obtain⟨rfl,rfl⟩:=jC h
  simp only[tJ]at hr;subst hr
  exact⟨rfl,.nil none 0,bK.2 ⟨[],rfl,ft _,by simp⟩⟩
 ·obtain⟨rfl,rfl⟩:=jC h;exact⟨hr.2.1,hr.2.2.1,hr.2.2.2.1⟩
 ·obtain⟨rfl,rfl⟩:=jC h;exact⟨hr.1,hr.2.1,hr.2.2.1⟩
 all_goals cases h
theorem n4: ∀{l:List SC} {es:List E} {ts:List Ty} {vs:List Value},iO l=some (es,ts)→lA C w G l vs→
  (E.dJ es).lt C.N=true∧es.length=vs.length∧ts.length=vs.length∧(∀(i:Nat) v e,vs[i]? =some v→es[i]? =some e→cH w G.S v (den C.ρ e))∧dK (.dJ ts) (es.map (den C.ρ))
 | [],es,ts,vs,h,hr=>by
  simp only[iO,ae,ai]at h
  obtain⟨rfl,rfl⟩:=h
  have hv:vs=[] :=au hr.1
  subst hv
  exact⟨rfl,rfl,rfl,by intro i v e hi;simp at hi,dr.2 rfl⟩
 |c::l,es,ts,vs,h,hr=>by
  simp only[iO]at h
  split at h
  ·rename_i e t wY Xr h1 h2
   obtain⟨rfl,rfl⟩:=jC h
   cases vs with
   |nil=>have:=hr.1;simp at this
   |cons v vs=>
    have E0:lA C w G l vs:=⟨by simpa using hr.1,fun i c v hi hv=>hr.2 (i+1) c v (by simpa using hi) (by simpa using hv)⟩
    obtain⟨k1,k2,k3,k4,k5⟩:=n4 h2 E0
    obtain⟨m1,m2,m3⟩:=mE h1 (hr.2 0 c v rfl rfl)
    refine⟨by simp[E.dJ,E.lt,m1,k1],by simp[k2],by simp[k3],?_,aj.2 ⟨_,_,rfl,m3,k5⟩⟩
    intro i u e' hi he
    cases i with
    |zero=>simp at hi he;subst hi;subst he;exact m2
    |succ i=>exact k4 i u e' (by simpa using hi) (by simpa using he)
  ·cases h
theorem NU{s:SV}{e:E}{t:Ty}{v:Value}(h:qP s=some (e,t))(hr:Ab C w G s v):e.lt C.N=true∧cH w G.S v (den C.ρ e)∧Has t (den C.ρ e):=by
 cases s with
 |one c=>exact mE h hr
 |agg l=>
  simp only[qP]at h
  split at h
  ·rename_i es ts h1
   obtain⟨rfl,rfl⟩:=jC h
   obtain⟨vs,rfl,hs⟩:=hr
   obtain⟨k1,k2,k3,k4,k5⟩:=n4 h1 hs
   refine⟨by simpa [E.lt]using k1,?_,?_⟩
   ·simp only[den,gG,U.den,D.aV]
    refine .agg vs _ (by simp[k2]) fun i v d hi hd=> ?_
    simp only[ah,da]at hd
    obtain⟨e,he,rfl⟩:=hd
    exact k4 i v e hi he
   ·simp only[den,gG,U.den,D.aV]
    exact eN.2 ⟨_,rfl,k5⟩
  ·cases h
 |fx l=>cases h
theorem dX(ht:jO C w G σ.tm a){pc:dI}(eu:aU C.ρ pc=true){hint:TypeId}{x:Operand}{e:E}{t:Ty}(h:fK P σ pc x hint=some (e,t)):
  e.lt C.N=true∧cH w G.S (a.eval x) (den C.ρ e)∧Has t (den C.ρ e):=by
 unfold fK at h
 cases hs:gu P σ pc x hint with
 |none=>simp[hs]at h
 |some s=>simp only[hs,cu]at h;exact NU h (cK ht eu hs)
theorem tA(e:E): ∀(ts:List Ty) (j i:Nat),(nh e j ts)[i]? =(ts[i]?).map fun t=>SC.iW (.un (.cell (j+i)) e) t
 | [],j,i=>by simp[nh]
 |t::ts,j,0=>by simp[nh]
 |t::ts,j,i+1=>by simp only[nh,du,tA e ts (j+1) i];congr 2;funext t;congr 3;omega
theorem tz(e:E): ∀(ts:List Ty) (j:Nat),(nh e j ts).length=ts.length
 | [],_=>rfl
 |_::ts,j=>by simp[nh,tz e ts]
theorem hZ{l:List D}{i:Nat}{d:D}(h:l[i]? =some d):l.getD i .top=d:=by simp[List.getD,h]
theorem tk{s:SV}{l:List SC}{v:Value}(h:oc s=some l)(hr:Ab C w G s v)(mf:l.all SC.scalar=true): ∃vs:List Value,v.cells=vs.toArray∧lA C w G l vs:=by
 cases s with
 |one c=>
  by_cases hc: ∃e fs,c= .iW e (.agg fs)
  ·obtain⟨e,fs,rfl⟩:=hc
   simp only[oc,ae]at h
   subst h
   obtain⟨h1,h2,h3⟩:=hr
   obtain⟨l,hl,hh,cs,rfl,hlen,hc⟩:=h2.UK h3
   refine⟨cs,rfl,by rw[tz,hlen,il hh],fun i c v hi hv=> ?_⟩
   rw[tA]at hi
   simp only[da]at hi
   obtain⟨t,ht,rfl⟩:=hi
   obtain⟨x,hx,LH⟩:=dY hh i t ht
   have hd:den C.ρ (.un (.cell (0+i)) e)=x:=by simp only[den,U.den,hl,D.aV,ay];exact hZ hx
   exact⟨by simpa [E.lt]using h1,by rw[hd];exact hc i v x hv hx,by rw[hd];exact LH⟩
  ·have h':l=[c] :=by
    cases c with
    |iW e t=>cases t<;>simp only[oc,ae]at h<;>first|exact h.symm|exact absurd ⟨_,_,rfl⟩ hc
    |_=>simp only[oc,ae]at h;exact h.symm
   subst h'
   simp only[List.all_cons,bW,Bool.and_true]at mf
   have ho:=tJ.ko hr mf
   refine⟨[v],by cases v<;>simp[Value.cells,Value.oneCell']at ho⊢,rfl,fun i c' u hi hu=> ?_⟩
   cases i with
   |zero=>simp at hi hu;subst hi;subst hu;exact hr
   |succ i=>simp at hi
 |agg l'=>
  simp only[oc,ae]at h;subst h
  obtain⟨vs,rfl,hs⟩:=hr
  exact⟨vs,rfl,hs⟩
 |fx l'=>cases h
theorem Nz(ρ:Nat→D)(t:Ty)(c x y:E)(hx:(den ρ c).gV=true→Has t (den ρ x))(hy:(den ρ c).gV=false→Has t (den ρ y)):
  den ρ (DC t c x y)=if(den ρ c).gV then den ρ x else den ρ y:=by
 unfold DC
 split
 ·simp only[den,B.den]
  cases LM:(den ρ c).gV with
  |false=>simp
  |true=>obtain⟨b,hb⟩:=dz.1 (hx LM);simp[hb,D.gV]
 ·simp only[den,B.den]
  cases LM:(den ρ c).gV with
  |false=>obtain⟨b,hb⟩:=dz.1 (hy LM);simp[hb,D.gV]
  |true=>simp
 ·rfl
theorem QX{N:Nat}{t:Ty}{c x y:E}(hc:c.lt N=true)(hx:x.lt N=true)(hy:y.lt N=true):(DC t c x y).lt N=true:=by
 unfold DC
 split<;>simp_all [E.lt]
end
abbrev Pl:=SV×List Item
def eU(C:Cx)(Φ:Nat→List D→D)(Pre:Nat→List D→Prop):Item→Prop
 |.Oa pc b=>aU C.ρ pc=b
 |.lM pc e=>e.lt C.N=true∧(aU C.ρ pc=true→(den C.ρ e).gV=true)
 |.call p f args pc=>args.lt C.N=true∧p<C.N∧C.ρ p=Φ f (den C.ρ args).aV∧(aU C.ρ pc=true→Pre f (den C.ρ args).aV)
 |.room pc e bytes=>e.lt C.N=true∧(aU C.ρ pc=true→(den C.ρ e).aV.length≤maxLen∧(den C.ρ e).aV.length*bytes≤140737488355328)
def kX(P:Program)(C:Cx)(w:World)(G:Gh)(a:Act)(o:Oper)(s:SV):Prop:=
 ∃v,(execOp a.eval o).run P w= .ok (.value v) w∧Ab C w G s v
def Dv(P:Program)(σ:St)(pc:dI)(o:Oper):Option Pl:=
 match o.op with
 |.move x| .assign x=>(gu P σ pc x o.type).map fun s=>(s,[])
 |_=>none
def HK(P:Program)(σ:St)(pc:dI)(o:Oper):Option Pl:=
 match o.op with
 |.pick c x y=>
  match fK P σ pc c o.type with
  |some (ec,.bool)=>
   match fK P σ ((ec,true)::pc) x o.type,fK P σ ((ec,false)::pc) y o.type with
   |some (ex,tx),some (ey,ty)=>if tx=ty then some (.one (.iW (DC tx ec ex ey) tx),[]) else none
   |_,_=>none
  |_=>none
 |_=>none
def afx:BinOp→IntKind→Option (B×Bool×Bool)
 |.add,k=>some (.add k,false,false)
 |.sub,k=>some (.sub k,false,false)
 |.mul,k=>some (.mul k,false,false)
 |.rem,k=>some (.rem k,false,true)
 |.quo,k=>some (.quo k,false,true)
 |.xor,k=>some (.xor k,false,false)
 |.lss,_=>some (.lt,true,false)
 |.leq,_=>some (.le,true,false)
 |.gtr,_=>some (.gt,true,false)
 |.geq,_=>some (.ge,true,false)
 |.eql,_=>some (.eq,true,false)
 |.neq,_=>some (.ne,true,false)
 |_,_=>none
def eqE(P:Program):Nat→TypeId→List (E×Ty)→List (E×Ty)→Option E
 |0,_,_,_=>none
 |n+1,t,xs,ys=>
  match P.underlying t with
  |some (.int _)=>match xs,ys with
   | [(x,.int k)],[(y,.int k')] =>if k=k' then some (.bin .eq x y) else none
   |_,_=>none
  |some .bool=>match xs,ys with
   | [(x,.bool)],[(y,.bool)] =>some (.bin .beq x y)
   |_,_=>none
  |some (.struct fs)=>
   if P.stoodInHeld t then none else
   fs.toList.foldr (fun f acc=>match acc,jF P f.type with
    |some r,some sz=>
     if f.name≠ "_" ∧f.offset+sz≤xs.length∧f.offset+sz≤ys.length then
      match eqE P n f.type ((xs.drop f.offset).take sz) ((ys.drop f.offset).take sz) with
      |some e=>some (.bin .and e r)
      |none=>none
     else none
    |_,_=>none) (some (.ff true))
  |_=>none
def kK(e:E):Nat→List Ty→List (E×Ty)
 |_,[] => []
 |j,t::r=>(.un (.cell j) e,t)::kK e (j+1) r
def zh(P:Program)(σ:St)(pc:dI)(o:Oper):Option Pl:=
 match o.op with
 |.binOp op xt x y _=>
  match gu P σ pc x xt,fK P σ pc y xt,P.underlying xt with
  |some (.one (.r9 _ _)),some (.gW,.ptr _),some (.pointer _)=>
   match op with
   |.eql=>some (.one (.iW (.ff false) .bool),[])
   |.neq=>some (.one (.iW (.ff true) .bool),[])
   |_=>none
  |_,_,_=>none
 |_=>none
def Ot(P:Program)(σ:St)(pc:dI)(o:Oper):Option Pl:=
 match o.op with
 |.binOp op xt x y _=>
  match fK P σ pc x xt,fK P σ pc y xt with
  |some (ex,.int k),some (ey,.int k')=>
   if k=k' then
    match afx op k with
    |some (b,isB,nz)=>some (.one (.iW (.bin b ex ey) (if isB then .bool else .int k)),if nz then [.lM pc (.bin .ne ey (.aT k 0))] else [])
    |none=>none
   else none
  |some (ex,.bool),some (ey,.bool)=>
   match op,P.underlying xt with
   |.eql,some .bool=>some (.one (.iW (.bin .beq ex ey) .bool),[])
   |.neq,some .bool=>some (.one (.iW (.un .not (.bin .beq ex ey)) .bool),[])
   |_,_=>none
  |some (ex,.agg fs),some (ey,.agg gs)=>
   match j5 P xt,P.eqGuardType P.depth xt,eqE P J8 xt (kK ex 0 fs.aV) (kK ey 0 gs.aV),op with
   |true,false,some e,.eql=>some (.one (.iW e .bool),[])
   |true,false,some e,.neq=>some (.one (.iW (.un .not e) .bool),[])
   |_,_,_,_=>none
  |some (ex,.ptr _),some (.gW,.ptr _)=>
   match op,P.underlying xt with
   |.eql,some (.pointer _)=>some (.one (.iW (.un .De ex) .bool),[])
   |.neq,some (.pointer _)=>some (.one (.iW (.un .not (.un .De ex)) .bool),[])
   |_,_=>none
  |_,_=>none
 |_=>none
def HN(P:Program)(σ:St)(pc:dI)(o:Oper):Option Pl:=
 match zh P σ pc o with
 |some r=>some r
 |none=>Ot P σ pc o
def SD(P:Program)(σ:St)(pc:dI)(o:Oper):Option Pl:=
 match o.op with
 |.unOp .not t x=>match fK P σ pc x t with
  |some (e,.bool)=>some (.one (.iW (.un .not e) .bool),[])
  |_=>none
 |.unOp .neg t x=>match fK P σ pc x t with
  |some (e,.int k)=>some (.one (.iW (.un (.neg k) e) (.int k)),[])
  |_=>none
 |.convert s d x=>match fK P σ pc x s,P.underlying s,P.underlying d with
  |some (e,.int _),some (.int _),some (.int k)=>some (.one (.iW (.un (.aav k) e) (.int k)),[])
  |_,_,_=>none
 |_=>none
def wy(P:Program)(σ:St)(pc:dI)(o:Oper):Option Pl:=
 match o.op with
 |.extract x j=>match gu P σ pc x o.type with
  |some (.fx l)=>match l[j]? with
   |some (true,cs)=>some (.agg cs,[])
   |some (false,[c])=>some (.one c,[])
   |_=>none
  |_=>none
 |_=>none
def nb(P:Program)(t:TypeId)(f:Nat):Option (Field×Nat):=
 match P.underlying t with
 |some (.struct fs)=>match fs[f]? with
  |some fl=>(jF P fl.type).map fun n=>(fl,n)
  |none=>none
 |_=>none
def qU(P:Program)(σ:St)(pc:dI)(o:Oper):Option Pl:=
 match o.op with
 |.fieldAddr t x f=>
  match nb P t f,gu P σ pc x t with
  |some (fl,_+1),some (.one (.r9 id off))=>some (.one (.r9 id (off+fl.offset)),[])
  |some (fl,_+1),some (.one (.C7 l i u off))=>some (.one (.C7 l i u (off+fl.offset)),[])
  |some (fl,_+1),some (.one (.CX e fs off))=>some (.one (.CX e fs (off+fl.offset)),[])
  |some (fl,_+1),some (.one (.iW e (.box fs)))=>some (.one (.CX e fs fl.offset),[])
  |some (fl,_+1),some (.one (.xC g i u off))=>some (.one (.xC g i u (off+fl.offset)),[])
  |_,_=>none
 |_=>none
def Ef:SV→Option (List SC)
 |.agg l=>some l
 |.one (.iW e (.agg fs))=>some (nh e 0 fs.aV)
 |_=>none
def Cv(P:Program)(σ:St)(pc:dI)(o:Oper):Option Pl:=
 match o.op with
 |.field t x f=>
  match nb P t f,(gu P σ pc x t).bind Ef with
  |some (fl,n),some cs=>
   if(P.underlying fl.type).isSome=true∧fl.offset+n≤cs.length then
    if j5 P fl.type then some (.agg ((cs.drop fl.offset).take n),[])
    else if 0<n then match cs[fl.offset]? with
     |some c=>some (.one c,[])
     |none=>none
    else none
   else none
  |_,_=>none
 |_=>none
def nX(P:Program)(σ:St)(pc:dI)(o:Oper):Option Pl:=
 match o.op with
 |.indexAddr t x (.const (.int _ n))=>
  match P.underlying t,gu P σ pc x t with
  |some (.array len el),some (.one (.r9 id off))=>
   match jF P el with
   |some sz=>if 0≤n∧n<len then some (.one (.r9 id (off+n.toNat*sz)),[]) else none
   |none=>none
  |_,_=>none
 |_=>none
def pK(P:Program)(σ:St)(pc:dI)(o:Oper):Option Pl:=
 match o.op with
 |.indexAddr t x i=>
  match P.underlying t,fK P σ pc x t,fK P σ pc i t with
  |some (.slice el),some (e,.list u),some (ie,.int k)=>
   if jF P el=some u.cells.length∧0<u.cells.length then
    some (.one (.C7 e ie u 0),[.lM pc (.bin .and (.bin .le (.aT k 0) ie) (.bin .lt ie (.un .len e)))])
   else none
  |_,_,_=>none
 |_=>none
def M4(e:E):Option Int:=if e.lt 0 then(match den (fun _=>.top) e with
 |.int _ n=>some n
 |_=>none) else none
def mG(P:Program)(σ:St)(pc:dI)(o:Oper):Option Pl:=
 match o.op with
 |.indexAddr t x i=>
  match P.underlying t,gu P σ pc x t,fK P σ pc i t with
  |some (.array len el),some (.one (.r9 id off)),some (ie,.int _)=>
   match jF P el,M4 ie with
   |some sz,some n=>if 0≤n∧n<len then some (.one (.r9 id (off+n.toNat*sz)),[]) else none
   |_,_=>none
  |_,_,_=>none
 |_=>none
def qT(P:Program)(σ:St)(pc:dI)(o:Oper):Option Pl:=
 match nX P σ pc o with
 |some x=>some x
 |none=>match mG P σ pc o with
  |some x=>some x
  |none=>pK P σ pc o
def Oq(P:Program)(σ:St)(pc:dI)(o:Oper):Option Pl:=
 match o.op with
 |.nilCheck x=>
  match gu P σ pc x o.type with
  |some (.one (.r9 id off))=>some (.one (.r9 id off),[])
  |some (.one (.CX e fs off))=>some (.one (.CX e fs off),[])
  |some (.one (.C7 l i u off))=>some (.one (.C7 l i u off),[])
  |some (.one (.xC g i u off))=>some (.one (.xC g i u off),[])
  |some (.one (.iW e (.box fs)))=>some (.one (.iW e (.box fs)),[])
  |some (.one (.iW e (.ptr fs)))=>some (.one (.iW e (.box fs)),[.lM pc (.un .not (.un .De e))])
  |_=>none
 |_=>none
def rV(P:Program)(T:TypeId)(e:E)(u:Ty)(off:Nat):Option Pl:=
 match u,jF P T with
 |.agg fs,some n=>
  if j5 P T then
   if off=0∧n=fs.aV.length then some (.one (.iW e (.agg fs)),[])
   else if off+n≤fs.aV.length then some (.one (.iW (.un (.part off n) e) (.agg (.dJ ((fs.aV.drop off).take n)))),[]) else none
  else match fs.aV[off]? with
   |some t=>if t.scalar then some (.one (.iW (.un (.cell off) e) t),[]) else none
   |none=>none
 |u,_=>if j5 P T=false∧off=0∧u.scalar=true then some (.one (.iW e u),[]) else none
def HM(P:Program)(σ:St)(pc:dI)(o:Oper):Option (Pl×List Nat):=
 match o.op with
 |.load t x=>
  if(P.underlying t).isNone then none else
  match gu P σ pc x t with
  |some (.one (.r9 id off))=>
   match σ.hp id with
   |some (_,cs)=>
    if(mapOf cs).isSome then none else
    if j5 P t then
     match jF P t with
     |some n=>if off+n≤cs.length then some ((.agg ((cs.drop off).take n),[]),[id]) else none
     |none=>none
    else match cs[off]? with
     |some c=>some ((.one c,[]),[id])
     |none=>none
   |none=>none
  |some (.one (.C7 l i u off))=>(rV P t (.bin .idx l i) u off).map fun s=>(s,[])
  |some (.one (.CX e fs off))=>(rV P t (.un .agg e) (.agg fs) off).map fun s=>(s,[])
  |some (.one (.iW e (.box fs)))=>(rV P t (.un .agg e) (.agg fs) 0).map fun s=>(s,[])
  |_=>none
 |_=>none
def F4(P:Program)(σ:St)(pc:dI)(o:Oper):Option Pl:=
 match o.op with
 |.call {callee:=.builtin .len,args,argTypes}=>
  match args.toList,argTypes[0]? with
  | [x],some t=>match P.underlying t,fK P σ pc x t with
   |some (.slice _),some (e,.list _)=>some (.one (.iW (.un .len e) (.int .i64)),[])
   |_,_=>none
  |_,_=>none
 |.call {callee:=.builtin .min,args,.. }=>
  match args.toList with
  | [x,y] =>match fK P σ pc x o.type,fK P σ pc y o.type with
   |some (ex,.int k),some (ey,.int k')=>if k=k' then some (.one (.iW (.bin (.min k) ex ey) (.int k)),[]) else none
   |_,_=>none
  |_=>none
 |.call {callee:=.builtin .max,args,.. }=>
  match args.toList with
  | [x,y] =>match fK P σ pc x o.type,fK P σ pc y o.type with
   |some (ex,.int k),some (ey,.int k')=>if k=k' then some (.one (.iW (.bin (.max k) ex ey) (.int k)),[]) else none
   |_,_=>none
  |_=>none
 |_=>none
def Ct(P:Program)(σ:St)(pc:dI)(o:Oper):Option Pl:=
 match o.op with
 |.slice t x lo hi none=>
  match P.underlying t,fK P σ pc x t with
  |some (.slice el),some (e,.list u)=>
   let lo':=match lo with
    |some i=>match fK P σ pc i t with|some (ie,.int k)=>some (ie,k)|_=>none
    |none=>some (.aT .i64 0,.i64)
   let Hg:=match hi with
    |some i=>match fK P σ pc i t with|some (ie,.int k)=>some (ie,k)|_=>none
    |none=>some (.un .len e,.i64)
   match lo',Hg with
   |some (l,k),some (h,_)=>
    if jF P el=some u.cells.length∧0<u.cells.length then
     some (.one (.iW (.bin .drop (.bin .take e h) l) (.list u)),[.lM pc (.bin .and (.bin .le (.aT k 0) l) (.bin .and (.bin .le l h) (.bin .le h (.un .len e))))])
    else none
   |_,_=>none
  |_,_=>none
 |_=>none
def zg(P:Program)(σ:St)(pc:dI)(o:Oper):Option Pl:=
 match o.op with
 |.slice t x none (some hi) (some mx)=>
  match P.underlying t,fK P σ pc x t,fK P σ pc hi t,fK P σ pc mx t with
  |some (.slice el),some (e,.list u),some (h,.int k),some (m,.int _)=>
   if jF P el=some u.cells.length∧0<u.cells.length∧h=m then
    some (.one (.clip (.bin .take e h) u),[.lM pc (.bin .and (.bin .le (.aT k 0) h) (.bin .le h (.un .len e)))])
   else none
  |_,_,_,_=>none
 |_=>none
section
variable{P:Program}{C:Cx}{w:World}{G:Gh}{σ:St}{a:Act}{o:Oper}{pc:dI}{s:SV}{is:List Item}{Φ:Nat→List D→D}{Pre:Nat→List D→Prop}
theorem Gu(ht:jO C w G σ.tm a)(eu:aU C.ρ pc=true)(h:Dv P σ pc o=some (s,is)):kX P C w G a o s:=by
 unfold Dv at h
 split at h
 all_goals first
  |cases h;done
  |(rename_i x ho
    simp only[da,ai]at h
    obtain⟨s',h1,rfl,_⟩:=h
    exact⟨a.eval x,by unfold execOp;simp only[ho];rfl,cK ht eu h1⟩)
theorem EC{ρ:Nat→D}{e:E}{b:Bool}{pc:dI}:aU ρ ((e,b)::pc)=true↔(den ρ e).gV=b∧aU ρ pc=true:=by
 simp[aU]
theorem QM(ht:jO C w G σ.tm a)(eu:aU C.ρ pc=true)
  (h:HK P σ pc o=some (s,is)):kX P C w G a o s:=by
 unfold HK at h
 split at h
 ·rename_i c x y ho
  split at h
  ·rename_i ec hc
   split at h
   ·rename_i ex tx ey ty hx hy
    split at h
    ·rename_i Jp
     subst Jp
     obtain⟨rfl,_⟩:=jC h
     obtain⟨c1,c2,c3⟩:=dX ht eu hc
     obtain⟨b,hb⟩:=dz.1 c3
     have hv:a.eval c= .bool b:=(hb▸c2).iE
     have LM:(den C.ρ ec).gV=b:=by rw[hb];rfl
     have kx:b=true→_:=fun Aa=>dX ht (EC.2 ⟨LM.trans Aa,eu⟩) hx
     have ky:b=false→_:=fun hbf=>dX ht (EC.2 ⟨LM.trans hbf,eu⟩) hy
     refine⟨if b then a.eval x else a.eval y,?_,?_⟩
     ·unfold execOp;simp only[ho,hv,asBool];rfl
     ·have gA:=Nz C.ρ tx ec ex ey (fun h1=>(kx (LM▸h1)).2.2) (fun h1=>(ky (LM▸h1)).2.2)
      refine⟨QX c1 (Pe ht hx) (Pe ht hy),?_⟩
      rw[gA,LM]
      cases b with
      |true=>exact(kx rfl).2
      |false=>exact(ky rfl).2
    ·cases h
   ·cases h
  ·cases h
 ·cases h
theorem qe(k:IntKind)(n:Int):oY k (k.wrap n):=wrap_within k n
theorem Ws{k:IntKind}{x y:Int}(hx:oY k x):oY k (x.tmod y):=by
 obtain⟨h1,h2⟩:=hx
 have RL:k.min≤0:=by cases k<;>decide
 have hM0:0≤k.max:=by cases k<;>decide
 have hn:(x.tmod y).natAbs≤x.natAbs:=by rw[Int.natAbs_tmod];exact Nat.mod_le _ _
 rcases Int.le_total 0 x with h|h
 ·have h3:=Int.tmod_nonneg y h
  exact⟨by omega,by omega⟩
 ·have e:x.tmod y= -((-x).tmod y):=by rw[Int.neg_tmod];omega
  have h3:=Int.tmod_nonneg y (show 0≤ -x by omega)
  exact⟨by omega,by omega⟩
end
section
variable{P:Program}{C:Cx}{w:World}{G:Gh}{σ:St}{a:Act}{o:Oper}{pc:dI}{s:SV}{is:List Item}{Φ:Nat→List D→D}{Pre:Nat→List D→Prop}
theorem KY{op:BinOp}{k:IntKind}{b:B}{isB nz:Bool}(h:afx op k=some (b,isB,nz)){x y:Int}(hx:oY k x)(hnz:nz=true→y≠0)(t:TypeId)(p q:Operand):
  ∃v,(do eqGuard op t p q (.int k x) (.int k y);binOp op t (.int k x) (.int k y):Sem Value).run P w= .ok v w∧ ∀S,cH w S v (b.den (.int k x) (.int k y))∧Has (if isB then .bool else .int k) (b.den (.int k x) (.int k y)):=by
 have hI: ∀n:Int,oY k n→Has (.int k) (.int k n):=fun n hn=>dA.2 ⟨n,rfl,hn⟩
 have hB: ∀n:Bool,Has .bool (.bool n):=fun n=>dz.2 ⟨n,rfl⟩
 cases op<;>simp only[afx,ae,ai]at h<;>(try (cases h;done))<;>obtain⟨rfl,rfl,rfl⟩:=h
 case rem=>
  have Z4:=hnz rfl
  refine⟨.int k (x.tmod y),by simp[eqGuard,binOp,Op.intDiv,Z4],fun S=>⟨.int _ _,hI _ (Ws hx)⟩⟩
 case quo=>
  have Z4:=hnz rfl
  refine⟨.int k (k.wrap (x.tdiv y)),by simp[eqGuard,binOp,Op.intDiv,Z4],fun S=>⟨.int _ _,hI _ (qe _ _)⟩⟩
 all_goals first
  |exact⟨.int k (k.wrap (x+y)),by simp[eqGuard,binOp,Op.intArith],fun S=>⟨.int _ _,hI _ (qe _ _)⟩⟩
  |exact⟨.int k (k.wrap (x-y)),by simp[eqGuard,binOp,Op.intArith],fun S=>⟨.int _ _,hI _ (qe _ _)⟩⟩
  |exact⟨.int k (k.wrap (x*y)),by simp[eqGuard,binOp,Op.intArith],fun S=>⟨.int _ _,hI _ (qe _ _)⟩⟩
  |exact⟨.int k (M5 k x y),by simp[eqGuard,binOp,Op.intBits,M5],fun S=>⟨.int _ _,hI _ (qe _ _)⟩⟩
  |exact⟨.bool (decide (x<y)),by simp[eqGuard,binOp,Op.intCmp],fun S=>⟨.bool _,hB _⟩⟩
  |exact⟨.bool (decide (x≤y)),by simp[eqGuard,binOp,Op.intCmp],fun S=>⟨.bool _,hB _⟩⟩
  |exact⟨.bool (decide (x>y)),by simp[eqGuard,binOp,Op.intCmp],fun S=>⟨.bool _,hB _⟩⟩
  |exact⟨.bool (decide (x≥y)),by simp[eqGuard,binOp,Op.intCmp],fun S=>⟨.bool _,hB _⟩⟩
  |exact⟨.bool (x==y),by simp[eqGuard,binOp,Op.intCmp],fun S=>⟨.bool _,hB _⟩⟩
  |exact⟨.bool (x !=y),by simp[eqGuard,binOp,Op.intCmp],fun S=>⟨.bool _,hB _⟩⟩
theorem qn{t el:TypeId}(hu:P.underlying t=some (.pointer el))(p:Option Addr)(d:Nat):(Op.equalIn (d+1) t (.pointer p) (.pointer none)).run P w= .ok p.isNone w:=by
 cases p<;>simp[Op.equalIn,run_underlying hu]
theorem rv{t el:TypeId}(hu:P.underlying t=some (.pointer el))(p:Option Addr)(x y:Operand):
  (do eqGuard .eql t x y (.pointer p) (.pointer none);binOp .eql t (.pointer p) (.pointer none):Sem Value).run P w= .ok (.bool p.isNone) w:=by
 have h1:binOp .eql t (.pointer p) (.pointer none)=(do pure (.bool (←Op.equalIn (9999+1) t (.pointer p) (.pointer none)))):=rfl
 have h2:eqGuard .eql t x y (.pointer p) (.pointer none)=pure ():=rfl
 rw[h1,h2,bA,Sem.run_pure,ct,bA,qn hu];rfl
theorem ru{t el:TypeId}(hu:P.underlying t=some (.pointer el))(p:Option Addr)(x y:Operand):
  (do eqGuard .neq t x y (.pointer p) (.pointer none);binOp .neq t (.pointer p) (.pointer none):Sem Value).run P w= .ok (.bool (!p.isNone)) w:=by
 have h1:binOp .neq t (.pointer p) (.pointer none)=(do pure (.bool (!(←Op.equalIn (9999+1) t (.pointer p) (.pointer none))))):=rfl
 have h2:eqGuard .neq t x y (.pointer p) (.pointer none)=pure ():=rfl
 rw[h1,h2,bA,Sem.run_pure,ct,bA,qn hu];rfl
def valOf(P:Program)(t:TypeId)(vs:List Value):Value:=if j5 P t then .agg vs.toArray else vs.getD 0 undef
theorem AB{t:TypeId}{d:TypeDesc}(hu:P.underlying t=some d):(isAgg t).run P w= .ok (j5 P t) w:=by
 unfold isAgg j5
 rw[bA,run_underlying hu w]
 simp only[ct,hu]
 cases d<;>rfl
theorem jd{t:TypeId}{n:Nat}(h:jF P t=some n):(sizeOf t).run P w= .ok n w:=by
 unfold jF at h
 cases hi:P.info? t with
 |none=>simp[hi]at h
 |some i=>simp[hi]at h;simp[sizeOf,typeInfo,hi,h]
theorem uU{t:TypeId}{d:TypeDesc}(hu:P.underlying t=some d){n off:Nat}(hs:jF P t=some n)(vs:List Value)(hn:off+n≤vs.length)(h0:j5 P t=false→0<n):
  (part t vs.toArray off).run P w= .ok (valOf P t ((vs.drop off).take n)) w:=by
 unfold part valOf
 rw[bA,AB hu]
 simp only[ct]
 cases ha:j5 P t with
 |true=>
  simp only[if_true,bA,jd hs,ct,Sem.run_pure]
  congr 2
  apply dg
  simp[List.extract_eq_take_drop]
 |false=>
  have h1:=h0 ha
  have bP:off<vs.length:=by omega
  simp only[ak,if_false]
  have e1:(vs.toArray)[off]? =some vs[off] :=by simp[bP]
  have e2:((vs.drop off).take n).getD 0 undef=vs[off] :=by
   simp[List.getD,aO,show 0<n from h1,bP]
  rw[e1,e2]
  rfl
def Qp(ρ:Nat→D)(w:World)(S:bU)(vs:List Value)(xs:List (E×Ty)):Prop:=
 vs.length=xs.length∧ ∀(i:Nat) v x,vs[i]? =some v→xs[i]? =some x→cH w S v (den ρ x.1)∧Has x.2 (den ρ x.1)
theorem Qp.cut{ρ:Nat→D}{S:bU}{vs:List Value}{xs:List (E×Ty)}(h:Qp ρ w S vs xs)(off n:Nat):Qp ρ w S ((vs.drop off).take n) ((xs.drop off).take n):=by
 refine⟨by simp[h.1],fun i v x hv hx=> ?_⟩
 simp only[aG,aO]at hv hx
 split at hv
 ·rename_i hi;rw[if_pos hi]at hx;exact h.2 _ v x hv hx
 ·cases hv
theorem M0(ρ:Nat→D)(S:bU): ∀(n:Nat) (t:TypeId) (xs ys:List (E×Ty)) (e:E),eqE P n t xs ys=some e→ ∀(vx vy:List Value) (d:Nat),Qp ρ w S vx xs→Qp ρ w S vy ys→
  (Op.equalIn (d+n) t (valOf P t vx) (valOf P t vy)).run P w= .ok (den ρ e).gV w∧(∃b,den ρ e= .bool b)∧(j5 P t=false→0<vx.length)
 |0,_,_,_,_,h=>by cases h
 |n+1,t,xs,ys,e,h=>by
  intro vx vy d hx hy
  unfold eqE at h
  split at h
  ·rename_i k0 hu
   have ha:j5 P t=false:=by unfold j5;rw[hu]
   split at h
   ·rename_i x k y k'
    split at h
    ·rename_i hk
     subst hk
     injection h with h;subst h
     obtain⟨v,rfl⟩: ∃v,vx=[v] :=bO.1 hx.1
     obtain⟨u,rfl⟩: ∃v,vy=[v] :=bO.1 hy.1
     obtain⟨h1,h2⟩:=hx.2 0 v _ rfl rfl
     obtain⟨h3,h4⟩:=hy.2 0 u _ rfl rfl
     obtain⟨i,hi,_⟩:=dA.1 h2
     obtain⟨j,hj,_⟩:=dA.1 h4
     simp only at h1 h3 hi hj
     have e1:=(hi▸h1).cX
     have e2:=(hj▸h3).cX
     refine⟨?_,⟨_,rfl⟩,fun _=>by simp⟩
     simp only[valOf,ha,ak,if_false,List.getD_cons_zero,e1,e2,den,B.den,hi,hj,D.aq,D.gV]
     exact run_equalIn_int w (d+n) t k k0 i j hu
    ·cases h
   ·cases h
  ·rename_i hu
   have ha:j5 P t=false:=by unfold j5;rw[hu]
   split at h
   ·rename_i x y
    injection h with h;subst h
    obtain⟨v,rfl⟩: ∃v,vx=[v] :=bO.1 hx.1
    obtain⟨u,rfl⟩: ∃v,vy=[v] :=bO.1 hy.1
    obtain⟨h1,h2⟩:=hx.2 0 v _ rfl rfl
    obtain⟨h3,h4⟩:=hy.2 0 u _ rfl rfl
    obtain⟨i,hi⟩:=dz.1 h2
    obtain⟨j,hj⟩:=dz.1 h4
    simp only at h1 h3 hi hj
    have e1:=(hi▸h1).iE
    have e2:=(hj▸h3).iE
    refine⟨?_,⟨_,rfl⟩,fun _=>by simp⟩
    simp only[valOf,ha,ak,if_false,List.getD_cons_zero,e1,e2,den,B.den,hi,hj,D.gV]
    exact run_equalIn_bool' w (d+n) t i j hu
   ·cases h
  ·rename_i fs hu
   have ha:j5 P t=true:=by unfold j5;rw[hu]
   split at h
   ·cases h
   ·rename_i oZ
    have hfo:P.fieldsOf t=fs:=by unfold Program.fieldsOf;rw[hu]
    have avn:P.stoodInHeld t=false:=by simpa using oZ
    have key: ∀(l:List Field) (e:E),l.foldr (fun f acc=>match acc,jF P f.type with
      |some r,some sz=>
       if f.name≠ "_" ∧f.offset+sz≤xs.length∧f.offset+sz≤ys.length then
        match eqE P n f.type ((xs.drop f.offset).take sz) ((ys.drop f.offset).take sz) with
        |some e=>some (.bin .and e r)
        |none=>none
       else none
      |_,_=>none) (some (.ff true))=some e→
      (Op.eqFields (d+n) vx.toArray vy.toArray l).run P w= .ok (den ρ e).gV w∧ ∃b,den ρ e= .bool b:=by
     intro l
     induction l with
     |nil=>
      intro e he
      simp only[List.foldr_nil,ae]at he
      subst he
      exact⟨rfl,_,rfl⟩
     |cons f l ih=>
      intro e he
      simp only[List.foldr_cons]at he
      split at he
      ·rename_i r sz hr iY
       split at he
       ·rename_i hc
        split at he
        ·rename_i e0 RO
         injection he with he;subst he
         obtain⟨EZ,b,hb⟩:=ih r hr
         have cx:=hx.cut f.offset sz
         have cy:=hy.cut f.offset sz
         obtain⟨k1,⟨b0,hb0⟩,k3⟩:=M0 ρ S n f.type _ _ e0 RO _ _ d cx cy
         obtain⟨dsc,hud⟩: ∃dsc,P.underlying f.type=some dsc:=by
          cases n with
          |zero=>cases RO
          |succ n=>
           unfold eqE at RO
           cases hq:P.underlying f.type with
           |none=>rw[hq]at RO;cases RO
           |some q=>exact⟨q,rfl⟩
         have pos:j5 P f.type=false→0<sz:=by
          intro h;have:=k3 h;simp only[bj,bF]at this;omega
         have p1:=uU (w:=w) hud iY vx (by rw[hx.1];exact hc.2.1) pos
         have p2:=uU (w:=w) hud iY vy (by rw[hy.1];exact hc.2.2) pos
         refine⟨?_,_,rfl⟩
         simp only[Op.eqFields,if_pos hc.1,bA,p1,p2,ct,k1]
         rw[hb0]
         cases b0 with
         |false=>simp[D.gV,den,B.den,hb0]
         |true=>simpa [D.gV,den,B.den,hb0]using EZ
        ·cases he
       ·cases he
      ·cases he
    obtain⟨k1,k2⟩:=key fs.toList e h
    refine⟨?_,k2,fun hf=>by rw[ha]at hf;cases hf⟩
    simp only[valOf,ha,if_true]
    have:=run_equalIn_struct (P:=P) w (d+n) t vx.toArray vy.toArray (by rw[hfo];exact hu) avn
    rw[hfo]at this
    rw[show d+(n+1)=d+n+1 from rfl,this]
    exact k1
  ·cases h
theorem n3(e:E): ∀(ts:List Ty) (j i:Nat),(kK e j ts)[i]? =(ts[i]?).map fun t=>(E.un (.cell (j+i)) e,t)
 | [],j,i=>by simp[kK]
 |t::ts,j,0=>by simp[kK]
 |t::ts,j,i+1=>by simp only[kK,du,n3 e ts (j+1) i];congr 2;funext t;congr 3;omega
theorem ED(e:E): ∀(ts:List Ty) (j:Nat),(kK e j ts).length=ts.length
 | [],_=>rfl
 |_::ts,j=>by simp[kK,ED e ts]
theorem Et{ρ:Nat→D}{S:bU}{v:Value}{e:E}{fs:Ty}(hr:cH w S v (den ρ e))(hh:Has (.agg fs) (den ρ e)): ∃vs:List Value,v= .agg vs.toArray∧Qp ρ w S vs (kK e 0 fs.aV):=by
 obtain⟨l,hl,hh',cs,rfl,hlen,hc⟩:=hr.UK hh
 refine⟨cs,rfl,by rw[ED,hlen,il hh'],fun i v x hv hx=> ?_⟩
 rw[n3]at hx
 simp only[da]at hx
 obtain⟨t,ht,rfl⟩:=hx
 obtain⟨x,hx,LH⟩:=dY hh' i t ht
 have hd:den ρ (.un (.cell (0+i)) e)=x:=by simp only[den,U.den,hl,D.aV,ay];exact hZ hx
 rw[hd]
 exact⟨hc i v x hv hx,LH⟩
theorem We(ht:jO C w G σ.tm a)(eu:aU C.ρ pc=true)(h:Ot P σ pc o=some (s,is))(iw: ∀it∈is,eU C Φ Pre it):kX P C w G a o s:=by
 unfold Ot at h
 split at h
 ·rename_i op xt x y yt ho
  have rN:(execOp a.eval o)=(do let v←(do eqGuard op xt x y (a.eval x) (a.eval y);binOp op xt (a.eval x) (a.eval y):Sem Value);pure (.value v)):=by unfold execOp;simp only[ho]
  have fin: ∀{v:Value},(do eqGuard op xt x y (a.eval x) (a.eval y);binOp op xt (a.eval x) (a.eval y):Sem Value).run P w= .ok v w→(execOp a.eval o).run P w= .ok (.value v) w:=by
   intro v hv
   rw[rN,bA,hv];rfl
  split at h
  ·rename_i ex k ey k' hx hy
   obtain⟨x1,x2,x3⟩:=dX ht eu hx
   obtain⟨y1,y2,y3⟩:=dX ht eu hy
   split at h
   ·rename_i hk
    subst hk
    split at h
    ·rename_i b isB nz hb
     obtain⟨rfl,rfl⟩:=jC h
     obtain⟨i,hi,Hg⟩:=dA.1 x3
     obtain⟨j,hj,_⟩:=dA.1 y3
     have e1:=(hi▸x2).cX
     have e2:=(hj▸y2).cX
     have hnz:nz=true→j≠0:=by
      rintro rfl
      have h7:eU C Φ Pre (.lM pc (.bin .ne ey (.aT k 0))):=iw _ (by simp)
      have:=h7.2 eu
      simpa [den,B.den,hj,D.aq,D.gV]using this
     obtain⟨v,hv,hr⟩:=KY (P:=P) (w:=w) hb Hg hnz xt x y
     rw[←e1,←e2]at hv
     refine⟨v,fin hv,by simp[E.lt,x1,y1],?_⟩
     simp only[den,hi,hj]
     exact hr G.S
    ·cases h
   ·cases h
  ·rename_i ex ey hx hy
   obtain⟨x1,x2,x3⟩:=dX ht eu hx
   obtain⟨y1,y2,y3⟩:=dX ht eu hy
   obtain⟨i,hi⟩:=dz.1 x3
   obtain⟨j,hj⟩:=dz.1 y3
   have e1:=(hi▸x2).iE
   have e2:=(hj▸y2).iE
   split at h
   ·rename_i hu
    obtain⟨rfl,rfl⟩:=jC h
    refine⟨.bool (i==j),fin ?_,by simp[E.lt,x1,y1],?_,dz.2 ⟨_,rfl⟩⟩
    ·rw[e1,e2]
     have:=run_equalIn_bool' (P:=P) w 9999 xt i j hu
     simp[eqGuard,binOp,Op.equal,Op.maxDepth,this]
    ·simp only[den,B.den,hi,hj,D.gV];exact .bool _
   ·rename_i hu
    obtain⟨rfl,rfl⟩:=jC h
    refine⟨.bool (!(i==j)),fin ?_,by simp[E.lt,x1,y1],?_,dz.2 ⟨_,rfl⟩⟩
    ·rw[e1,e2]
     have:=run_equalIn_bool' (P:=P) w 9999 xt i j hu
     simp[eqGuard,binOp,Op.equal,Op.maxDepth,this]
    ·simp only[den,B.den,U.den,hi,hj,D.gV];exact .bool _
   ·cases h
  ·rename_i ex fs ey gs hx hy
   obtain⟨x1,x2,x3⟩:=dX ht eu hx
   obtain⟨y1,y2,y3⟩:=dX ht eu hy
   obtain⟨vx,ex',rx⟩:=Et x2 x3
   obtain⟨vy,ey',ry⟩:=Et y2 y3
   have ltc: ∀{N:Nat} {e:E} (he:e.lt N=true) (j:Nat) (ts:List Ty),∀z∈kK e j ts,z.1.lt N=true:=by
    intro N e he j ts z hz
    obtain⟨i,hi⟩:=aE hz
    rw[n3]at hi
    simp only[da]at hi
    obtain⟨t,_,rfl⟩:=hi
    simpa [E.lt]using he
   have lte: ∀(N n:Nat) (t:TypeId) (xs ys:List (E×Ty)) (e:E),eqE P n t xs ys=some e→(∀z∈xs,z.1.lt N=true)→(∀z∈ys,z.1.lt N=true)→e.lt N=true:=by
    intro N n
    induction n with
    |zero=>intro t xs ys e h;cases h
    |succ n ih=>
     intro t xs ys e h tF PC
     unfold eqE at h
     split at h
     ·split at h
      ·split at h
       ·injection h with h;subst h
        have:=tF _ (aA.2 rfl);have:=PC _ (aA.2 rfl);simp_all [E.lt]
       ·cases h
      ·cases h
     ·split at h
      ·injection h with h;subst h
       have:=tF _ (aA.2 rfl);have:=PC _ (aA.2 rfl);simp_all [E.lt]
      ·cases h
     ·split at h
      ·cases h
      ·rename_i fs _ _
       revert h
       generalize fs.toList=l
       intro h
       induction l generalizing e with
       |nil=>simp only[List.foldr_nil,ae]at h;subst h;rfl
       |cons f l ihl=>
        simp only[List.foldr_cons]at h
        split at h
        ·rename_i r sz hr iY
         split at h
         ·split at h
          ·rename_i e0 RO
           injection h with h;subst h
           have h1:=ih f.type _ _ e0 RO (fun z hz=>tF z (eL (eK hz))) (fun z hz=>PC z (eL (eK hz)))
           simp[E.lt,h1,ihl r hr]
          ·cases h
         ·cases h
        ·cases h
     ·cases h
   split at h
   ·rename_i e ha hg he
    obtain⟨rfl,rfl⟩:=jC h
    obtain⟨k1,⟨b,hb⟩,_⟩:=M0 (P:=P) (w:=w) C.ρ G.S J8 xt _ _ e he vx vy 9992 rx ry
    simp only[valOf,ha,if_true,J8]at k1
    refine⟨.bool b,fin ?_,lte _ _ _ _ _ _ he (ltc x1 0 _) (ltc y1 0 _),by rw[hb];exact .bool b,dz.2 ⟨b,hb⟩⟩
    rw[ex',ey']
    rw[bA,run_eqGuard_agg w .eql xt x y _ _ hg]
    simp only[ct]
    rw[run_eql_struct,k1,hb];rfl
   ·rename_i e ha hg he
    obtain⟨rfl,rfl⟩:=jC h
    obtain⟨k1,⟨b,hb⟩,_⟩:=M0 (P:=P) (w:=w) C.ρ G.S J8 xt _ _ e he vx vy 9992 rx ry
    simp only[valOf,ha,if_true,J8]at k1
    refine⟨.bool (!b),fin ?_,by simpa [E.lt]using lte _ _ _ _ _ _ he (ltc x1 0 _) (ltc y1 0 _),by simp only[den,U.den,hb,D.gV];exact .bool _,dz.2 ⟨!b,by simp only[den,U.den,hb,D.gV]⟩⟩
    rw[ex',ey']
    rw[bA,run_eqGuard_agg w .neq xt x y _ _ hg]
    simp only[ct]
    rw[run_neq_struct,k1,hb];rfl
   ·cases h
  ·rename_i ex fs gs hx hy
   obtain⟨x1,x2,x3⟩:=dX ht eu hx
   obtain⟨y1,y2,y3⟩:=dX ht eu hy
   have e2:a.eval y= .pointer none:=by simp only[den]at y2;exact y2.u9
   have e1: ∃p,a.eval x= .pointer p∧p.isNone=(den C.ρ ex).ic:=by
    rcases m9.1 x3 with hn|⟨l,hl,_⟩
    ·exact⟨none,(hn▸x2).u9,by rw[hn];rfl⟩
    ·obtain⟨b,cs,hv,_⟩:=(hl▸x2).yS
     exact⟨_,hv,by rw[hl];rfl⟩
   obtain⟨p,hp,hpn⟩:=e1
   split at h
   ·rename_i el hu
    obtain⟨rfl,rfl⟩:=jC h
    refine⟨.bool p.isNone,fin ?_,by simpa [E.lt]using x1,by simp only[den,U.den,←hpn];exact .bool _,dz.2 ⟨_,rfl⟩⟩
    rw[hp,e2]
    exact rv hu p x y
   ·rename_i el hu
    obtain⟨rfl,rfl⟩:=jC h
    refine⟨.bool (!p.isNone),fin ?_,by simpa [E.lt]using x1,by simp only[den,U.den,D.gV,←hpn];exact .bool _,dz.2 ⟨_,rfl⟩⟩
    rw[hp,e2]
    exact ru hu p x y
   ·cases h
  ·cases h
 ·cases h
theorem K3(ht:jO C w G σ.tm a)(eu:aU C.ρ pc=true)(h:zh P σ pc o=some (s,is)):kX P C w G a o s:=by
 unfold zh at h
 split at h
 ·rename_i op xt x y yt ho
  have fin: ∀{v:Value},(do eqGuard op xt x y (a.eval x) (a.eval y);binOp op xt (a.eval x) (a.eval y):Sem Value).run P w= .ok v w→(execOp a.eval o).run P w= .ok (.value v) w:=by
   intro v hv
   have rN:(execOp a.eval o)=(do let v←(do eqGuard op xt x y (a.eval x) (a.eval y);binOp op xt (a.eval x) (a.eval y):Sem Value);pure (.value v)):=by unfold execOp;simp only[ho]
   rw[rN,bA,hv];rfl
  split at h
  ·rename_i id off ps el hx hy hu
   have e1:=(cK ht eu hx).2
   obtain⟨_,y2,_⟩:=dX ht eu hy
   have e2:a.eval y= .pointer none:=by simp only[den]at y2;exact y2.u9
   split at h
   ·obtain⟨rfl,rfl⟩:=jC h
    refine⟨.bool false,fin ?_,rfl,.bool _,dz.2 ⟨_,rfl⟩⟩
    rw[e1,e2]
    exact rv hu _ x y
   ·obtain⟨rfl,rfl⟩:=jC h
    refine⟨.bool true,fin ?_,rfl,.bool _,dz.2 ⟨_,rfl⟩⟩
    rw[e1,e2]
    exact ru hu _ x y
   ·cases h
  ·cases h
 ·cases h
theorem QQ(ht:jO C w G σ.tm a)(eu:aU C.ρ pc=true)(h:HN P σ pc o=some (s,is))(iw: ∀it∈is,eU C Φ Pre it):kX P C w G a o s:=by
 unfold HN at h
 split at h
 ·rename_i r hr
  injection h with h;subst h
  exact K3 ht eu hr
 ·exact We ht eu h iw
end
section
variable{P:Program}{C:Cx}{w w0:World}{S0:iu}{G:Gh}{σ:St}{a:Act}{o:Oper}{pc:dI}{s:SV}{is:List Item}{Φ:Nat→List D→D}{Pre:Nat→List D→Prop}
theorem O7(ht:jO C w G σ.tm a)(eu:aU C.ρ pc=true)(h:SD P σ pc o=some (s,is)):kX P C w G a o s:=by
 unfold SD at h
 split at h
 ·rename_i t x ho
  split at h
  ·rename_i e he
   obtain⟨rfl,rfl⟩:=jC h
   obtain⟨x1,x2,x3⟩:=dX ht eu he
   obtain⟨b,hb⟩:=dz.1 x3
   have e1:=(hb▸x2).iE
   refine⟨.bool (!b),by unfold execOp;simp only[ho,e1];rfl,by simpa [E.lt]using x1,?_,dz.2 ⟨_,rfl⟩⟩
   simp only[den,U.den,hb,D.gV];exact .bool _
  ·cases h
 ·rename_i t x ho
  split at h
  ·rename_i e k he
   obtain⟨rfl,rfl⟩:=jC h
   obtain⟨x1,x2,x3⟩:=dX ht eu he
   obtain⟨b,hb,_⟩:=dA.1 x3
   have e1:=(hb▸x2).cX
   refine⟨.int k (k.wrap (0-b)),by unfold execOp;simp only[ho,e1];rfl,by simpa [E.lt]using x1,?_,dA.2 ⟨_,rfl,qe _ _⟩⟩
   simp only[den,U.den,hb,D.aq];exact .int _ _
  ·cases h
 ·rename_i s' d x ho
  split at h
  ·rename_i e k0 k1 k he hs hd
   obtain⟨rfl,rfl⟩:=jC h
   obtain⟨x1,x2,x3⟩:=dX ht eu he
   obtain⟨b,hb,_⟩:=dA.1 x3
   have e1:=(hb▸x2).cX
   refine⟨.int k (k.wrap b),?_,by simpa [E.lt]using x1,?_,dA.2 ⟨_,rfl,qe _ _⟩⟩
   ·unfold execOp;simp only[ho,e1,convert]
    simp[run_underlying hs,run_underlying hd,Conv.intToInt]
   ·simp only[den,U.den,hb,D.aq];exact .int _ _
  ·cases h
 ·cases h
theorem IN(ht:jO C w G σ.tm a)(eu:aU C.ρ pc=true)(h:wy P σ pc o=some (s,is)):kX P C w G a o s:=by
 unfold wy at h
 split at h
 ·rename_i x j ho
  split at h
  ·rename_i l hl
   obtain⟨vs,hv,hlen,hc⟩:=cK ht eu hl
   split at h
   ·rename_i cs hj
    obtain⟨rfl,rfl⟩:=jC h
    have lZ:j<vs.length:=by rw[hlen];exact(aH.1 hj).1
    have hvj:vs[j]? =some vs[j] :=aW lZ
    refine⟨vs[j],?_,?_⟩
    ·unfold execOp;simp only[ho,hv,Instr.extract]
     simp[lZ]
    ·have:=hc j _ _ hj hvj
     simpa [nJ,Ab]using this
   ·rename_i c hj
    obtain⟨rfl,rfl⟩:=jC h
    have lZ:j<vs.length:=by rw[hlen];exact(aH.1 hj).1
    have hvj:vs[j]? =some vs[j] :=aW lZ
    refine⟨vs[j],?_,?_⟩
    ·unfold execOp;simp only[ho,hv,Instr.extract]
     simp[lZ]
    ·have:=hc j _ _ hj hvj
     simpa [nJ,Ab]using this
   ·cases h
  ·cases h
 ·cases h
theorem xZ{t:TypeId}{f:Nat}{fl:Field}{n:Nat}(h:nb P t f=some (fl,n)): ∃fs,P.underlying t=some (.struct fs)∧fs[f]? =some fl∧jF P fl.type=some n:=by
 unfold nb at h
 split at h
 ·rename_i fs hu
  split at h
  ·rename_i fl' hf
   simp only[da,ai]at h
   obtain⟨n',h1,rfl,rfl⟩:=h
   exact⟨fs,hu,hf,h1⟩
  ·cases h
 ·cases h
theorem mF{t:TypeId}{f:Nat}{fl:Field}{n:Nat}(h:nb P t f=some (fl,n+1))(b o:Nat):
  (Instr.fieldAt t (.pointer (some ⟨b,o,none⟩)) f).run P w= .ok (.pointer (some ⟨b,o+fl.offset,none⟩)) w:=by
 obtain⟨fs,hu,hf,hs⟩:=xZ h
 have h1:=jd (P:=P) (w:=w) hs
 simp[Instr.fieldAt,run_underlying hu,hf,Instr.sureAddr,fieldPlace,h1,gF]
theorem ER(ht:jO C w G σ.tm a)(eu:aU C.ρ pc=true)(h:qU P σ pc o=some (s,is)):kX P C w G a o s:=by
 unfold qU at h
 split at h
 ·rename_i t x f ho
  have fin: ∀{v u:Value},a.eval x=v→(Instr.fieldAt t v f).run P w= .ok u w→(execOp a.eval o).run P w= .ok (.value u) w:=by
   intro v u hv hr
   unfold execOp;simp only[ho,hv]
   rw[bA,hr];rfl
  split at h
  ·rename_i fl n id off hf hx
   obtain⟨rfl,rfl⟩:=jC h
   obtain⟨h1,h2⟩:=cK ht eu hx
   exact⟨_,fin h2 (mF hf _ _),h1,rfl⟩
  ·rename_i fl n l i u off hf hx
   obtain⟨rfl,rfl⟩:=jC h
   obtain⟨h1,h2,b,o',u',hv,hh,hc⟩:=cK ht eu hx
   exact⟨_,fin hv (mF hf _ _),h1,h2,b,o',u',by rw[fo],hh,hc⟩
  ·rename_i fl n e fs off hf hx
   obtain⟨rfl,rfl⟩:=jC h
   obtain⟨h1,b,l,u',hd,hl,hv,hc⟩:=cK ht eu hx
   exact⟨_,fin hv (mF hf _ _),h1,b,l,u',hd,hl,rfl,hc⟩
  ·rename_i fl n e fs hf hx
   obtain⟨rfl,rfl⟩:=jC h
   obtain⟨h1,h2,h3⟩:=cK ht eu hx
   obtain⟨l,hl,hh⟩:=jH.1 h3
   obtain⟨b,cs,hv,hlen,hS,hc,hr⟩:=(hl▸h2).yS
   refine⟨_,fin hv (mF hf _ _),h1,b,l,fun j=>cs.getD j undef,hl,hh,by rw[ay],fun j c hj=> ?_⟩
   have lZ:j<cs.length:=by rw[hlen];exact(aH.1 hj).1
   have e1:cs[j]? =some (cs.getD j undef):=by simp[List.getD,lZ]
   exact⟨hS j (by omega),hc j _ e1,hr j _ c e1 hj⟩
  ·rename_i fl n g i u off hf hx
   obtain⟨rfl,rfl⟩:=jC h
   obtain⟨h1,h2,b,cap,m,h3,h4,h5,hv⟩:=cK ht eu hx
   exact⟨_,fin hv (mF hf _ _),h1,h2,b,cap,m,h3,h4,h5,by rw[fo]⟩
  ·cases h
 ·cases h
theorem lA.cut{l:List SC}{vs:List Value}(h:lA C w G l vs)(off n:Nat):lA C w G ((l.drop off).take n) ((vs.drop off).take n):=by
 refine⟨by simp[h.1],fun i c v hc hv=> ?_⟩
 simp only[aG,aO]at hv hc
 split at hv
 ·rename_i hi;rw[if_pos hi]at hc;exact h.2 _ c v hc hv
 ·cases hv
theorem Lk{s:SV}{l:List SC}{v:Value}(h:Ef s=some l)(hr:Ab C w G s v): ∃vs:List Value,v= .agg vs.toArray∧lA C w G l vs:=by
 unfold Ef at h
 split at h
 ·injection h with h;subst h;exact hr
 ·rename_i e fs
  injection h with h;subst h
  obtain⟨h1,h2,h3⟩:=hr
  obtain⟨l,hl,hh,cs,rfl,hlen,hc⟩:=h2.UK h3
  refine⟨cs,rfl,by rw[tz,hlen,il hh],fun i c v hi hv=> ?_⟩
  rw[tA]at hi
  simp only[da]at hi
  obtain⟨t,ht,rfl⟩:=hi
  obtain⟨x,hx,LH⟩:=dY hh i t ht
  have hd:den C.ρ (.un (.cell (0+i)) e)=x:=by simp only[den,U.den,hl,D.aV,ay];exact hZ hx
  exact⟨by simpa [E.lt]using h1,by rw[hd];exact hc i v x hv hx,by rw[hd];exact LH⟩
 ·cases h
theorem Ns(ht:jO C w G σ.tm a)(eu:aU C.ρ pc=true)(h:Cv P σ pc o=some (s,is)):kX P C w G a o s:=by
 unfold Cv at h
 split at h
 ·rename_i t x f ho
  split at h
  ·rename_i fl n cs hf hx
   cases hg:gu P σ pc x t with
   |none=>simp[hg]at hx
   |some sv=>
    simp only[hg,cu]at hx
    split at h
    ·rename_i mV
     obtain⟨kV,hle⟩:=mV
     obtain⟨dsc,hq⟩:=dH.1 kV
     obtain⟨vs,pn,hr⟩:=Lk hx (cK ht eu hg)
     obtain⟨fs,hu,lE,hs⟩:=xZ hf
     have fin: ∀{u:Value},(part fl.type vs.toArray fl.offset).run P w= .ok u w→(execOp a.eval o).run P w= .ok (.value u) w:=by
      intro u hp
      unfold execOp;simp only[ho,pn,Instr.field,asAgg]
      simp[run_underlying hu,lE,hp]
     have hlen:fl.offset+n≤vs.length:=by rw[hr.1];exact hle
     split at h
     ·rename_i ha
      obtain⟨rfl,rfl⟩:=jC h
      have hp:=uU (w:=w) hq hs vs hlen (fun h=>by rw[ha]at h;cases h)
      simp only[valOf,ha,if_true]at hp
      exact⟨_,fin hp,_,rfl,hr.cut _ _⟩
     ·rename_i ha
      split at h
      ·rename_i hn
       split at h
       ·rename_i c hc
        obtain⟨rfl,rfl⟩:=jC h
        have hp:=uU (w:=w) hq hs vs hlen (fun _=>hn)
        have bP:fl.offset<vs.length:=by omega
        have e2:((vs.drop fl.offset).take n).getD 0 undef=vs[fl.offset] :=by
         simp[List.getD,aO,hn,bP]
        simp only[valOf,ha,ak,if_false,e2]at hp
        exact⟨_,fin hp,hr.2 _ c _ hc (aW bP)⟩
       ·cases h
      ·cases h
    ·cases h
  ·cases h
 ·cases h
theorem IM(ht:jO C w G σ.tm a)(eu:aU C.ρ pc=true)(h:pK P σ pc o=some (s,is))(iw: ∀it∈is,eU C Φ Pre it):kX P C w G a o s:=by
 unfold pK at h
 split at h
 ·rename_i t x i ho
  split at h
  ·rename_i el e u ie k hu hx hi
   split at h
   ·rename_i iY
    obtain⟨iY,ir⟩:=iY
    obtain⟨rfl,rfl⟩:=jC h
    obtain⟨x1,x2,x3⟩:=dX ht eu hx
    obtain⟨y1,y2,y3⟩:=dX ht eu hi
    obtain⟨l,hl,FV,iG⟩:=bK.1 x3
    obtain⟨n,hn,_⟩:=dA.1 y3
    have fX:eU C Φ Pre (.lM pc (.bin .and (.bin .le (.aT k 0) ie) (.bin .lt ie (.un .len e)))):=iw _ (by simp)
    have hb:=fX.2 eu
    simp only[den,B.den,U.den,hl,hn,D.aq,D.gV,D.aV,bc,bQ]at hb
    obtain⟨hb0,xA⟩:=hb
    have bP:n.toNat<l.length:=by omega
    have hli:l[n.toNat]? =some l[n.toNat] :=aW bP
    have gA:den C.ρ (.bin .idx e ie)=l[n.toNat] :=by
     simp only[den,B.den,hl,hn,D.aq,D.aV];exact hZ hli
    have iR:=iG _ (ca hli)
    have PF:=(cN iR).1
    obtain⟨b,off,cap,uu,hv,hc⟩:=(hl▸x2).KE hli
    have Jn:a.eval i= .int k n:=(hn▸y2).cX
    refine⟨.pointer (some ⟨b,off+n.toNat*u.cells.length,none⟩),?_,x1,y1,b,off+n.toNat*u.cells.length,uu,by simp,by rw[gA];exact iR,?_⟩
    ·have h1:=jd (P:=P) (w:=w) iY
     unfold execOp;simp only[ho,hv,Jn,Instr.indexAt,asIntOf]
     simp[run_underlying hu,hb0,xA,h1,gF]
    ·intro j c hj
     rw[gA]at hj
     rw[←PF]
     exact hc j c hj
   ·cases h
  ·cases h
 ·cases h
theorem FJ(ht:jO C w G σ.tm a)(eu:aU C.ρ pc=true)(h:nX P σ pc o=some (s,is)):kX P C w G a o s:=by
 unfold nX at h
 split at h
 ·rename_i t x k n ho
  split at h
  ·rename_i len el id off hu hx
   split at h
   ·rename_i sz iY
    split at h
    ·rename_i hn
     obtain⟨N4,hn1⟩:=hn
     obtain⟨rfl,rfl⟩:=jC h
     obtain⟨h1,h2⟩:=cK ht eu hx
     refine⟨.pointer (some ⟨G.β id,off+n.toNat*sz,none⟩),?_,h1,rfl⟩
     have h3:=jd (P:=P) (w:=w) iY
     have hv:a.eval (.const (.int k n))= .int k n:=rfl
     unfold execOp;simp only[ho,h2,hv,Instr.indexAt,asIntOf]
     simp[run_underlying hu,N4,hn1,h3,gF,Instr.sureAddr]
    ·cases h
   ·cases h
  ·cases h
 ·cases h
theorem Ro{e:E}{n:Int}{k:IntKind}{ρ:Nat→D}(h:M4 e=some n)(hk:Has (.int k) (den ρ e)):den ρ e= .int k n:=by
 unfold M4 at h
 split at h
 ·rename_i hl
  have he:den ρ e=den (fun _=>.top) e:=(dU (n:=0) (fun i hi=>by omega) hl)
  split at h
  ·rename_i k' m hd
   injection h with h;subst h
   obtain⟨m2,h2,_⟩:=dA.1 hk
   rw[he,hd]at h2
   injection h2 with h3 h4
   rw[he,hd,h3]
  ·cases h
 ·cases h
theorem EO(ht:jO C w G σ.tm a)(eu:aU C.ρ pc=true)(h:mG P σ pc o=some (s,is)):kX P C w G a o s:=by
 unfold mG at h
 split at h
 ·rename_i t x i ho
  split at h
  ·rename_i len el id off ie k hu hx hi
   split at h
   ·rename_i sz n iY hn
    split at h
    ·rename_i hn'
     obtain⟨N4,hn1⟩:=hn'
     obtain⟨rfl,rfl⟩:=jC h
     obtain⟨h1,h2⟩:=cK ht eu hx
     obtain⟨_,i2,i3⟩:=dX ht eu hi
     have hd:=Ro hn i3
     rw[hd]at i2
     have hv:=i2.cX
     refine⟨.pointer (some ⟨G.β id,off+n.toNat*sz,none⟩),?_,h1,rfl⟩
     have h3:=jd (P:=P) (w:=w) iY
     unfold execOp;simp only[ho,h2,hv,Instr.indexAt,asIntOf]
     simp[run_underlying hu,N4,hn1,h3,gF,Instr.sureAddr]
    ·cases h
   ·cases h
  ·cases h
 ·cases h
theorem EP(ht:jO C w G σ.tm a)(eu:aU C.ρ pc=true)(h:qT P σ pc o=some (s,is))(iw: ∀it∈is,eU C Φ Pre it):kX P C w G a o s:=by
 unfold qT at h
 split at h
 ·rename_i y hy
  injection h with h;subst h
  exact FJ ht eu hy
 ·split at h
  ·rename_i y hy
   injection h with h;subst h
   exact EO ht eu hy
  ·exact IM ht eu h iw
theorem Wd(ht:jO C w G σ.tm a)(eu:aU C.ρ pc=true)(h:Oq P σ pc o=some (s,is))(iw: ∀it∈is,eU C Φ Pre it):kX P C w G a o s:=by
 unfold Oq at h
 split at h
 ·rename_i x ho
  have fin: ∀{ad:Addr},a.eval x= .pointer (some ad)→(execOp a.eval o).run P w= .ok (.value (.pointer (some ad))) w:=by
   intro ad hv
   unfold execOp;simp only[ho,hv];rfl
  split at h
  ·rename_i id off hx
   obtain⟨rfl,rfl⟩:=jC h
   have hr:=cK ht eu hx
   exact⟨_,fin hr.2,hr.1,rfl⟩
  ·rename_i e fs off hx
   obtain⟨rfl,rfl⟩:=jC h
   have hr:=cK ht eu hx
   obtain⟨h1,b,l,u',hd,hl,hv,hc⟩:=hr
   exact⟨_,fin hv,h1,b,l,u',hd,hl,rfl,hc⟩
  ·rename_i l i u off hx
   obtain⟨rfl,rfl⟩:=jC h
   have hr:=cK ht eu hx
   obtain⟨h1,h2,b,o',u',hv,hh,hc⟩:=hr
   exact⟨_,fin hv,h1,h2,b,o',u',rfl,hh,hc⟩
  ·rename_i g i u off hx
   obtain⟨rfl,rfl⟩:=jC h
   have hr:=cK ht eu hx
   obtain⟨h1,h2,b,cap,m,h3,h4,h5,hv⟩:=hr
   exact⟨_,fin hv,h1,h2,b,cap,m,h3,h4,h5,rfl⟩
  ·rename_i e fs hx
   obtain⟨rfl,rfl⟩:=jC h
   have hr:=cK ht eu hx
   obtain⟨h1,h2,h3⟩:=hr
   obtain⟨l,hl,hh⟩:=jH.1 h3
   obtain⟨b,cs,hv,_⟩:=(hl▸h2).yS
   exact⟨_,fin hv,h1,by rw[←hv];exact h2,h3⟩
  ·rename_i e fs hx
   obtain⟨rfl,rfl⟩:=jC h
   have hr:=cK ht eu hx
   obtain⟨h1,h2,h3⟩:=hr
   have fX:eU C Φ Pre (.lM pc (.un .not (.un .De e))):=iw _ (by simp)
   have hb:=fX.2 eu
   rcases m9.1 h3 with hn|⟨l,hl,hh⟩
   ·simp[den,U.den,hn,D.ic,D.gV]at hb
   ·obtain⟨b,cs,hv,_⟩:=(hl▸h2).yS
    exact⟨_,fin hv,h1,by rw[←hv];exact h2,jH.2 ⟨l,hl,hh⟩⟩
  ·cases h
 ·cases h
theorem lq{t:TypeId}{n:Nat}(hs:jF P t=some n)(ha:j5 P t=true){b off:Nat}{vs:List Value}(hl:vs.length=n)
  (hc: ∀(j:Nat) v,vs[j]? =some v→w.cell? ⟨b,off+j,none⟩=some v):(Instr.loadAt t (.pointer (some ⟨b,off,none⟩))).run P w= .ok (.agg vs.toArray) w:=by
 have hu: ∃d,P.underlying t=some d:=by
  unfold j5 at ha
  cases hq:P.underlying t with
  |none=>rw[hq]at ha;cases ha
  |some d=>exact⟨d,rfl⟩
 obtain⟨d,hu⟩:=hu
 have h1:=AB (P:=P) (w:=w) hu
 have h2:=run_loadCells_list (P:=P) w ⟨b,off,none⟩ vs (fun j v hv=>by rw[gF];exact hc j v hv)
 rw[ha]at h1
 simp[Instr.loadAt,Instr.sureAddr,loadVar,h1,jd hs,←hl,h2]
theorem pA{t:TypeId}(ha:j5 P t=false)(hu:(P.underlying t).isSome=true){ad:Addr}{v:Value}(hc:w.cell? ad=some v):(Instr.loadAt t (.pointer (some ad))).run P w= .ok v w:=by
 obtain⟨d,hu⟩:=dH.1 hu
 have h1:=AB (P:=P) (w:=w) hu
 rw[ha]at h1
 simp[Instr.loadAt,Instr.sureAddr,loadVar,h1,hc]
theorem qW{T:TypeId}{e:E}{u:Ty}{off:Nat}(h:rV P T e u off=some (s,is))(hu:(P.underlying T).isSome=true){b o':Nat}{uu:Nat→Value}
  (he:e.lt C.N=true) (hh:Has u (den C.ρ e)) (hc: ∀(j:Nat) c,(den C.ρ e).cells[j]? =some c→w.cell? ⟨b,o'+j,none⟩=some (uu j)∧cH w G.S (uu j) c):
  ∃v,(Instr.loadAt T (.pointer (some ⟨b,o'+off,none⟩))).run P w= .ok v w∧Ab C w G s v:=by
 have X4: ∀{t:Ty} {e':E} {c:D},j5 P T=false→e'.lt C.N=true→den C.ρ e'=c→(den C.ρ e).cells[off]? =some c→Has t c→s= .one (.iW e' t)→ ∃v,(Instr.loadAt T (.pointer (some ⟨b,o'+off,none⟩))).run P w= .ok v w∧Ab C w G s v:=by
  intro t e' c ha bP hd hj RN hs
  subst hs
  obtain⟨h2,h3⟩:=hc off c hj
  exact⟨_,pA ha hu h2,bP,by rw[hd];exact h3,by rw[hd];exact RN⟩
 unfold rV at h
 split at h
 ·rename_i fs n hs
  obtain⟨l,hl,hhl⟩:=eN.1 hh
  have hlen:=il hhl
  rw[hl]at hc X4
  simp only[D.cells]at hc X4
  split at h
  ·rename_i ha
   split at h
   ·rename_i lQ
    obtain⟨rfl,hn⟩:=lQ
    obtain⟨rfl,rfl⟩:=jC h
    have RZ:((List.range n).map uu).length=n:=by simp
    refine⟨_,lq hs ha (vs:=(List.range n).map uu) RZ (fun j v hv=> ?_),he,?_,hh⟩
    ·have hj:j<n:=by have:=(aH.1 hv).1;simpa using this
     simp only[ah,dN hj,aP,ae]at hv
     subst hv
     have lZ:l[j]? =some l[j] :=aW (by omega)
     exact(hc j _ lZ).1
    ·rw[hl]
     refine .agg _ l (by simp[hlen,hn]) fun i v d hi hd=> ?_
     have hj:i<n:=by have:=(aH.1 hi).1;simpa using this
     simp only[ah,dN hj,aP,ae]at hi
     subst hi
     exact(hc i d hd).2
   ·split at h
    ·rename_i hle
     obtain⟨rfl,rfl⟩:=jC h
     have RZ:((List.range n).map fun j=>uu (off+j)).length=n:=by simp
     have hd:den C.ρ (.un (.part off n) e)= .agg ((l.drop off).take n):=by simp only[den,U.den,hl,D.aV]
     refine⟨_,lq hs ha (vs:=(List.range n).map fun j=>uu (off+j)) RZ (fun j v hv=> ?_),by simpa [E.lt]using he,?_,?_⟩
     ·have hj:j<n:=by have:=(aH.1 hv).1;simpa using this
      simp only[ah,dN hj,aP,ae]at hv
      subst hv
      have lZ:l[off+j]? =some l[off+j] :=aW (by omega)
      rw[fo]
      exact(hc _ _ lZ).1
     ·rw[hd]
      refine .agg _ _ (by simp;omega) fun i v d hi hd=> ?_
      have hj:i<n:=by have:=(aH.1 hi).1;simpa using this
      simp only[ah,dN hj,aP,ae]at hi
      subst hi
      simp only[aG,aO,if_pos hj]at hd
      exact(hc _ d hd).2
     ·rw[hd]
      refine eN.2 ⟨_,rfl,jQ (by simp;omega) fun j u x hj hx=> ?_⟩
      simp only[aG,aO]at hj hx
      split at hj
      ·rename_i hjn
       rw[if_pos hjn]at hx
       obtain⟨y,hy,hhy⟩:=dY hhl _ u hj
       rw[hx]at hy;injection hy with hy;subst hy;exact hhy
      ·cases hj
    ·cases h
  ·rename_i ha
   split at h
   ·rename_i t Jp
    split at h
    ·obtain⟨rfl,rfl⟩:=jC h
     obtain⟨x,hx,LH⟩:=dY hhl off t Jp
     have hd:den C.ρ (.un (.cell off) e)=x:=by simp only[den,U.den,hl,D.aV];exact hZ hx
     exact X4 (by simpa using ha) (by simpa [E.lt]using he) hd hx LH rfl
    ·cases h
   ·cases h
 ·rename_i u _ _ _
  split at h
  ·rename_i lQ
   obtain⟨ha,rfl,mf⟩:=lQ
   obtain⟨rfl,rfl⟩:=jC h
   obtain⟨k1,k2⟩:=cN hh
   have hu1:u.cells=[u] :=by cases u<;>first|rfl|cases mf
   rw[hu1]at k1 k2
   obtain⟨x,hx,LH⟩:=k2 0 u rfl
   have hxd:x=den C.ρ e:=by
    generalize den C.ρ e=d at*
    cases u<;>(first|cases mf|skip)<;>simp only[dA,dz,oa,bK,jH,m9,mo]at hh
    case ptr=>rcases hh with rfl|⟨n,rfl,_⟩<;>(simp[D.cells]at hx;exact hx.symm)
    all_goals first
     |(obtain⟨n,rfl,_⟩:=hh;simp[D.cells]at hx;exact hx.symm)
     |(obtain⟨n,rfl⟩:=hh;simp[D.cells]at hx;exact hx.symm)
   exact X4 ha he hxd.symm hx (by rw[hxd];exact hh) rfl
  ·cases h
theorem QO{rd:List Nat}(hm:fp w0 S0 C G σ w)(ht:jO C w G σ.tm a)(eu:aU C.ρ pc=true)(h:HM P σ pc o=some ((s,is),rd)):kX P C w G a o s:=by
 unfold HM at h
 split at h
 ·rename_i t x ho
  have fin: ∀{v u:Value},a.eval x=v→(Instr.loadAt t v).run P w= .ok u w→(execOp a.eval o).run P w= .ok (.value u) w:=by
   intro v u hv hr
   unfold execOp;simp only[ho,hv]
   rw[bA,hr];rfl
  split at h
  ·cases h
  ·rename_i kV
   have kV:(P.underlying t).isSome=true:=by cases hq:P.underlying t<;>simp[hq]at kV⊢
   split at h
   ·rename_i id off hx
    have hv:=(cK ht eu hx).2
    split at h
    ·rename_i ro cs fD
     obtain⟨_,_,fZ,_⟩:=hm.box id ro cs fD
     split at h
     ·cases h
     rename_i E2
     obtain⟨vs,T,hg,hr⟩:=fZ.cells (by simpa using E2)
     have eW: ∀j,w.cell? ⟨G.β id,j,none⟩=vs[j]? :=by intro j;rw[cell_of_row w _ j _ T _ hg];simp
     split at h
     ·rename_i ha
      split at h
      ·rename_i n hs
       split at h
       ·rename_i hle
        injection h with h;simp only[ai]at h;obtain⟨⟨rfl,rfl⟩,rfl⟩:=h
        have hlen:((vs.drop off).take n).length=n:=by have:=hr.1;simp;omega
        refine⟨_,fin hv (lq hs ha hlen (fun j v hj=> ?_)),_,rfl,hr.cut off n⟩
        rw[eW]
        simp only[aG,aO]at hj
        split at hj
        ·exact hj
        ·cases hj
       ·cases h
      ·cases h
     ·rename_i ha
      split at h
      ·rename_i c hc
       injection h with h;simp only[ai]at h;obtain⟨⟨rfl,rfl⟩,rfl⟩:=h
       have bP:off<vs.length:=by rw[hr.1];exact(aH.1 hc).1
       have N1:vs[off]? =some vs[off] :=aW bP
       exact⟨_,fin hv (pA (by simpa using ha) kV ((eW off).trans N1)),hr.2 off c _ hc N1⟩
      ·cases h
    ·cases h
   ·rename_i l i u off hx
    simp only[da,ai]at h
    obtain⟨⟨s',is'⟩,h1,⟨rfl,rfl⟩,rfl⟩:=h
    obtain⟨h2,h3,b,o',uu,hv,hh,hc⟩:=cK ht eu hx
    obtain⟨v,k1,k2⟩:=qW (P:=P) (C:=C) (w:=w) (G:=G) h1 kV (by simp[E.lt,h2,h3]) hh (fun j c hj=>(hc j c hj).2)
    exact⟨v,fin hv k1,k2⟩
   ·rename_i e fs off hx
    simp only[da,ai]at h
    obtain⟨⟨s',is'⟩,h1,⟨rfl,rfl⟩,rfl⟩:=h
    obtain⟨h2,b,l,uu,hd,hh,hv,hc⟩:=cK ht eu hx
    have kO:den C.ρ (.un .agg e)= .agg l:=by simp only[den,U.den,hd,D.aV]
    obtain⟨v,k1,k2⟩:=qW (P:=P) (C:=C) (w:=w) (G:=G) (b:=b) (o':=0) (uu:=uu) h1 kV (by simpa [E.lt]using h2) (by rw[kO];exact eN.2 ⟨l,rfl,hh⟩)
     (by rw[kO];simp only[D.cells];intro j c hj;rw[ay];exact(hc j c hj).2)
    rw[ay]at k1
    exact⟨v,fin hv k1,k2⟩
   ·rename_i e fs hx
    simp only[da,ai]at h
    obtain⟨⟨s',is'⟩,h1,⟨rfl,rfl⟩,rfl⟩:=h
    obtain⟨h2,jf,iR⟩:=cK ht eu hx
    obtain⟨l,hd,hh⟩:=jH.1 iR
    obtain⟨b,cs,hv,hlen,hS,hc,hr⟩:=(hd▸jf).yS
    have kO:den C.ρ (.un .agg e)= .agg l:=by simp only[den,U.den,hd,D.aV]
    obtain⟨v,k1,k2⟩:=qW (P:=P) (C:=C) (w:=w) (G:=G) (b:=b) (o':=0) (uu:=fun j=>cs.getD j undef) h1 kV (by simpa [E.lt]using h2) (by rw[kO];exact eN.2 ⟨l,rfl,hh⟩)
     (by
      rw[kO];simp only[D.cells];intro j c hj;rw[ay]
      have lZ:j<cs.length:=by rw[hlen];exact(aH.1 hj).1
      have e1:cs[j]? =some (cs.getD j undef):=by simp[List.getD,lZ]
      exact⟨hc j _ e1,hr j _ c e1 hj⟩)
    exact⟨v,fin hv k1,k2⟩
   ·cases h
 ·cases h
end
def n6:List Ty→List Value→Option (List SC)
 | [],[] =>some []
 |t::ts,v::vs=>match ta t v,n6 ts vs with
  |some c,some cs=>some (c::cs)
  |_,_=>none
 |_,_=>none
def xO(place:Nat→Option (Nat×Nat)):List SC→List (Nat×List SC)→Option (List SC)
 |cells,[] =>some cells
 |cells,(i,cs)::rest=>
  match place i with
  |some (off,size)=>if cs.length=size∧off+cs.length≤cells.length then xO place (cells.take off++cs++cells.drop (off+cs.length)) rest else none
  |none=>none
def n9(P:Program)(σ:St)(pc:dI)(hint:Nat→TypeId):List (Nat×Operand)→Option (List (Nat×List SC))
 | [] =>some []
 |(i,x)::rest=>
  match (gu P σ pc x (hint i)).bind oc,n9 P σ pc hint rest with
  |some cs,some r=>if cs.all SC.scalar then some ((i,cs)::r) else none
  |_,_=>none
def Cw(P:Program)(σ:St)(pc:dI)(o:Oper):Option Pl:=
 match o.op with
 |.build t parts=>
  match P.underlying t,P.info? t,flat P J9 t with
  |some (.struct fs),some it,some ts=>
   match it.zero,fs.toList.mapM (fun f=>(P.info? f.type).map fun i=>(f.offset,i.size)),n9 P σ pc (fun i=>((fs[i]?).map (·.type)).getD 0) parts.toList with
   |some z,some Vf,some ps=>
    match n6 ts z.cells.toList with
    |some zs=>(xO (Vf.toArray[·]?) zs ps).map fun cs=>(.agg cs,[])
    |none=>none
   |_,_,_=>none
  |_,_,_=>none
 |_=>none
def sX(agg:Bool)(size:Nat)(es:List E):Nat→List E
 |0=> []
 |n+1=>(if agg then .un .agg (.dJ (es.take size)) else es.headD .nil)::sX agg size (es.drop size) n
def tM(P:Program)(σ:St)(pc:dI)(o:Oper):Option (E×TypeId×Ty×Nat):=
 match o.op with
 |.buildSlice t len parts=>
  match P.underlying t with
  |some (.slice el)=>
   match P.info? el,tyV P el,flat P J9 el,n9 P σ pc (fun _=>el) parts.toList with
   |some ie,some u,some ts,some ps=>
    match ie.zero.bind fun z=>n6 ts z.cells.toList with
    |some zs=>
     if zs.length=ie.size∧u.cells.length=ie.size∧0<ie.size∧len*ie.size≤16777216∧len*u.bytes≤140737488355328 then
      match xO (fun i=>some (i*ie.size,ie.size)) ((List.range (len*ie.size)).map fun j=>zs.getD (j % zs.length) (.po .nil)) ps with
      |some cs=>
       match iO cs with
       |some (es,us)=>
        if us=(List.replicate len u.cells).flatten∧(j5 P el=true∨u.scalar=true) then
         match j5 P el,u with
         |true,.agg fs=>some (.dJ (sX true ie.size es len),el,.agg (.dJ fs.aV),len)
         |false,u=>if ie.size=1 then some (.dJ (sX false 1 es len),el,u,len) else none
         |_,_=>none
        else none
       |none=>none
      |none=>none
     else none
    |none=>none
   |_,_,_,_=>none
  |_=>none
 |_=>none
def adz(k:IntKind):Option Value→Bool
 |some (.int k' z)=>decide (k'=k∧z=0)
 |_=>false
theorem YC{k:IntKind}{z:Option Value}(h:adz k z=true):z=some (.int k 0):=by
 unfold adz at h
 split at h
 ·obtain⟨rfl,rfl⟩:=of_decide_eq_true h;rfl
 ·cases h
def aaP(P:Program)(o:Oper):Option (E×TypeId×Ty×Nat):=
 match o.op with
 |.makeSlice t (.const (.int _ n)) (.const (.int _ m))=>
  match P.underlying t with
  |some (.slice el)=>
   match P.info? el,tyV P el with
   |some ie,some (.int k)=>
    if n=m∧0<n∧n≤1000∧ie.size=1∧adz k ie.zero=true∧ie.bytes≤8 then some (.dJ (List.replicate n.toNat (.aT k 0)),el,.int k,n.toNat) else none
   |_,_=>none
  |_=>none
 |_=>none
def Am(P:Program)(σ:St)(o:Oper):Option (E×TypeId×Ty×Nat):=
 match tM P σ [] o with
 |some (e,T,t,n)=>some (e,T,t,n)
 |none=>aaP P o
section
variable{P:Program}{C:Cx}{w w0:World}{S0:iu}{G:Gh}{σ:St}{a:Act}{o:Oper}{pc:dI}{s:SV}{is:List Item}{Φ:Nat→List D→D}{Pre:Nat→List D→Prop}
theorem DX(ht:jO C w G σ.tm a)(eu:aU C.ρ pc=true)(h:F4 P σ pc o=some (s,is)):kX P C w G a o s:=by
 unfold F4 at h
 split at h
 ·rename_i args argTypes ho
  split at h
  ·rename_i x t fP FY
   split at h
   ·rename_i el e u hu hx
    obtain⟨rfl,rfl⟩:=jC h
    obtain⟨x1,x2,x3⟩:=dX ht eu hx
    obtain⟨l,hl,⟨FV,_⟩,_⟩:=bK.1 x3
    obtain⟨ad,cap,hv⟩:=(hl▸x2).qd
    have sy:args= #[x] :=by apply dg;simpa using fP
    refine⟨.int .i64 l.length,?_,by simpa [E.lt]using x1,?_,?_⟩
    ·unfold execOp;simp only[ho,resolve,invoke,builtin,sy]
     simp[Builtin.len_,FY,hv,run_underlying hu,goInt]
    ·simp only[den,U.den,hl,D.aV];exact .int _ _
    ·simp only[den,U.den,hl,D.aV]
     refine dA.2 ⟨_,rfl,?_,?_⟩
     ·show i64.min≤_;simp[IntKind.min,IntKind.signed,IntKind.bits];try omega
     ·show _≤i64.max;simp[IntKind.max,IntKind.signed,IntKind.bits];simp only[maxLen]at FV;omega
   ·cases h
  ·cases h
 ·rename_i args _ ho
  split at h
  ·rename_i x y fP
   split at h
   ·rename_i ex k ey k' hx hy
    split at h
    ·rename_i hk
     subst hk
     obtain⟨rfl,rfl⟩:=jC h
     obtain⟨x1,x2,x3⟩:=dX ht eu hx
     obtain⟨y1,y2,y3⟩:=dX ht eu hy
     obtain⟨i,hi,Hg⟩:=dA.1 x3
     obtain⟨j,hj,BT⟩:=dA.1 y3
     have e1:=(hi▸x2).cX
     have e2:=(hj▸y2).cX
     have sy:args= #[x,y] :=by apply dg;simpa using fP
     refine⟨.int k (if j<i then j else i),?_,by simp[E.lt,x1,y1],?_,?_⟩
     ·unfold execOp;simp only[ho,resolve,invoke,builtin,sy]
      simp[Builtin.min_,Builtin.min2,e1,e2]
     ·simp only[den,B.den,hi,hj,D.aq];exact .int _ _
     ·simp only[den,B.den,hi,hj,D.aq]
      refine dA.2 ⟨_,rfl,?_⟩
      split<;>assumption
    ·cases h
   ·cases h
  ·cases h
 ·rename_i args _ ho
  split at h
  ·rename_i x y fP
   split at h
   ·rename_i ex k ey k' hx hy
    split at h
    ·rename_i hk
     subst hk
     obtain⟨rfl,rfl⟩:=jC h
     obtain⟨x1,x2,x3⟩:=dX ht eu hx
     obtain⟨y1,y2,y3⟩:=dX ht eu hy
     obtain⟨i,hi,Hg⟩:=dA.1 x3
     obtain⟨j,hj,BT⟩:=dA.1 y3
     have e1:=(hi▸x2).cX
     have e2:=(hj▸y2).cX
     have sy:args= #[x,y] :=by apply dg;simpa using fP
     refine⟨.int k (if j>i then j else i),?_,by simp[E.lt,x1,y1],?_,?_⟩
     ·unfold execOp;simp only[ho,resolve,invoke,builtin,sy]
      simp[Builtin.max_,Builtin.max2,e1,e2]
     ·simp only[den,B.den,hi,hj,D.aq];exact .int _ _
     ·simp only[den,B.den,hi,hj,D.aq]
      refine dA.2 ⟨_,rfl,?_⟩
      split<;>assumption
    ·cases h
   ·cases h
  ·cases h
 ·cases h
theorem td: ∀{ts:List Ty} {vs:List Value} {cs:List SC},n6 ts vs=some cs→lA C w G cs vs
 | [],[],cs,h=>by simp only[n6,ae]at h;subst h;exact⟨rfl,by intro i c v hi;simp at hi⟩
 |t::ts,v::vs,cs,h=>by
  simp only[n6]at h
  split at h
  ·rename_i c tI h1 h2
   injection h with h;subst h
   have ih:=td h2
   refine⟨by simp[ih.1],fun i c' v' hi hv=> ?_⟩
   cases i with
   |zero=>simp at hi hv;subst hi;subst hv;exact(GQ h1).1
   |succ i=>exact ih.2 i c' v' (by simpa using hi) (by simpa using hv)
  ·cases h
 | [],_::_,_,h=>by cases h
 |_::_,[],_,h=>by cases h
theorem foldl_set(off:Nat): ∀(us:List Value) (k:Nat) (vs:List Value),off+k+us.length≤vs.length→
  (us.zipIdx k).foldl (fun(cs:Array Value) (x:Value×Nat)=>cs.setIfInBounds (off+x.2) x.1) vs.toArray=(vs.take (off+k)++us++vs.drop (off+k+us.length)).toArray
 | [],k,vs,_=>by simp
 |u::us,k,vs,h=>by
  have ih:=foldl_set off us (k+1) (vs.set (off+k) u) (by simp at h⊢;omega)
  simp only[List.zipIdx_cons,List.foldl_cons,List.setIfInBounds_toArray,ih]
  congr 1
  have:=list_seg_step vs (off+k) u us (by simp at h;omega)
  rw[show off+(k+1)=off+k+1 by omega]
  simpa [fo]using this
theorem lA.UZ{l cs:List SC}{vs us:List Value}(h:lA C w G l vs)(h':lA C w G cs us){off:Nat}(hle:off+cs.length≤l.length):
  lA C w G (l.take off++cs++l.drop (off+cs.length)) (vs.take off++us++vs.drop (off+us.length)):=by
 have hl:=h.1
 have lD:=h'.1
 refine⟨by simp[hl,lD],fun i c v hc hv=> ?_⟩
 rw[dG,dG]at hc hv
 simp only[an,bj,hl,lD,Nat.min_eq_left (show off≤l.length by omega)]at hc hv
 by_cases h1:i<off+cs.length
 ·rw[if_pos h1]at hc hv
  by_cases h2:i<off
  ·rw[if_pos h2]at hc hv
   simp only[aG,if_pos h2]at hc hv
   exact h.2 i c v hc hv
  ·rw[if_neg h2]at hc hv
   exact h'.2 _ c v hc hv
 ·rw[if_neg h1]at hc hv
  simp only[aO]at hc hv
  exact h.2 _ c v hc hv
theorem AL(place:Nat→Option (Nat×Nat)): ∀(parts:List (Nat×List SC)) (jZ:List (Nat×Value)) (cells DL:List SC) (vs:List Value),xO place cells parts=some DL→lA C w G cells vs→
  parts.length=jZ.length→(∀(i:Nat) x y,parts[i]? =some x→jZ[i]? =some y→x.1=y.1∧ ∃us:List Value,y.2.cells=us.toArray∧lA C w G x.2 us)→
  ∃G4:List Value,Instr.fill place vs.toArray jZ=some G4.toArray∧lA C w G DL G4
 | [],[],cells,DL,vs,h,hr,_,_=>by
  simp only[xO,ae]at h;subst h
  exact⟨vs,rfl,hr⟩
 | [],_::_,_,_,_,_,_,hl,_=>by simp at hl
 |_::_,[],_,_,_,_,_,hl,_=>by simp at hl
 |(i,cs)::parts,(j,v)::jZ,cells,DL,vs,h,hr,hl,hp=>by
  obtain⟨yp,us,hv,PI⟩:=hp 0 _ _ rfl rfl
  simp only at yp hv PI
  subst yp
  simp only[xO]at h
  split at h
  ·rename_i off size xw
   split at h
   ·rename_i hc
    obtain⟨qZ,wP⟩:=hc
    obtain⟨G4,h1,h2⟩:=AL place parts jZ _ DL _ h (hr.UZ PI wP) (by simpa using hl) (fun k x y hx hy=>hp (k+1) x y (by simpa using hx) (by simpa using hy))
    refine⟨G4,?_,h2⟩
    have hlen:us.length=cs.length:=PI.1
    simp only[Instr.fill,xw,hv]
    have hf:=foldl_set off us 0 vs (by rw[hr.1,hlen];omega)
    simp only[ep]at hf
    have mV: ¬((us.toArray.size≠size||decide (off+us.toArray.size>vs.toArray.size))=true):=by
     simp[hlen,qZ,hr.1];omega
    rw[if_neg mV]
    have h3:us.toArray.zipIdx.foldl (fun cs (x:Value×Nat)=>cs.setIfInBounds (off+x.2) x.1) vs.toArray=(vs.take off++us++vs.drop (off+us.length)).toArray:=by
     rw[←hf,show us.toArray.zipIdx=(us.zipIdx).toArray by simp]
     exact List.foldl_toArray' _ _ _ (by simp)
    exact(congrArg (fun z=>Instr.fill place z jZ) h3).trans h1
   ·cases h
  ·cases h
theorem xT(ht:jO C w G σ.tm a)(eu:aU C.ρ pc=true)(hint:Nat→TypeId): ∀(l:List (Nat×Operand)) (ps:List (Nat×List SC)),n9 P σ pc hint l=some ps→
  ps.length=(l.map fun(x:Nat×Operand)=>(x.1,a.eval x.2)).length∧ ∀(i:Nat) x y,ps[i]? =some x→(l.map fun(x:Nat×Operand)=>(x.1,a.eval x.2))[i]? =some y→x.1=y.1∧ ∃us:List Value,y.2.cells=us.toArray∧lA C w G x.2 us
 | [],ps,h=>by simp only[n9,ae]at h;subst h;exact⟨rfl,by intro i x y hi;simp at hi⟩
 |(i,x)::l,ps,h=>by
  simp only[n9]at h
  split at h
  ·rename_i cs r h1 h2
   split at h
   ·rename_i mf
    injection h with h;subst h
    obtain⟨k1,k2⟩:=xT ht eu hint l r h2
    refine⟨by simp[k1],fun j y z hy hz=> ?_⟩
    cases j with
    |zero=>
     simp at hy hz;subst hy;subst hz
     refine⟨rfl,?_⟩
     cases hg:gu P σ pc x (hint i) with
     |none=>simp[hg]at h1
     |some sv=>
      simp only[hg,cu]at h1
      exact tk h1 (cK ht eu hg) mf
    |succ j=>exact k2 j y z (by simpa using hy) (by simpa using hz)
   ·cases h
  ·cases h
theorem Nt(ht:jO C w G σ.tm a)(eu:aU C.ρ pc=true)(h:Cw P σ pc o=some (s,is)):kX P C w G a o s:=by
 unfold Cw at h
 split at h
 ·rename_i t parts ho
  split at h
  ·rename_i fs it ts hu hi wM
   split at h
   ·rename_i z Vf ps hz xw hps
    split at h
    ·rename_i zs yl
     simp only[da,ai]at h
     obtain⟨cs,kP,rfl,_⟩:=h
     obtain⟨k1,k2⟩:=xT ht eu _ _ _ hps
     have hz0:=td (C:=C) (w:=w) (G:=G) yl
     obtain⟨vs,h1,h2⟩:=AL _ _ _ _ _ _ kP hz0 k1 k2
     refine⟨.agg vs.toArray,?_,vs,rfl,h2⟩
     have hb:P.built t (parts.map fun(i,x)=>(i,a.eval x)).toList=some vs.toArray:=by
      unfold Program.built
      simp only[hi,hu,hz,xw]
      rw[Array.toList_map]
      simpa using h1
     unfold execOp;simp only[ho,bA,run_build w t _ _ hb,ct]
     rfl
    ·cases h
   ·cases h
  ·cases h
 ·cases h
theorem Nq(ht:jO C w G σ.tm a)(eu:aU C.ρ pc=true)(h:Ct P σ pc o=some (s,is))(iw: ∀it∈is,eU C Φ Pre it):kX P C w G a o s:=by
 unfold Ct at h
 split at h
 ·rename_i t x lo hi ho
  split at h
  ·rename_i el e u hu hx
   simp only at h
   split at h
   ·rename_i l k hh k' Lr XM
    split at h
    ·rename_i iY
     obtain⟨iY,ir⟩:=iY
     obtain⟨rfl,rfl⟩:=jC h
     obtain⟨x1,x2,x3⟩:=dX ht eu hx
     obtain⟨ds,hl,FV,iG⟩:=bK.1 x3
     have fX:eU C Φ Pre (.lM pc (.bin .and (.bin .le (.aT k 0) l) (.bin .and (.bin .le l hh) (.bin .le hh (.un .len e))))):=iw _ (by simp)
     have hb:=fX.2 eu
     have kl: ∃n:Int,den C.ρ l= .int k n∧l.lt C.N=true∧(∀i,lo=some i→a.eval i= .int k n)∧(lo=none→n=0):=by
      cases lo with
      |none=>simp only[ae,ai]at Lr;obtain⟨rfl,rfl⟩:=Lr;exact⟨0,rfl,rfl,by simp,fun _=>rfl⟩
      |some i=>
       simp only at Lr
       split at Lr
       ·rename_i ie ki Hg
        simp only[ae,ai]at Lr;obtain⟨rfl,rfl⟩:=Lr
        obtain⟨y1,y2,y3⟩:=dX ht eu Hg
        obtain⟨n,hn,_⟩:=dA.1 y3
        exact⟨n,hn,y1,fun j hj=>by injection hj with hj;subst hj;exact(hn▸y2).cX,by simp⟩
       ·cases Lr
     have kh: ∃n:Int,(∃k,den C.ρ hh= .int k n)∧hh.lt C.N=true∧(∀i,hi=some i→ ∃k,a.eval i= .int k n)∧(hi=none→n=ds.length):=by
      cases hi with
      |none=>simp only[ae,ai]at XM;obtain⟨rfl,rfl⟩:=XM;exact⟨ds.length,⟨.i64,by simp only[den,U.den,hl,D.aV]⟩,by simpa [E.lt]using x1,by simp,fun _=>rfl⟩
      |some i=>
       simp only at XM
       split at XM
       ·rename_i ie ki Hg
        simp only[ae,ai]at XM;obtain⟨rfl,rfl⟩:=XM
        obtain⟨y1,y2,y3⟩:=dX ht eu Hg
        obtain⟨n,hn,_⟩:=dA.1 y3
        exact⟨n,⟨_,hn⟩,y1,fun j hj=>by injection hj with hj;subst hj;exact⟨_,(hn▸y2).cX⟩,by simp⟩
       ·cases XM
     obtain⟨n,hn,nlt,hnv,N4⟩:=kl
     obtain⟨m,⟨km,hm⟩,mlt,XK,RL⟩:=kh
     simp only[den,B.den,U.den,hl,hn,hm,D.aq,D.gV,D.aV,bc,bQ]at hb
     obtain⟨b1,b2,b3⟩:=hb
     have gA:den C.ρ (.bin .drop (.bin .take e hh) l)= .list ((ds.take m.toNat).drop n.toNat):=by simp only[den,B.den,hl,hn,hm,D.aq,D.aV]
     have hlen:((ds.take m.toNat).drop n.toNat).length=m.toNat-n.toNat:=by simp;omega
     have Hc: ∀(ad:Option Addr) (cap:Nat),ds.length≤cap→(Instr.sliceAt t (.slice ad ds.length cap) (lo.map a.eval) (hi.map a.eval) none).run P w=
       .ok (.slice (if cap=n.toNat then ad else ad.map (·.add (n.toNat*u.cells.length))) (m.toNat-n.toNat) (cap-n.toNat)) w:=by
      intro ad cap ke
      have h1:=jd (P:=P) (w:=w) iY
      have h2: ∀kk code,(Instr.sliceBound (.int kk m) cap code).run P w= .ok m.toNat w:=fun kk code=>run_sliceBound w kk m cap code (by omega) (by omega)
      have h3: ∀code,(Instr.sliceBound (.int k n) m.toNat code).run P w= .ok n.toNat w:=fun code=>run_sliceBound w k n m.toNat code (by omega) (by omega)
      have e1:(do
        let m'←match (none:Option Value) with
         |some v=>Instr.sliceBound v cap (if true then .slice3Acap else .slice3Alen)
         |none=>pure cap
        let h←match hi.map a.eval,(none:Option Value) with
         |some v,some _=>Instr.sliceBound v m' .slice3B
         |some v,none=>Instr.sliceBound v m' (if true then .sliceAcap else .sliceAlen)
         |none,none=>pure ds.length
         |none,some _=>stuck "Slice: max without high"
        let l←match lo.map a.eval with
         |some v=>Instr.sliceBound v h (if(none:Option Value).isSome then .slice3C else .sliceB)
         |none=>pure 0
        pure (l,h,m'):Sem (Nat×Nat×Nat)).run P w= .ok (n.toNat,m.toNat,cap) w:=by
       cases hi with
       |none=>
        have:=RL rfl
        have mI:m.toNat=ds.length:=by omega
        cases lo with
        |none=>have:=N4 rfl;simp[this,mI]
        |some i=>rw[mI]at h3;simp[hnv i rfl,h3,mI]
       |some j=>
        obtain⟨kk,hj⟩:=XK j rfl
        cases lo with
        |none=>have:=N4 rfl;simp[this,hj,h2]
        |some i=>simp[hnv i rfl,h3,hj,h2]
      have e2:(Instr.sliceBounds true ds.length cap (lo.map a.eval) (hi.map a.eval) none).run P w= .ok (n.toNat,m.toNat,cap) w:=e1
      simp[Instr.sliceAt,Instr.slice,run_underlying hu,e2,h1]
     have fin: ∀{ad:Option Addr} {cap:Nat},a.eval x= .slice ad ds.length cap→ds.length≤cap→(∀v,v=Value.slice (if cap=n.toNat then ad else ad.map (·.add (n.toNat*u.cells.length))) (m.toNat-n.toNat) (cap-n.toNat)→cH w G.S v (.list ((ds.take m.toNat).drop n.toNat)))→kX P C w G a o (.one (.iW (.bin .drop (.bin .take e hh) l) (.list u))):=by
      intro ad cap hv ke jf
      refine⟨_,?_,by simp[E.lt,x1,nlt,mlt],by rw[gA];exact jf _ rfl,?_⟩
      ·unfold execOp;simp only[ho,hv,Option.map_none,bA,Hc ad cap ke,ct];rfl
      ·rw[gA]
       exact bK.2 ⟨_,rfl,FV.mono (by omega),fun y hy=>iG y (eK (eL hy))⟩
     have r7:=hl▸x2
     by_cases hz:m.toNat-n.toNat=0
     ·have Hs:(ds.take m.toNat).drop n.toNat=[] :=au (by omega)
      have hle: ∃ad cap,a.eval x= .slice ad ds.length cap∧ds.length≤cap:=by
       generalize a.eval x=v at r7
       cases r7 with
       |nil ad cap=>exact⟨ad,cap,rfl,bf _⟩
       |list b off cap sz xs _ _ _ ke=>exact⟨_,cap,rfl,ke⟩
      obtain⟨ad,cap,hv,ke⟩:=hle
      refine fin hv ke fun v zN=> ?_
      rw[Hs,zN,hz]
      exact .nil _ _
     ·generalize Xb:a.eval x=v at r7
      cases r7 with
      |nil ad cap=>simp at b3;omega
      |list b off cap sz xs _ Fs fY ke nq hS hc hw hr=>
       refine fin Xb ke fun v' zN=> ?_
       have ala:sz=u.cells.length:=by
        cases qC:ds with
        |nil=>exact absurd qC fY
        |cons d r=>
         have:=hw 0 d (by rw[qC];rfl)
         rw[←this];exact(cN (iG d (by rw[qC];simp))).1
       have aoF:cap≠n.toNat:=by omega
       rw[zN,if_neg aoF,←hlen]
       simp only[aP,gF]
       have hmul:n.toNat*sz≤xs.length:=by rw[nq];exact az _ (by omega)
       refine .list b _ _ sz ((xs.drop (n.toNat*sz)).take ((m.toNat-n.toNat)*sz)) _ Fs (fun e=>hz (by rw[←hlen,e];rfl)) (by omega) ?_ ?_ ?_ ?_ ?_
       ·rw[hlen,bj,bF,nq,←Nat.sub_mul]
        exact Nat.min_eq_left (az _ (by omega))
       ·intro i hi
        have:i<xs.length-n.toNat*sz:=by simp at hi;omega
        rw[←ala,fo];exact hS _ (by omega)
       ·intro i v hi
        simp only[aG,aO]at hi
        split at hi
        ·rw[←ala,fo];exact hc _ v hi
        ·cases hi
       ·intro i d hi
        exact hw _ d (by simp only[aO,aG]at hi;split at hi;exact hi;cases hi)
       ·intro i d j v c hi hj hv
        simp only[aO,aG]at hi
        split at hi
        ·refine hr (n.toNat+i) d j v c hi hj ?_
         simp only[aG,aO]at hv
         split at hv
         ·rw[←hv,cw,fo]
         ·cases hv
        ·cases hi
    ·cases h
   ·cases h
  ·cases h
 ·cases h
theorem K2(ht:jO C w G σ.tm a)(eu:aU C.ρ pc=true)(h:zg P σ pc o=some (s,is))(iw: ∀it∈is,eU C Φ Pre it):kX P C w G a o s:=by
 unfold zg at h
 split at h
 ·rename_i t x hi mx ho
  split at h
  ·rename_i el e u hh k mm k' hu hx XM He
   split at h
   ·rename_i iY
    obtain⟨iY,ir,rfl⟩:=iY
    obtain⟨rfl,rfl⟩:=jC h
    obtain⟨x1,x2,x3⟩:=dX ht eu hx
    obtain⟨ds,hl,FV,iG⟩:=bK.1 x3
    obtain⟨y1,y2,y3⟩:=dX ht eu XM
    obtain⟨_,z2,_⟩:=dX ht eu He
    obtain⟨m,hm,_⟩:=dA.1 y3
    have fX:eU C Φ Pre (.lM pc (.bin .and (.bin .le (.aT k 0) hh) (.bin .le hh (.un .len e)))):=iw _ (by simp)
    have hb:=fX.2 eu
    simp only[den,B.den,U.den,hl,hm,D.aq,D.gV,D.aV,bc,bQ]at hb
    obtain⟨b1,b2⟩:=hb
    have hhv:a.eval hi= .int k m:=(hm▸y2).cX
    have XK:a.eval mx= .int k m:=(hm▸z2).cX
    have gA:den C.ρ (.bin .take e hh)= .list (ds.take m.toNat):=by simp only[den,B.den,hl,hm,D.aq,D.aV]
    have hlen:(ds.take m.toNat).length=m.toNat:=by simp;omega
    have Hc: ∀(ad:Option Addr) (cap:Nat),ds.length≤cap→(Instr.sliceAt t (.slice ad ds.length cap) none (some (.int k m)) (some (.int k m))).run P w=
      .ok (.slice (if m.toNat=0 then ad else ad.map (·.add (0*u.cells.length))) m.toNat m.toNat) w:=by
     intro ad cap ke
     have h1:=jd (P:=P) (w:=w) iY
     have h2: ∀code,(Instr.sliceBound (.int k m) cap code).run P w= .ok m.toNat w:=fun code=>run_sliceBound w k m cap code (by omega) (by omega)
     have h3: ∀code,(Instr.sliceBound (.int k m) m.toNat code).run P w= .ok m.toNat w:=fun code=>run_sliceBound w k m m.toNat code (by omega) (by omega)
     have e2:(Instr.sliceBounds true ds.length cap none (some (.int k m)) (some (.int k m))).run P w= .ok (0,m.toNat,m.toNat) w:=by
      simp[Instr.sliceBounds,h2,h3]
     simp[Instr.sliceAt,Instr.slice,run_underlying hu,e2,h1]
    have fin: ∀{ad:Option Addr} {cap:Nat},a.eval x= .slice ad ds.length cap→ds.length≤cap→(∀v,v=Value.slice (if m.toNat=0 then ad else ad.map (·.add (0*u.cells.length))) m.toNat m.toNat→cH w G.S v (.list (ds.take m.toNat)))→kX P C w G a o (.one (.clip (.bin .take e hh) u)):=by
     intro ad cap hv ke jf
     refine⟨_,?_,by simp[E.lt,x1,y1],by rw[gA];exact jf _ rfl,?_,?_⟩
     ·unfold execOp;simp only[ho,hv,hhv,XK,Option.map_none,aP,bA,Hc ad cap ke,ct];rfl
     ·rw[gA]
      exact bK.2 ⟨_,rfl,FV.mono (by omega),fun y hy=>iG y (eK hy)⟩
     ·rw[gA];simp only[D.aV,hlen];exact⟨_,rfl⟩
    have r7:=hl▸x2
    by_cases hz:m.toNat=0
    ·have hle: ∃ad cap,a.eval x= .slice ad ds.length cap∧ds.length≤cap:=by
      generalize a.eval x=v at r7
      cases r7 with
      |nil ad cap=>exact⟨ad,cap,rfl,bf _⟩
      |list b off cap sz xs _ _ _ ke=>exact⟨_,cap,rfl,ke⟩
     obtain⟨ad,cap,hv,ke⟩:=hle
     refine fin hv ke fun v zN=> ?_
     rw[zN,hz]
     exact .nil _ _
    ·generalize Xb:a.eval x=v at r7
     cases r7 with
     |nil ad cap=>simp at b2;omega
     |list b off cap sz xs _ Fs fY ke nq hS hc hw hr=>
      refine fin Xb ke fun v' zN=> ?_
      rw[zN,if_neg hz]
      simp only[aP,gF,Nat.zero_mul,ep]
      have key:=cH.list (w:=w) (S:=G.S) b off m.toNat sz (xs.take (m.toNat*sz)) (ds.take m.toNat) Fs (fun e=>hz (by rw[←hlen,e];rfl)) (by omega) (by
        rw[hlen,bj,nq];exact Nat.min_eq_left (az _ (by omega)))
       (fun i hi=>hS _ (by simp at hi;omega))
       (fun i v hi=>by
        simp only[aG]at hi
        split at hi
        ·exact hc _ v hi
        ·cases hi)
       (fun i d hi=>hw _ d (by simp only[aG]at hi;split at hi;exact hi;cases hi))
       (fun i d j v c hi hj hv=>by
        simp only[aG]at hi hv
        split at hi
        ·split at hv
         ·exact hr i d j v c hi hj hv
         ·cases hv
        ·cases hi)
      rw[hlen]at key
      exact key
   ·cases h
  ·cases h
 ·cases h
end
end Go.dV
