/- Part 0 of the proof of RaftLearns; no condition. -/
import Derived.Orders
import Derived.Below
import Derived.Laws.AppendOwn
import Derived.Laws.Rows
import Derived.Laws.Slices
import Derived.Laws.StructEq
import Derived.Laws.Cells
import Derived.Maps.OwnSet
import Derived.Carry
import Derived.DeepKeys4
import Derived.Laws.Closers25b
import Derived.Great.BuildSlice
set_option linter.unusedVariables false
set_option linter.unusedSimpArgs false
set_option maxHeartbeats 4000000
set_option linter.defProp false
open Go.IntKind (i64)
namespace Go.dF
open Go Go.RowKit
abbrev Iv:=Exit->Act->World->Prop
abbrev Tab:=List (Nat×Value)
abbrev Tac:=List Value
abbrev Tad:=Array Oper
abbrev Tae:=World->Prop
abbrev Tah:=List Nat
abbrev Tai:=Nat->Prop
abbrev Taj:=Nat->Value
abbrev Tak:=Option Nat
abbrev Tam:=World
abbrev Tan:=Value
abbrev Tao:=Option
abbrev Tap:=Program
abbrev Tba:=TypeId
abbrev Tbb:=Operand
abbrev Tbc:=Oper
abbrev Tbd:=Array
def aS{a:Type _}{l:List a}{i:Nat}(h:i<l.length):l[i]?=some l[i]:=List.getElem?_eq_getElem h
def aO{b:Type _}{i:Nat}{a:b}{l:List b}:l[i]?=some a↔∃h:i<l.length,l[i]=a:=List.getElem?_eq_some_iff
def bQ{b:Type _}{l:List b}{i:Nat}{a:b}:l[i]?=some a->a∈l:=List.mem_of_getElem?
def dn{c β:Type _}{x:Tao c}{f:c->β}{b:β}:Option.map f x=some b↔∃a,x=some a/\f a=b:=Option.map_eq_some_iff
def bY{a:Type _}{p:a->Bool}{l:List a}:l.all p=true↔∀x∈l,p x=true:=List.all_eq_true
def aT(a b:Bool):((a&&b)=true)=(a=true/\b=true):=Bool.and_eq_true a b
def bk{p:Prop}[Decidable p]:(decide p=true)=p:=decide_eq_true_eq
def fm:=@List.eq_nil_iff_forall_not_mem
def au:=@List.eq_nil_of_length_eq_zero
def aP:=@Array.getElem?_eq_some_iff
def aL:=@List.getElem?_append_right
def ae:=@List.getD_eq_getElem?_getD
def cX:=@List.mem_or_eq_of_mem_set
def eO:=@List.getElem?_eq_none_iff
def an:=@List.getElem?_append_left
def cY:=@List.drop_eq_getElem_cons
def dz:=@Array.getElem?_eq_getElem
def fB:=@List.eq_of_mem_replicate
def dk:=@Option.isSome_iff_exists
def ez:=@Option.bind_eq_some_iff
def fI:=@List.getElem?_replicate
def dw:=@List.getElem?_cons_succ
def du:=@List.getElem?_cons_zero
def bI:=@List.length_eq_one_iff
def bL:=@List.drop_of_length_le
def eM:=@List.take_of_length_le
def cC:=@List.getElem?_eq_none
def aW:=@List.length_singleton
def dr:=@List.getElem?_toArray
def bC:=@List.mem_append_right
def dq:=@List.take_append_drop
def aK:=@List.mem_cons_of_mem
def bn:=@Go.World.cell?_of_block
def aE:=@List.getElem?_of_mem
def aw:=@Nat.mul_le_mul_right
def cz:=@List.mem_of_mem_drop
def dE:=@List.getElem?_append
def cw:=@List.mem_of_mem_take
def aG:=@List.mem_append_left
def da:=@List.getElem?_range
def fO:=@List.take_succ_cons
def fP:=@List.getElem_of_mem
def eQ:=@List.length_pos_iff
def fQ:=@Array.length_toList
def aj:=@Bool.false_eq_true
def br:=@List.mem_cons_self
def aq:=@List.getElem?_take
def az:=@Nat.lt_of_lt_of_le
def ai:=@List.length_append
def aD:=@List.getElem?_drop
def dp:=@Int.natCast_nonneg
def ax:=@List.mem_singleton
def bH:=@List.mem_filterMap
def eX:=@Option.toList_some
def gf:=@List.pairwise_cons
def aa:=@Option.some.injEq
def ab:=@List.getElem?_map
def bj:=@List.getElem?_set
def dP:=@List.append_assoc
def eT:=@Bool.not_eq_true'
def bZ:=@Go.Result.andThen_ok
def dD:=@List.ext_getElem?
def fJ:=@Go.World.ownsRow_nil
def bP:=@Int.toNat_natCast
def bV:=@List.size_toArray
def fi:=@List.length_range
def cT:=@List.take_add_one
def cE:=@Bool.eq_false_iff
def fK:=@Decidable.not_not
def eS:=@List.flatten_cons
def cb:=@List.not_mem_nil
def cq:=@Option.bind_some
def cP:=@Nat.le_add_right
def bg:=@List.length_cons
def ba:=@List.length_drop
def aA:=@List.length_take
def aN:=@List.getElem_mem
def eL:=@List.cons_append
def bz:=@Option.getD_some
def ca:=@Nat.lt_succ_self
def dj:=@List.mem_flatMap
def dK:=@List.take_length
def dJ:=@Bool.eq_iff_iff
def dh:=@List.append_nil
def aV:=@Option.map_some
def aM:=@List.mem_append
def aQ:=@List.length_set
def dW:=@List.nil_append
def ck:=@List.map_append
def ao:=@List.length_map
def fj:=@List.length_nil
def bW:=@Bool.or_eq_true
def eI:=@List.cons.injEq
def cI:=@List.mem_range
def ah:=@Prod.mk.injEq
def aH:=@List.mem_cons
def fW:=@Bool.false_or
def cM:=@List.map_cons
def eB:=@Nat.add_assoc
def bq:=@List.mem_map
def bX:=@List.all_nil
def aY:=@Nat.le_trans
def av:=@Nat.zero_add
def dO:=@Nat.add_zero
def bw:=@Go.Sem.run_bind
def eH:=@Nat.lt_or_ge
def cW:=@Int.le_trans
def aU:=@Nat.le_refl
def ar:=@Int.le_refl
def aF:=@Nat.zero_le
def bK:=@Nat.mul_one
def cn:=@Nat.add_mul
def dI:=@Array.ext'
def dA:=@Iff.rfl
def iP{e β:Type _}{c a:e}{b b1:β}(h:some (c,b)=some (a,b1)):c=a/\b=b1:=by injection h with h;simp only[Prod.mk.injEq]at h;exact h
def Mi{j β i:Type _}{g b:j}{e a:β}{c b2:i}(h:some (g,e,c)=some (b,a,b2)):g=b/\e=a/\c=b2:=by injection h with h;simp only[Prod.mk.injEq]at h;exact h
def X3{p β o m:Type _}{j c:p}{i b:β}{g a:o}{e b3:m}(h:some (j,i,g,e)=some (c,b,a,b3)):j=c/\i=b/\g=a/\e=b3:=by injection h with h;simp only[Prod.mk.injEq]at h;exact h
def zP5{s β r q p:Type _}{o e:s}{m c:β}{j b:r}{i a:q}{g b4:p}(h:some (o,m,j,i,g)=some (e,c,b,a,b4)):o=e/\m=c/\j=b/\i=a/\g=b4:=by injection h with h;simp only[Prod.mk.injEq]at h;exact h
def zP6{y β x u s r:Type _}{q g:y}{p e:β}{o c:x}{m b:u}{j a:s}{i b5:r}(h:some (q,p,o,m,j,i)=some (g,e,c,b,a,b5)):q=g/\p=e/\o=c/\m=b/\j=a/\i=b5:=by injection h with h;simp only[Prod.mk.injEq]at h;exact h
inductive D where
 |int (k:IntKind) (n:Int)
 |bool (b:Bool)
 |str (s:ByteArray)
 |list (l:List D)
 |agg (l:List D)
 |ff (l:List D)
 |gI
 |ptr (l:List D)
 |fn (f:Nat) (l:List D)
 |top
 deriving Inhabited
abbrev eN:=Nat->List D->Prop
abbrev Taa:=Nat->List D->D
abbrev Taf:=List D
def D.cells:D->Taf
 |.agg l=>l
 |d=>[d]
def D.q:D->Int
 |.int _ n=>n
 |_=>0
def D.W:D->Bool
 |.bool b=>b
 |_=>false
def D.A:D->Taf
 |.list l=>l
 |.agg l=>l
 |.ff l=>l
 |.ptr l=>l
 |.fn _ l=>l
 |_=>[]
def D.Ye(x y:D):Bool:=decide (x.cells.map D.q=y.cells.map D.q)
def D.iV:D->Bool
 |.gI=>true
 |_=>false
inductive Ty where
 |int (k:IntKind)
 |bool
 |str
 |list (t:Ty)
 |agg (fs:Ty)
 |ff (fs:Ty)
 |box (fs:Ty)
 |ptr (fs:Ty)
 |fn (f:Nat) (fs:Ty)
 |nil
 |cons (h t:Ty)
 deriving DecidableEq
abbrev Tal:=List Ty
def Ty.A:Ty->Tal
 |.cons h t=>h::t.A
 |_=>[]
def Ty.V:Tal->Ty
 |[]=>.nil
 |h::t=>.cons h (Ty.V t)
def Ty.dm(l:Tal):(Ty.V l).A=l:=by
 induction l with
 |nil=>rfl
 |cons h t ih=>simp[Ty.V,Ty.A,ih]
def Ty.cells:Ty->Tal
 |.agg fs=>fs.A
 |t=>[t]
def Ty.sc:Ty->Nat
 |.int k=>k.bits/8
 |.bool=>1
 |.str=>16
 |.list _=>24
 |_=>8
def Ty.al:Ty->Nat
 |.int k=>k.bits/8
 |.bool=>1
 |_=>8
def Ty.bytes:Ty->Nat
 |.agg fs=>
  let r:=fs.A.foldl (fun x c=>((x.1+c.al-1)/c.al*c.al+c.sc,max x.2 c.al)) (0,1)
  (r.1+r.2-1)/r.2*r.2
 |t=>t.sc
def Ty.Mc(a:Ty):(Ty.agg (.V a.A)).bytes=(Ty.agg a).bytes:=by simp only[Ty.bytes,Ty.dm]
def Dw(K:Nat)(t:Ty)(n:Nat):Prop:=n<=maxLen/\n*t.bytes<=K
def nh(t:Ty)(n:Nat):Prop:=n<=maxLen/\n*t.bytes<=140737488355328
def gM(t:Ty):nh t 0:=⟨aF _,by omega⟩
def ye(K:Nat)(t:Ty):Dw K t 0:=⟨aF _,by omega⟩
def nh.mono{t:Ty}{n m:Nat}(h:nh t n)(a:m<=n):nh t m:=⟨aY a h.1,aY (aw _ a) h.2⟩
def jX(k:IntKind)(n:Int):Prop:=k.min<=n/\n<=k.max
instance (k:IntKind) (n:Int):Decidable (jX k n):=inferInstanceAs (Decidable (_/\_))
def yL(K:Nat):Ty->(D->Prop)×(Taf->Prop)
 |.int k=>(fun d=>∃n,d=.int k n/\jX k n,fun _=>False)
 |.bool=>(fun d=>∃b,d=.bool b,fun _=>False)
 |.str=>(fun d=>∃s,d=.str s,fun _=>False)
 |.list t=>(fun d=>∃l,d=.list l/\Dw K t l.length/\∀x∈l,(yL K t).1 x,fun _=>False)
 |.agg fs=>(fun d=>∃l,d=.agg l/\(yL K fs).2 l,fun _=>False)
 |.ff fs=>(fun d=>∃l,d=.ff l/\(yL K fs).2 l,fun _=>False)
 |.box fs=>(fun d=>∃l,d=.ptr l/\(yL K fs).2 l,fun _=>False)
 |.ptr fs=>(fun d=>d=.gI\/∃l,d=.ptr l/\(yL K fs).2 l,fun _=>False)
 |.fn f fs=>(fun d=>∃l,d=.fn f l/\(yL K fs).2 l,fun _=>False)
 |.nil=>(fun _=>False,fun l=>l=[])
 |.cons h t=>(fun _=>False,fun l=>∃a r,l=a::r/\(yL K h).1 a/\(yL K t).2 r)
def qx(K:Nat)(t:Ty)(d:D):Prop:=(yL K t).1 d
def rF(K:Nat)(t:Ty)(l:Taf):Prop:=(yL K t).2 l
def Has(t:Ty)(d:D):Prop:=(yL 140737488355328 t).1 d
def dx(t:Ty)(l:Taf):Prop:=(yL 140737488355328 t).2 l
def nL{K e:Nat}(h:K<=e):∀(t:Ty),(∀d,qx K t d->qx e t d)/\∀l,rF K t l->rF e t l
 |.int _| .bool| .str=>⟨fun _ h=>h,fun _ h=>h⟩
 |.nil=>⟨fun _ h=>h,fun _ h=>h⟩
 |.list t=>⟨fun _ ⟨l,c,b,h3⟩=>⟨l,c,⟨b.1,aY b.2 h⟩,fun x g=>(nL h t).1 x (h3 x g)⟩,fun _ h=>h⟩
 |.agg t| .ff t| .box t| .fn _ t=>⟨fun _ ⟨l,c,b⟩=>⟨l,c,(nL h t).2 l b⟩,fun _ h=>h⟩
 |.ptr t=>⟨fun _ i=>i.elim .inl fun⟨l,c,b⟩=>.inr ⟨l,c,(nL h t).2 l b⟩,fun _ h=>h⟩
 |.cons a t=>⟨fun _ h=>h,fun _ ⟨x,r,c,b,h3⟩=>⟨x,r,c,(nL h a).1 x b,(nL h t).2 r h3⟩⟩
section
variable{d:D}{l:Taf}{k:IntKind}{t h:Ty}{f:Nat}
def dt:Has (.int k) d↔∃n,d=.int k n/\jX k n:=dA
def dg:Has .bool d↔∃b,d=.bool b:=dA
def my:Has .str d↔∃s,d=.str s:=dA
def bO:Has (.list t) d↔∃l,d=.list l/\nh t l.length/\∀x∈l,Has t x:=dA
def dU:Has (.agg t) d↔∃l,d=.agg l/\dx t l:=dA
def Rq:Has (.ff t) d↔∃l,d=.ff l/\dx t l:=dA
def ik:Has (.box t) d↔∃l,d=.ptr l/\dx t l:=dA
def kJ:Has (.ptr t) d↔d=.gI\/∃l,d=.ptr l/\dx t l:=dA
def lz:Has (.fn f t) d↔∃l,d=.fn f l/\dx t l:=dA
def dy:dx .nil l↔l=[]:=dA
def aJ:dx (.cons h t) l↔∃a r,l=a::r/\Has h a/\dx t r:=dA
end
def fH:∀{t:Ty} {l:Taf},dx t l->l.length=t.A.length
 |.nil,l,h=>by rw[dy.1 h];rfl
 |.cons a b,l,h=>by obtain⟨x,r,rfl,_,c⟩:=aJ.1 h;simp[Ty.A,fH c]
 |.int _,_,h| .bool,_,h| .str,_,h| .list _,_,h| .agg _,_,h| .ff _,_,h| .box _,_,h| .ptr _,_,h| .fn _ _,_,h=>h.elim
def cJ:∀{t:Ty} {l:Taf},dx t l->∀(j:Nat) u,t.A[j]?=some u->∃x,l[j]?=some x/\Has u x
 |.nil,l,h,j,u,hj=>by simp[Ty.A]at hj
 |.cons a b,l,h,j,u,hj=>by
  obtain⟨x,r,rfl,c,e⟩:=aJ.1 h;cases j with
  |zero=>simp[Ty.A]at hj;subst hj;exact⟨x,rfl,c⟩
  |succ j=>exact cJ e j u (by simpa [Ty.A]using hj)
 |.int _,_,h,_,_,_| .bool,_,h,_,_,_| .str,_,h,_,_,_| .list _,_,h,_,_,_| .agg _,_,h,_,_,_| .ff _,_,h,_,_,_| .box _,_,h,_,_,_| .ptr _,_,h,_,_,_| .fn _ _,_,h,_,_,_=>h.elim
def jk:∀{ts:Tal} {l:Taf},l.length=ts.length->(∀(j:Nat) u x,ts[j]?=some u->l[j]?=some x->Has u x)->dx (Ty.V ts) l
 |[],l,hl,_=>dy.2 (au (by simpa using hl))
 |t::ts,[],hl,_=>by simp at hl
 |t::ts,x::l,hl,h=>aJ.2 ⟨x,l,rfl,h 0 t x rfl rfl,jk (by simpa using hl) fun j u y b a=>h (j+1) u y (by simpa using b) (by simpa using a)⟩
def cB{t:Ty}{d:D}(h:Has t d):d.cells.length=t.cells.length/\∀(j:Nat) u,t.cells[j]?=some u->∃x,d.cells[j]?=some x/\Has u x:=by
 by_cases e:∃g,t=.agg g
 .obtain⟨g,rfl⟩:=e;obtain⟨l,rfl,i⟩:=dU.1 h;exact⟨fH i,cJ i⟩
 have m:t.cells=[t]:=by cases t<;>first|rfl|exact absurd ⟨_,rfl⟩ e
 have o:d.cells=[d]:=by
  cases t with
  |agg g=>exact absurd ⟨_,rfl⟩ e
  |int k=>obtain⟨n,rfl,_⟩:=dt.1 h;rfl
  |bool=>obtain⟨n,rfl⟩:=dg.1 h;rfl
  |str=>obtain⟨n,rfl⟩:=my.1 h;rfl
  |list t=>obtain⟨n,rfl,_⟩:=bO.1 h;rfl
  |ff t=>obtain⟨n,rfl,_⟩:=Rq.1 h;rfl
  |box t=>obtain⟨n,rfl,_⟩:=ik.1 h;rfl
  |ptr t=>rcases kJ.1 h with rfl|⟨n,rfl,_⟩<;>rfl
  |fn f t=>obtain⟨n,rfl,_⟩:=lz.1 h;rfl
  |nil=>exact h.elim
  |cons a b=>exact h.elim
 rw[m,o];refine⟨rfl,fun j u c=>?_⟩;cases j with
 |zero=>simp at c;subst c;exact⟨d,rfl,h⟩
 |succ j=>simp at c
abbrev bE:=Nat->Tai
inductive cg (w:Tam) (S:bE):Tan->D->Prop
 |int (k:IntKind) (n:Int):cg w S (.int k n) (.int k n)
 |bool (b:Bool):cg w S (.bool b) (.bool b)
 |str (s:ByteArray):cg w S (.string s) (.str s)
 |agg (cs:Tac) (ds:Taf) (hl:cs.length=ds.length) (h:∀(i:Nat) v d,cs[i]?=some v->ds[i]?=some d->cg w S v d):cg w S (.agg cs.toArray) (.agg ds)
 |ff (cs:Tac) (ds:Taf) (hl:cs.length=ds.length) (h:∀(i:Nat) v d,cs[i]?=some v->ds[i]?=some d->cg w S v d):cg w S (.tuple cs.toArray) (.ff ds)
 |gI:cg w S (.pointer none) .gI
 |ptr (b:Nat) (cs:Tac) (ds:Taf) (hl:cs.length=ds.length) (hS:∀i,i<ds.length->S b i) (hc:∀(i:Nat) v,cs[i]?=some v->w.cell? ⟨b,i,none⟩=some v)
   (h:∀(i:Nat) v d,cs[i]?=some v->ds[i]?=some d->cg w S v d):cg w S (.pointer (some ⟨b,0,none⟩)) (.ptr ds)
 |nil (a:Tao Addr) (cap:Nat):cg w S (.slice a 0 cap) (.list [])
 |list (b off cap sz:Nat) (xs:Tac) (ds:Taf) (UZ:0<sz) (tV:ds≠[]) (rN:ds.length<=cap) (hl:xs.length=ds.length*sz)
   (hS:∀i,i<xs.length->S b (off+i)) (hc:∀(i:Nat) v,xs[i]?=some v->w.cell? ⟨b,off+i,none⟩=some v)
   (hw:∀(i:Nat) d,ds[i]?=some d->d.cells.length=sz)
   (h:∀(i:Nat) d (j:Nat) v c,ds[i]?=some d->d.cells[j]?=some c->xs[i*sz+j]?=some v->cg w S v c):cg w S (.slice (some ⟨b,off,none⟩) ds.length cap) (.list ds)
 |fn (f:Nat) (cs:Tac) (ds:Taf) (hl:cs.length=ds.length) (h:∀(i:Nat) v d,cs[i]?=some v->ds[i]?=some d->cg w S v d):cg w S (.func (.func f) #[] cs.toArray) (.fn f ds)
def cg.keep{w w':Tam}{S S':bE}{v:Tan}{d:D}(j:∀b o,S b o->S' b o)(g:∀b o,S b o->w'.cell? ⟨b,o,none⟩=w.cell? ⟨b,o,none⟩)(h:cg w S v d):cg w' S' v d:=by
 induction h with
 |int k n=>exact .int k n
 |bool b=>exact .bool b
 |str s=>exact .str s
 |agg cs ds hl _ ih=>exact .agg cs ds hl ih
 |ff cs ds hl _ ih=>exact .ff cs ds hl ih
 |gI=>exact .gI
 |ptr b cs ds hl hs hc _ ih=>
  refine .ptr b cs ds hl (fun i c=>j _ _ (hs i c)) (fun i v e=>?_) ih;have c:i<cs.length:=(aO.1 e).1;rw[g _ _ (hs i (by omega))];exact hc i v e
 |nil a cap=>exact .nil a cap
 |list b off cap sz xs ds UZ tV rN hl hs hc hw _ ih=>
  refine .list b off cap sz xs ds UZ tV rN hl (fun i c=>j _ _ (hs i c)) (fun i v e=>?_) hw ih;have c:i<xs.length:=(aO.1 e).1;rw[g _ _ (hs i c)];exact hc i v e
 |fn f cs ds hl _ ih=>exact .fn f cs ds hl ih
section
variable{w:Tam}{S:bE}{v:Tan}{l:Taf}{k:IntKind}{n:Int}
def cg.cQ(h:cg w S v (.int k n)):v=.int k n:=by cases h;rfl
def cg.gU{b:Bool}(h:cg w S v (.bool b)):v=.bool b:=by cases h;rfl
def cg.DQ{b:ByteArray}(h:cg w S v (.str b)):v=.string b:=by cases h;rfl
def cg.zd(h:cg w S v (.agg l)):∃a:Tac,v=.agg a.toArray/\a.length=l.length/\∀(i:Nat) u d,a[i]?=some u->l[i]?=some d->cg w S u d:=by cases h with|agg a _ hl h=>exact⟨a,rfl,hl,h⟩
def cg.xf{f:Nat}(h:cg w S v (.fn f l)):∃a:Tac,v=.func (.func f) #[] a.toArray/\a.length=l.length/\∀(i:Nat) u d,a[i]?=some u->l[i]?=some d->cg w S u d:=by cases h with|fn _ a _ hl h=>exact⟨a,rfl,hl,h⟩
def cg.qJ(h:cg w S v (.ptr l)):∃(b:Nat) (cs:Tac),v=.pointer (some ⟨b,0,none⟩)/\cs.length=l.length/\(∀i,i<l.length->S b i)/\(∀(i:Nat) u,cs[i]?=some u->w.cell? ⟨b,i,none⟩=some u)/\
  ∀(i:Nat) u d,cs[i]?=some u->l[i]?=some d->cg w S u d:=by cases h with|ptr b cs _ hl hs hc h=>exact⟨b,cs,rfl,hl,hs,hc,h⟩
def cg.sq(h:cg w S v .gI):v=.pointer none:=by cases h;rfl
def cg.qf(h:cg w S v (.list l)):∃a cap,v=.slice a l.length cap:=by
 cases h with
 |nil a cap=>exact⟨a,cap,rfl⟩
 |list b off cap=>exact⟨_,cap,rfl⟩
def cg.FO(h:cg w S v (.list l)){i:Nat}{d:D}(hi:l[i]?=some d):∃(b off e:Nat) (u:Taj),v=.slice (some ⟨b,off,none⟩) l.length e/\
  ∀(j:Nat) c,d.cells[j]?=some c->S b (off+i*d.cells.length+j)/\w.cell? ⟨b,off+i*d.cells.length+j,none⟩=some (u j)/\cg w S (u j) c:=by
 cases h with
 |nil a e=>simp at hi
 |list b off e sz xs _ UZ tV rN hl hs hc hw h=>
  have g:=hw i d hi;have o:i<l.length:=(aO.1 hi).1;refine⟨b,off,e,fun j=>xs.getD (i*sz+j) undef,rfl,fun j c q=>?_⟩;have r:j<d.cells.length:=(aO.1 q).1
  have m:i*sz+j<xs.length:=by have:(i+1)*sz<=l.length*sz:=aw _ o;rw[cn]at this;omega
  have p:xs[i*sz+j]?=some (xs.getD (i*sz+j) undef):=by simp[List.getD,m]
  rw[g,eB];exact⟨hs _ m,hc _ _ p,h i d j _ c hi q p⟩
end
inductive U where
 |not|neg (k:IntKind)|len|cell (j:Nat)|part (off n:Nat)|agg|ff|qv|fnc (f:Nat)|zr|R8 (k:IntKind)
 deriving DecidableEq
inductive B where
 |add (k:IntKind)|sub (k:IntKind)|mul (k:IntKind)|rem (k:IntKind)|quo (k:IntKind)
 |lt|le|gt|ge|eq|ne|and|or|beq|idx|cat|take|drop|min (k:IntKind)|max (k:IntKind)|xor (k:IntKind)|has
 deriving DecidableEq
inductive E where
 |var (i:Nat)|aZ (k:IntKind) (n:Int)|fa (b:Bool)|BC (s:ByteArray)|gI
 |nil|cons (h t:E)
 |un (o:U) (e:E)|bin (o:B) (a b:E)|ite (c a b:E)
 deriving DecidableEq,Inhabited
def U.den:U->D->D
 |.not,d=>.bool (!d.W)
 |.neg k,d=>.int k (k.wrap (0-d.q))
 |.len,d=>.int i64 d.A.length
 |.cell j,d=>d.A.getD j .top
 |.part off n,d=>.agg ((d.A.drop off).take n)
 |.agg,d=>.agg d.A
 |.ff,d=>.ff d.A
 |.qv,d=>.ptr d.A
 |.fnc f,d=>.fn f d.A
 |.zr,d=>.bool d.iV
 |.R8 k,d=>.int k (k.wrap d.q)
def Iu(k:IntKind)(x y:Int):Int:=k.wrap ((BitVec.ofInt k.bits x ^^^ BitVec.ofInt k.bits y).toNat)
def B.den:B->D->D->D
 |.add k,x,y=>.int k (k.wrap (x.q+y.q))
 |.sub k,x,y=>.int k (k.wrap (x.q-y.q))
 |.mul k,x,y=>.int k (k.wrap (x.q*y.q))
 |.rem k,x,y=>.int k (x.q.tmod y.q)
 |.quo k,x,y=>.int k (k.wrap (x.q.tdiv y.q))
 |.lt,x,y=>.bool (decide (x.q<y.q))
 |.le,x,y=>.bool (decide (x.q<=y.q))
 |.gt,x,y=>.bool (decide (x.q>y.q))
 |.ge,x,y=>.bool (decide (x.q≥y.q))
 |.eq,x,y=>.bool (x.q==y.q)
 |.ne,x,y=>.bool (x.q !=y.q)
 |.and,x,y=>.bool (x.W&&y.W)
 |.or,x,y=>.bool (x.W||y.W)
 |.beq,x,y=>.bool (x.W==y.W)
 |.idx,x,y=>x.A.getD y.q.toNat .top
 |.cat,x,y=>.list (x.A++y.A)
 |.take,x,y=>.list (x.A.take y.q.toNat)
 |.drop,x,y=>.list (x.A.drop y.q.toNat)
 |.min k,x,y=>.int k (if y.q<x.q then y.q else x.q)
 |.max k,x,y=>.int k (if y.q>x.q then y.q else x.q)
 |.xor k,x,y=>.int k (Iu k x.q y.q)
 |.has,x,y=>.bool (x.A.any fun z=>z.Ye y)
def den(ρ:Nat->D):E->D
 |.var i=>ρ i
 |.aZ k n=>.int k n
 |.fa b=>.bool b
 |.BC s=>.str s
 |.gI=>.gI
 |.nil=>.list []
 |.cons h t=>.list (den ρ h::(den ρ t).A)
 |.un o e=>o.den (den ρ e)
 |.bin o a b=>o.den (den ρ a) (den ρ b)
 |.ite c a b=>if(den ρ c).W then den ρ a else den ρ b
def E.lt(n:Nat):E->Bool
 |.var i=>i<n
 |.aZ .. | .fa _| .BC _| .gI| .nil=>true
 |.cons h t=>h.lt n&&t.lt n
 |.un _ e=>e.lt n
 |.bin _ a b=>a.lt n&&b.lt n
 |.ite c a b=>c.lt n&&a.lt n&&b.lt n
def fC{α:Type}(ρ:Nat->α)(i:Nat)(d:α):Nat->α:=fun j=>if j=i then d else ρ j
def dZ{a:Type}(ρ:Nat->a)(i:Nat)(d:a):fC ρ i d i=d:=by simp[fC]
def fu{a:Type}(ρ:Nat->a){i j:Nat}(d:a)(h:j≠i):fC ρ i d j=ρ j:=by simp[fC,h]
def dQ{ρ j:Nat->D}{n:Nat}(h:∀i,i<n->j i=ρ i):∀{e:E},e.lt n=true->den j e=den ρ e:=by
 intro e
 induction e with
 |var i=>intro g;exact h i (by simpa [E.lt]using g)
 |aZ|fa|BC|gI|nil=>intro _;rfl
 |cons a b pX pW=>intro g;simp only[E.lt,aT]at g;simp only[den,pX g.1,pW g.2]
 |un o e ih=>intro g;simp only[E.lt]at g;simp only[den,ih g]
 |bin o a b pX pW=>intro g;simp only[E.lt,aT]at g;simp only[den,pX g.1,pW g.2]
 |ite c a b KF pX pW=>intro g;simp only[E.lt,aT]at g;simp only[den,KF g.1.1,pX g.1.2,pW g.2]
def E.V:List E->E
 |[]=>.nil
 |h::t=>.cons h (E.V t)
def gg(ρ:Nat->D)(l:List E):den ρ (E.V l)=.list (l.map (den ρ)):=by
 induction l with
 |nil=>rfl
 |cons h t ih=>simp[E.V,den,ih,D.A]
structure UN(P:Tap)(T:Tba)(kt:Ty):Prop where
 ex:∃k e,P.underlying T=some (.map k e)/\P.underlying e=some .bool/\(∀w,(zeroValue e).run P w=.ok (.bool false) w)/\Maps.Keyed P k/\
  ∀(w:Tam) (S:bE) v d,cg w S v d->Has kt d->∃kl,keyOf P k v=some kl
 inj:∀(w w':Tam) (S S':bE) v v' d d',cg w S v d->cg w' S' v' d'->Has kt d->Has kt d'->D.Ye d d'=true->v=v'
 aiN:∀(w w':Tam) (S S':bE) v d d',cg w S v d->cg w' S' v d'->Has kt d->Has kt d'->D.Ye d d'=true
structure vK(P:Tap)(w:Tam)(b:Nat)(T:Tba)(kt:Ty)(l:Taf):Prop where
 key:UN P T kt
 own:∃k e n,∃D0:DataW Unit,P.underlying T=some (.map k e)/\w.ownsMap P k (plainElem P e) b n D0/\n<=l.length/\(∀x∈l,Has kt x)/\
  ∀(w':Tam) (S:bE) v d kl,cg w' S v d->Has kt d->keyOf P k v=some kl->D0.atKey kl (.lit (.bool false))=.lit (.bool (l.any fun z=>z.Ye d))
def vK.lt{P:Tap}{w:Tam}{b:Nat}{T:Tba}{a:Ty}{l:Taf}(h:vK P w b T a l):b<w.heap.size:=by obtain⟨_,_,_,_,_,c,_⟩:=h.own;exact c.lt
def vK.congr{P:Tap}{w w':Tam}{b:Nat}{T:Tba}{c:Ty}{l:Taf}(h:vK P w b T c l)(d:w'.heap[b]?=w.heap[b]?):vK P w' b T c l:=by obtain⟨k,e,n,o,j,⟨m,a,i,g⟩,f⟩:=h.own;exact⟨h.key,k,e,n,o,j,⟨m,a,d.trans i,g⟩,f⟩
def vh{P:Tap}{e:Tba}(a:P.underlying e=some .bool){v:Tan}{z:DataW Unit×List MemPlace}(h:plainElem P e v=some z):∃x,v=.bool x/\z=(.lit (.bool x),[]):=by
 unfold plainElem at h;rw[a]at h;cases v<;>simp at h
 exact⟨_,rfl,h.symm⟩
def vK.lookup{P:Tap}{w:Tam}{b:Nat}{T:Tba}{j:Ty}{l:Taf}(h:vK P w b T j l){w':Tam}{S:bE}{v:Tan}{d:D}(m:cg w' S v d)(o:Has j d):
  (Instr.lookup T (.map (some b)) v false).run P w=.ok (.bool (l.any fun z=>z.Ye d)) w:=by obtain⟨k,e,n,J,p,y,H,G,t⟩:=h.own;obtain⟨F,I,a,q,C,B,A⟩:=h.key.ex;rw[p]at a;injection a with a;injection a with a i;subst a;subst i;obtain⟨r,f⟩:=A w' S v d m o;obtain⟨u,E,c,s⟩:=y.lookup B p (C w) (plainElem_bool q false) f;obtain⟨x,rfl,g⟩:=vh q s;rw[t w' S v d r m o f]at g;simp only[ah,DataW.lit.injEq,Lit.bool.injEq]at g;rw[c,g.1]
abbrev Tag:=Nat×Nat
def BA(j:Nat):Bool:=decide (1000<=j)
def Tag.ex(g:Tag):Bool:=BA g.2
inductive SC where
 |gH (e:E) (t:Ty)
 |oJ (t:Ty)
 |own (g:Tag) (e:E) (t:Ty)
 |clip (e:E) (t:Ty)
 |qo (id off:Nat)
 |zn (l i:E) (t:Ty) (off:Nat)
 |zi (e:E) (fs:Ty) (off:Nat)
 |xo (g:Tag) (t:Ty)
 |wS (g:Tag) (i:E) (t:Ty) (off:Nat)
 |C0 (id:Nat)
 |Ha
 |uC (e:E) (kt:Ty) (T:Tba)
 deriving DecidableEq
def mapOf:List SC->Tao (E×Ty×Tba)
 | [.uC e kt T]=>some (e,kt,T)
 |_=>none
inductive SV where
 |one (c:SC)
 |agg (l:List SC)
 |ff (l:List (Bool×List SC))
 deriving DecidableEq
abbrev dM:=List (E×Bool)
def bc(ρ:Nat->D)(c:dM):Bool:=c.all fun x=>(den ρ x.1).W==x.2
structure St where
 tm:Nat->Tao (dM×SV)
 hp:Nat->Tao (Bool×List SC)
 live:Tag->Tao (E×Tba×Ty)
structure Gh where
 S:bE
 β:Nat->Nat
 τ:Tag->Tan
def Ty.scalar:Ty->Bool
 |.int _| .bool| .str| .list _| .box _| .ptr _| .fn _ _=>true
 |_=>false
def SC.scalar:SC->Bool
 |.gH _ t=>t.scalar
 |_=>true
def SC.lt(n:Nat):SC->Bool
 |.gH e _| .own _ e _| .zi e _ _| .clip e _=>e.lt n
 |.zn l i _ _=>l.lt n&&i.lt n
 |.wS _ i _ _=>i.lt n
 |.uC e _ _=>e.lt n
 |.oJ _| .qo .. | .xo .. | .C0 _| .Ha=>true
def SV.lt(n:Nat):SV->Bool
 |.one c=>c.lt n
 |.agg l=>l.all (SC.lt n)
 |.ff l=>l.all fun x=>x.2.all (SC.lt n)
structure Cx where
 ρ:Nat->D
 N:Nat
 M:Tai
def ru(C:Cx)(w:Tam)(G:Gh):SC->Tan->Prop
 |.gH e t,v=>e.lt C.N=true/\cg w G.S v (den C.ρ e)/\Has t (den C.ρ e)
 |.oJ _,v=>v=.slice none 0 0
 |.own g e t,v=>C.M g.1/\e.lt C.N=true/\cg w G.S v (den C.ρ e)/\Has (.list t) (den C.ρ e)/\v=G.τ g
 |.clip e t,v=>e.lt C.N=true/\cg w G.S v (den C.ρ e)/\Has (.list t) (den C.ρ e)/\∃a,v=.slice a (den C.ρ e).A.length (den C.ρ e).A.length
 |.qo id off,v=>C.M id/\v=.pointer (some ⟨G.β id,off,none⟩)
 |.zn l i t off,v=>l.lt C.N=true/\i.lt C.N=true/\∃(b o:Nat) (u:Taj),v=.pointer (some ⟨b,o+off,none⟩)/\Has t (den C.ρ (.bin .idx l i))/\
   ∀(j:Nat) c,(den C.ρ (.bin .idx l i)).cells[j]?=some c->G.S b (o+j)/\w.cell? ⟨b,o+j,none⟩=some (u j)/\cg w G.S (u j) c
 |.zi e fs off,v=>e.lt C.N=true/\∃(b:Nat) (l:Taf) (u:Taj),den C.ρ e=.ptr l/\dx fs l/\v=.pointer (some ⟨b,off,none⟩)/\
   ∀(j:Nat) c,l[j]?=some c->G.S b j/\w.cell? ⟨b,j,none⟩=some (u j)/\cg w G.S (u j) c
 |.xo g _,v=>C.M g.1/\v=G.τ g/\∃a n d,v=.slice a n d
 |.wS g i t off,v=>C.M g.1/\i.lt C.N=true/\∃b d n,G.τ g=.slice (some ⟨b,0,none⟩) n d/\0<=(den C.ρ i).q/\(den C.ρ i).q.toNat<n/\
   v=.pointer (some ⟨b,(den C.ρ i).q.toNat*t.cells.length+off,none⟩)
 |.C0 id,v=>C.M id/\v=.map (some (G.β id))
 |.Ha,v=>v=.map none\/v=.nilFunc
 |.uC ..,_=>False
def jZ(C:Cx)(w:Tam)(G:Gh)(l:List SC)(vs:Tac):Prop:=
 vs.length=l.length/\∀(i:Nat) c v,l[i]?=some c->vs[i]?=some v->ru C w G c v
def lR(C:Cx)(w:Tam)(G:Gh)(x:Bool×List SC)(v:Tan):Prop:=
 if x.1 then∃a:Tac,v=.agg a.toArray/\jZ C w G x.2 a else∃c,x.2=[c]/\ru C w G c v
def wR(C:Cx)(w:Tam)(G:Gh):SV->Tan->Prop
 |.one c,v=>ru C w G c v
 |.agg l,v=>∃a:Tac,v=.agg a.toArray/\jZ C w G l a
 |.ff l,v=>∃a:Tac,v=.tuple a.toArray/\a.length=l.length/\∀(i:Nat) x u,l[i]?=some x->a[i]?=some u->lR C w G x u
structure dS(C:Cx)(w:Tam)(G:Gh)(C':Cx)(w':Tam)(G':Gh):Prop where
 den:∀e:E,e.lt C.N=true->dF.den C'.ρ e=dF.den C.ρ e/\e.lt C'.N=true
 M:∀i,C.M i->C'.M i
 S:∀b o,G.S b o->G'.S b o
 cell:∀b o,G.S b o->w'.cell? ⟨b,o,none⟩=w.cell? ⟨b,o,none⟩
 β:∀i,C.M i->G'.β i=G.β i
 τ:∀g:Tag,C.M g.1->G'.τ g=G.τ g
section
variable{C C':Cx}{w w':Tam}{G G':Gh}{v:Tan}
def ru.later(h:dS C w G C' w' G'):∀{c:SC},ru C w G c v->ru C' w' G' c v
 |.gH e t,⟨h1,h2,h3⟩=>by obtain⟨d,f⟩:=h.den e h1;exact⟨f,d▸h2.keep h.S h.cell,d▸h3⟩
 |.oJ _,hv=>hv
 |.own g e t,⟨hm,h1,h2,h3,k⟩=>by obtain⟨d,f⟩:=h.den e h1;exact⟨h.M _ hm,f,d▸h2.keep h.S h.cell,d▸h3,by rw[h.τ g hm];exact k⟩
 |.clip e t,⟨h1,h2,h3,a,k⟩=>by obtain⟨d,f⟩:=h.den e h1;exact⟨f,d▸h2.keep h.S h.cell,d▸h3,a,by rw[d];exact k⟩
 |.qo id off,⟨hm,hv⟩=>⟨h.M _ hm,by rw[h.β id hm];exact hv⟩
 |.zn l i t off,⟨hl,hi,b,o,u,hv,ht,hc⟩=>by have d:dF.den C'.ρ (.bin .idx l i)=dF.den C.ρ (.bin .idx l i):=(h.den (.bin .idx l i) (by simp[E.lt,hl,hi])).1;refine⟨(h.den l hl).2,(h.den i hi).2,b,o,u,hv,d▸ht,fun j c m=>?_⟩;rw[d]at m;obtain⟨f,k,p⟩:=hc j c m;exact⟨h.S _ _ f,by rw[h.cell _ _ f];exact k,p.keep h.S h.cell⟩
 |.zi e fs off,⟨he,b,l,u,h1,h2,hv,hc⟩=>by refine⟨(h.den e he).2,b,l,u,by rw[(h.den e he).1];exact h1,h2,hv,fun j c m=>?_⟩;obtain⟨f,k,p⟩:=hc j c m;exact⟨h.S _ _ f,by rw[h.cell _ _ f];exact k,p.keep h.S h.cell⟩
 |.xo g t,⟨hm,hv,hsl⟩=>⟨h.M _ hm,by rw[h.τ g hm];exact hv,hsl⟩
 |.wS g i t off,⟨hm,hi,b,cap,n,h1,h2,h3,d⟩=>⟨h.M _ hm,(h.den i hi).2,b,cap,n,by rw[h.τ g hm];exact h1,by rw[(h.den i hi).1];exact h2,by rw[(h.den i hi).1];exact h3,by rw[(h.den i hi).1];exact d⟩
 |.C0 id,⟨hm,hv⟩=>⟨h.M _ hm,by rw[h.β id hm];exact hv⟩
 |.Ha,hv=>hv
 |.uC ..,hv=>hv.elim
def jZ.later(h:dS C w G C' w' G'){l:List SC}{vs:Tac}(a:jZ C w G l vs):jZ C' w' G' l vs:=
 ⟨a.1,fun i c v d b=>(a.2 i c v d b).later h⟩
def lR.later(h:dS C w G C' w' G'){x:Bool×List SC}(a:lR C w G x v):lR C' w' G' x v:=by
 unfold lR at*;split
 .rename_i b;rw[if_pos b]at a;obtain⟨f,e,d⟩:=a;exact⟨f,e,d.later h⟩
 rename_i b;rw[if_neg b]at a;obtain⟨c,e,d⟩:=a;exact⟨c,e,d.later h⟩
def wR.later(h:dS C w G C' w' G'):∀{s:SV},wR C w G s v->wR C' w' G' s v
 |.one _,hr=>ru.later h hr
 |.agg _,⟨vs,h1,h2⟩=>⟨vs,h1,h2.later h⟩
 |.ff _,⟨vs,h1,h2,h3⟩=>⟨vs,h1,h2,fun i x u a b=>(h3 i x u a b).later h⟩
def dS.refl(C:Cx)(w:Tam)(G:Gh):dS C w G C w G:=⟨fun _ h=>⟨rfl,h⟩,fun _ h=>h,fun _ _ h=>h,fun _ _ _=>rfl,fun _ _=>rfl,fun _ _=>rfl⟩
def dS.trans{d:Cx}{a:Tam}{c:Gh}(h:dS C w G C' w' G')(k:dS C' w' G' d a c):dS C w G d a c where
 den e he:=by obtain⟨m,l⟩:=h.den e he;obtain⟨j,f⟩:=k.den e l;exact⟨j.trans m,f⟩
 M i hi:=k.M i (h.M i hi)
 S b o hs:=k.S b o (h.S b o hs)
 cell b o hs:=(k.cell b o (h.S b o hs)).trans (h.cell b o hs)
 β i hi:=(k.β i (h.M i hi)).trans (h.β i hi)
 τ g hg:=(k.τ g (h.M _ hg)).trans (h.τ g hg)
def cg.iE{w:Tam}{S:bE}{d:D}{t:Ty}(h:cg w S v d)(a:Has t d)(b:t.scalar=true):v.oneCell'=true:=by
 cases h<;>first
  |rfl
  |(cases t<;>simp[Ty.scalar]at b<;>simp[dt,dg,my,bO,ik,kJ,lz]at a)
def ru.iE{c:SC}(h:ru C w G c v)(f:c.scalar=true):v.oneCell'=true:=by
 cases c with
 |gH e t=>exact h.2.1.iE h.2.2 f
 |oJ t=>simp only[ru]at h;subst h;rfl
 |own g e t=>exact h.2.2.1.iE h.2.2.2.1 rfl
 |clip e t=>exact h.2.1.iE h.2.2.1 rfl
 |qo id off=>obtain⟨_,rfl⟩:=h;rfl
 |zn l i t off=>obtain⟨_,_,b,o,u,rfl,_⟩:=h;rfl
 |zi e fs off=>obtain⟨_,b,l,u,_,_,rfl,_⟩:=h;rfl
 |xo g t=>obtain⟨_,_,a,n,d,rfl⟩:=h;rfl
 |wS g i t off=>obtain⟨_,_,b,d,n,_,_,_,rfl⟩:=h;rfl
 |C0 id=>obtain⟨_,rfl⟩:=h;rfl
 |Ha=>simp only[ru]at h;rcases h with rfl|rfl<;>rfl
 |uC e kt T=>exact h.elim
def cg.NV{w:Tam}{S:bE}{d:D}{b:Ty}(h:cg w S v d)(e:Has (.agg b) d):∃l:Taf,d=.agg l/\dx b l/\∃a:Tac,v=.agg a.toArray/\a.length=l.length/\
  ∀(i:Nat) u c,a[i]?=some u->l[i]?=some c->cg w S u c:=by obtain⟨l,rfl,f⟩:=dU.1 e;obtain⟨a,k,j,g⟩:=h.zd;exact⟨l,rfl,f,a,k,j,g⟩
end
def jL(P:Tap)(C:Cx)(w:Tam)(G:Gh)(b:Nat)(cs:List SC):Prop:=
 match mapOf cs with
 |some (e,kt,T)=>e.lt C.N=true/\Has (.list kt) (den C.ρ e)/\vK P w b T kt (den C.ρ e).A
 |none=>∃(a:Tac) (T:Tba),w.heap[b]?=some (.cells a.toArray T (0,0))/\jZ C w G cs a
def jL.cells{P:Tap}{C:Cx}{w:Tam}{G:Gh}{b:Nat}{cs:List SC}(h:jL P C w G b cs)(a:mapOf cs=none):∃(vs:Tac) (T:Tba),w.heap[b]?=some (.cells vs.toArray T (0,0))/\jZ C w G cs vs:=by unfold jL at h;rw[a]at h;exact h
def jL.mk{P:Tap}{C:Cx}{w:Tam}{G:Gh}{b:Nat}{cs:List SC}{vs:Tac}{T:Tba}(h:w.heap[b]?=some (.cells vs.toArray T (0,0)))(a:jZ C w G cs vs):jL P C w G b cs:=by
 unfold jL;split
 .rename_i e d f c;unfold mapOf at c;split at c
  .cases hl:vs with
   |nil=>have:=a.1;rw[hl]at this;simp at this
   |cons v P1=>exact(a.2 0 _ v rfl (by rw[hl];rfl)).elim
  cases c
 exact⟨vs,T,h,a⟩
def jL.later{P:Tap}{C C':Cx}{w w':Tam}{G G':Gh}{b:Nat}{cs:List SC}(a:dS C w G C' w' G')(h:jL P C w G b cs)(g:w'.heap[b]?=w.heap[b]?):jL P C' w' G' b cs:=by
 unfold jL at*;split
 .rename_i e m T c;rw[c]at h;obtain⟨f,d,k⟩:=h;obtain⟨i,l⟩:=a.den e f;exact⟨l,by rw[i];exact d,by rw[i];exact k.congr g⟩
 rename_i c;rw[c]at h;obtain⟨j,T,f,d⟩:=h;exact⟨j,T,by rw[g];exact f,d.later a⟩
def jL.lt{P:Tap}{C:Cx}{w:Tam}{G:Gh}{b:Nat}{cs:List SC}(h:jL P C w G b cs):b<w.heap.size:=by
 unfold jL at h;split at h
 .exact h.2.2.lt
 obtain⟨c,T,a,_⟩:=h;exact(aP.1 a).1
structure jg(C:Cx)(w:Tam)(base:Nat)(G:Gh)(g:Tag)(e:E)(T:Tba)(t:Ty):Prop where
 m:C.M g.1
 lt:e.lt C.N=true
 has:Has (.list t) (den C.ρ e)
 own:∃xs l,den C.ρ e=.list l/\w.ownsRow base T t.cells.length (G.τ g) l.length xs/\(∀b,(G.τ g).ownBlock=some b->∀o,G.S b o↔g.ex=false/\o<xs.length)/\
  ∀(i:Nat) d (j:Nat) v c,l[i]?=some d->d.cells[j]?=some c->xs[i*t.cells.length+j]?=some v->cg w G.S v c
structure gK where
 jG:bE
 mu:Tai
 qq:Nat->Tak
 fr:Prop
 wz:Prop
 prog:Tap:=default
 YK:List Deferred:=[]
structure gw(mu:Tai)(w w':Tam):Prop where
 os:w'.os=w.os
 tape:w'.tape=w.tape
 output:w'.output=w.output
 size:w.heap.size<=w'.heap.size
 block:∀k,k<w.heap.size->¬mu k->w'.heap[k]?=w.heap[k]?
def gw.refl(mu:Tai)(w:Tam):gw mu w w:=⟨rfl,rfl,rfl,aU _,fun _ _ _=>rfl⟩
def gw.trans{mu:Tai}{a b c:Tam}(h:gw mu a b)(k:gw mu b c):gw mu a c:=
 ⟨k.os.trans h.os,k.tape.trans h.tape,k.output.trans h.output,aY h.size k.size,fun i e d=>(k.block i (az e h.size) d).trans (h.block i e d)⟩
def gw.of{mu:Tai}{w w':Tam}(h:Below w.heap.size w w'):gw mu w w':=⟨h.os,h.tape,h.output,h.size,fun k a _=>h.block k a⟩
def gw.to{mu:Tai}{w w':Tam}(h:gw mu w w')(a:∀b,¬mu b):Below w.heap.size w w':=⟨h.os,h.tape,h.output,h.size,fun k c=>h.block k c (a k)⟩
def gw.alloc{mu:Tai}{a w:Tam}(h:gw mu a w)(o:Obj):gw mu a (w.alloc o):=
 h.trans ⟨rfl,rfl,rfl,by simp,fun k b _=>Below.heap_alloc _ _ _ b⟩
def gw.drew{mu:Tai}{a w:Tam}(h:gw mu a w):gw mu a {w with drawn:=w.drawn+1}:=⟨h.os,h.tape,h.output,h.size,h.block⟩
def jn(w0:Tam)(S0:gK)(b:Nat):Prop:=w0.heap.size<=b\/S0.mu b
def Hg(w0:Tam)(S0:gK)(b:Nat):Prop:=w0.heap.size<=b\/S0.mu b/\∃i,S0.qq i=some b
def mJ(X:Tai):Tan->Prop
 |.int _ _=>True
 |.bool _=>True
 |.string _=>True
 |.slice a n _=>n=0\/∃b o,a=some ⟨b,o,none⟩/\X b
 |_=>False
def mJ.mono{X Y:Tai}(h:∀b,X b->Y b){v:Tan}(a:mJ X v):mJ Y v:=by
 cases v<;>first
  |exact a
  |(rcases a with a|⟨b,o,d,c⟩
    .exact .inl a
    exact .inr ⟨b,o,d,h b c⟩)
def NW(z:Tai)(w:Tam)(S:bE)(X:Tai):Prop:=∀b,X b->z b/\(∃o,S b o)/\(∃a T,w.heap[b]?=some (.cells a T (0,0)))/\∀o v,S b o->w.cell? ⟨b,o,none⟩=some v->mJ X v
def yW(z:Tai)(w:Tam)(S:bE)(b:Nat):Prop:=∃X,NW z w S X/\X b
def yV(z:Tai)(w:Tam)(S:bE)(v:Tan):Prop:=∀a n b,v=.slice a n b->mJ (yW z w S) v
def yW.set(z:Tai)(w:Tam)(S:bE):NW z w S (yW z w S):=by rintro b ⟨X,hX,a⟩;obtain⟨h,g,e,f⟩:=hX b a;exact⟨h,g,e,fun o v c d=>(f o v c d).mono fun b a=>⟨X,hX,a⟩⟩
def yW.mono{z:Tai}{w w':Tam}{S S':bE}(i:∀b o,S b o->w'.heap[b]?=w.heap[b]?)(p:∀b o,S b o->S' b o)(c:∀b o,S' b o->(∃k,S b k)->S b o){b:Nat}(h:yW z w S b):yW z w' S' b:=by obtain⟨X,n,m⟩:=h;refine⟨X,fun j e=>?_,m⟩;obtain⟨s,⟨g,f⟩,q,r⟩:=n j e;refine⟨s,⟨g,p _ _ f⟩,by rw[i _ _ f];exact q,fun o v l d=>?_⟩;have a:=c j o l ⟨g,f⟩;exact r o v a (by rw[<-d];simp only[World.cell?,i _ _ a])
def yV.mono{z:Tai}{w w':Tam}{S S':bE}(g:∀b o,S b o->w'.heap[b]?=w.heap[b]?)(j:∀b o,S b o->S' b o)(c:∀b o,S' b o->(∃e,S b e)->S b o){v:Tan}(h:yV z w S v):yV z w' S' v:=
 fun a n d f=>(h a n d f).mono fun _ i=>i.mono g j c
def yV.YN{z f:Tai}{w:Tam}{S:bE}{v:Tan}(h:yV z w S v)(i:∀b,z b->f b):yV f w S v:=fun a n e j=>(h a n e j).mono fun b d=>by obtain⟨X,k,d⟩:=d;exact⟨X,fun g c=>by obtain⟨p,o,m,l⟩:=k g c;exact⟨i g p,o,m,l⟩,d⟩
def yV.nilIface{z:Tai}{w:Tam}{S:bE}:yV z w S .nilIface:=fun _ _ _ h=>by cases h
structure fg(w0:Tam)(S0:gK)(C:Cx)(G:Gh)(σ:St)(w:Tam):Prop where
 below:gw S0.mu w0 w
 jI:∀b o,S0.jG b o->G.S b o
 keep:∀b o,S0.jG b o->w.cell? ⟨b,o,none⟩=w0.cell? ⟨b,o,none⟩
 qq:∀i b,S0.qq i=some b->C.M i/\G.β i=b
 lq:∀i b,S0.qq i=some b->True
 dT:∀b o,G.S b o->b<w.heap.size
 gY:∀b o,G.S b o->S0.jG b o\/jn w0 S0 b
 na:∀id x,σ.hp id=some x->C.M id
 box:∀id ro cs,σ.hp id=some (ro,cs)->Hg w0 S0 (G.β id)/\(cs.all SC.scalar=true)/\jL S0.prog C w G (G.β id) cs/\
  (if ro then∀o,o<cs.length->G.S (G.β id) o else∀o,¬G.S (G.β id) o)
 inj:∀i j x y,σ.hp i=some x->σ.hp j=some y->G.β i=G.β j->i=j
 own:∀g e T t,σ.live g=some (e,T,t)->jg C w 0 G g e T t
 gh:∀g x b,σ.live g=some x->(G.τ g).ownBlock=some b->jn w0 S0 b
 jA:∀g g' x y b,σ.live g=some x->σ.live g'=some y->(G.τ g).ownBlock=some b->(G.τ g').ownBlock=some b->g=g'
 eV:∀g id x y b,σ.live g=some x->σ.hp id=some y->(G.τ g).ownBlock=some b->b≠G.β id
 fresh:S0.fr->∀g,yV (jn w0 S0) w G.S (G.τ g)
 wz:S0.wz->∀b o,G.S b o->∃cur T,w.heap[b]?=some (.cells cur T (0,0))
def fg.VX{w0:Tam}{S0:gK}{C:Cx}{G:Gh}{σ:St}{w:Tam}(h:fg w0 S0 C G σ w){b:Nat}(a:Hg w0 S0 b):jn w0 S0 b:=by
 rcases a with a|⟨c,_⟩
 .exact .inl a
 exact .inr c
def iO(C:Cx)(w:Tam)(G:Gh)(tm:Nat->Tao (dM×SV))(a:Act):Prop:=
 ∀t c s,tm t=some (c,s)->∃v,a.tmps[t]?=some v/\(∀x∈c,x.1.lt C.N=true)/\s.lt C.N=true/\(if bc C.ρ c then wR C w G s v else v=undef)
structure gQ(n:Nat)(w0:Tam)(S0:gK)(C:Cx)(G:Gh)(σ:St)(a:Act)(w:Tam):Prop where
 m:fg w0 S0 C G σ w
 t:iO C w G σ.tm a
 sz:a.tmps.size=n
 defers:a.defers=S0.YK
def GJ{C C':Cx}{w w':Tam}{G G':Gh}(h:dS C w G C' w' G'){c:dM}(b:∀x∈c,x.1.lt C.N=true):bc C'.ρ c=bc C.ρ c:=by
 unfold bc;rw[dJ,bY,bY];constructor
 .intro H x a;rw[<-(h.den x.1 (b x a)).1];exact H x a
 intro H x a;rw[(h.den x.1 (b x a)).1];exact H x a
def SC.so{C C':Cx}{w w':Tam}{G G':Gh}(h:dS C w G C' w' G'){c:SC}(a:c.lt C.N=true):c.lt C'.N=true:=by
 cases c<;>simp only[SC.lt,aT]at a⊢
 all_goals first|trivial|exact(h.den _ a).2|exact⟨(h.den _ a.1).2,(h.den _ a.2).2⟩
def SV.so{C C':Cx}{w w':Tam}{G G':Gh}(h:dS C w G C' w' G'){s:SV}(a:s.lt C.N=true):s.lt C'.N=true:=by
 cases s<;>simp only[SV.lt,bY]at a⊢
 .exact SC.so h a
 .exact fun c b=>SC.so h (a c b)
 exact fun x d c b=>SC.so h (a x d c b)
def iO.later{C C':Cx}{w w':Tam}{G G':Gh}{tm:Nat->Tao (dM×SV)}{a:Act}(h:dS C w G C' w' G')(g:iO C w G tm a):iO C' w' G' tm a:=by
 intro t c s i;obtain⟨v,j,e,k,b⟩:=g t c s i;refine⟨v,j,fun x f=>(h.den _ (e x f)).2,SV.so h k,?_⟩;rw[GJ h e];split
 .rename_i d;rw[if_pos d]at b;exact b.later h
 rename_i d;rw[if_neg d]at b;exact b
def iO.put{C:Cx}{w:Tam}{G:Gh}{tm:Nat->Tao (dM×SV)}{a:Act}(h:iO C w G tm a)(d:Tak)(v:Tan)(c:dM)(s:SV)(l:∀x∈c,x.1.lt C.N=true)(g:s.lt C.N=true)(k:if bc C.ρ c then wR C w G s v else v=undef)(f:∀i,d=some i->i<a.tmps.size):
  iO C w G (match d with|some i=>fC tm i (some (c,s))|none=>tm) (a.put d v):=by
 cases d with
 |none=>exact h
 |some i=>
  intro t o j e;by_cases b:t=i
  .subst b;simp only[dZ,aa,ah]at e;obtain⟨rfl,rfl⟩:=e;exact⟨v,by simp[Act.put,f t rfl],l,g,k⟩
  simp only[fu _ _ b]at e;obtain⟨u,n,m⟩:=h t o j e;exact⟨u,by simp only[Act.put];rw[Array.getElem?_setIfInBounds_ne (Ne.symm b)];exact n,m⟩
def Cx.add(C:Cx)(p:Nat):Cx:={C with M:=fun i=>C.M i\/i=p}
section
variable{C:Cx}{w w0:Tam}{G:Gh}{S0:gK}{σ:St}{p:Nat}
def dS.pH(C:Cx)(w:Tam)(G:Gh)(p:Nat):dS C w G (C.add p) w G:=
 ⟨fun _ h=>⟨rfl,h⟩,fun _ h=>.inl h,fun _ _ h=>h,fun _ _ _=>rfl,fun _ _=>rfl,fun _ _=>rfl⟩
def jg.rep{base:Nat}{g:Tag}{e:E}{T:Tba}{t:Ty}(h:jg C w base G g e T t)(m:0<t.cells.length)(n:g.ex=false:=by rfl):cg w G.S (G.τ g) (den C.ρ e):=by
 obtain⟨r,l,q,j,z,u⟩:=h.own;rw[q];obtain⟨x,y⟩:=j;rcases y with⟨hv,hn⟩|⟨b,cap,cur,hv,hb,hg,Mr,Yl,GW,uj⟩
 .have:l=[]:=au hn;subst this;rw[hv];exact .nil none 0
 have a:=h.has;rw[q]at a;obtain⟨A,c,_,s⟩:=bO.1 a;injection c with c;subst c;by_cases k:l=[]
 .subst k;rw[hv];exact .nil _ cap
 rw[hv];refine .list b 0 cap t.cells.length r l m k Mr x (fun i f=>?_) (fun i v f=>?_) (fun i d o=>?_) u
 .rw[av];exact(z b (by rw[hv];rfl) i).2 ⟨n,f⟩
 .rw[av,cell_of_row w b i cur T (0,0) hg];rw[<-uj,aq]at f;split at f
  .simpa using f
  cases f
 exact(cB (s d (bQ o))).1
def jg.later{D:Cx}{w':Tam}{z:Gh}{base:Nat}{g:Tag}{e:E}{T:Tba}{t:Ty}(a:dS C w G D w' z)(h:jg C w base G g e T t)(r:∀b,(G.τ g).ownBlock=some b->w'.heap[b]?=w.heap[b]?)(L:∀b,(G.τ g).ownBlock=some b->∀o,z.S b o->G.S b o):jg D w' base z g e T t:=by
 obtain⟨B,u⟩:=a.den e h.lt;have q:=a.τ g h.m;refine⟨a.M _ h.m,u,B▸h.has,?_⟩;obtain⟨F,l,J,f,k,H⟩:=h.own;refine⟨F,l,B.trans J,?_,?_,fun i d j v c P O N=>(H i d j v c P O N).keep a.S a.cell⟩
 .rw[q];refine⟨f.1,?_⟩;rcases f.2 with I|⟨b,y,x,A,s,K,n⟩
  .exact .inl I
  exact .inr ⟨b,y,x,A,s,by rw[r b (by rw[A];rfl)];exact K,n⟩
 intro b s o;rw[q]at s;rw[<-k b s o];exact⟨L b s o,a.S b o⟩
def jg.gG{base:Nat}{g:Tag}{e:E}{T:Tba}{t:Ty}(h:jg C w base G g e T t):∀b,(G.τ g).ownBlock=some b->base<=b/\b<w.heap.size:=by obtain⟨c,l,_,a,_⟩:=h.own;exact a.lt
def fg.pH(h:fg w0 S0 C G σ w)(p:Nat):fg w0 S0 (C.add p) G σ w where
 below:=h.below
 jI:=h.jI
 keep:=h.keep
 qq i b hi:=⟨.inl (h.qq i b hi).1,(h.qq i b hi).2⟩
 lq:=h.lq
 dT:=h.dT
 gY:=h.gY
 na id x hx:=.inl (h.na id x hx)
 box id ro cs hx:=by obtain⟨f,d,c,a⟩:=h.box id ro cs hx;exact⟨f,d,c.later (dS.pH C w G p) rfl,a⟩
 inj:=h.inj
 own g e T t hx:=(h.own g e T t hx).later (dS.pH C w G p) (fun _ _=>rfl) (fun _ _ _ h=>h)
 gh:=h.gh
 jA:=h.jA
 eV:=h.eV
 fresh:=h.fresh
 wz:=h.wz
def fg.mh{e:Cx}{w':Tam}{d:Gh}(h:fg w0 S0 C G σ w)(a:dS C w G e w' d):∀b o,S0.jG b o->w'.cell? ⟨b,o,none⟩=w0.cell? ⟨b,o,none⟩:=
 fun b o c=>(a.cell b o (h.jI b o c)).trans (h.keep b o c)
def fg.nG{e:Cx}{w':Tam}{d:Gh}(h:fg w0 S0 C G σ w)(a:dS C w G e w' d):∀i b,S0.qq i=some b->e.M i/\d.β i=b:=
 fun i b c=>⟨a.M i (h.qq i b c).1,(a.β i (h.qq i b c).1).trans (h.qq i b c).2⟩
def fg.mX{k:Cx}{w':Tam}{d:Gh}(h:fg w0 S0 C G σ w)(c:dS C w G k w' d)(e:d.τ=G.τ)(i:∀b o,G.S b o->w'.heap[b]?=w.heap[b]?)(a:∀b o,d.S b o->(∃f,G.S b f)->G.S b o):
  S0.fr->∀g,yV (jn w0 S0) w' d.S (d.τ g):=by intro j g;rw[e];exact(h.fresh j g).mono i c.S a
def fg.tD(h:fg w0 S0 C G σ w):w0.heap.size<=w.heap.size:=h.below.size
def fg.lA(h:fg w0 S0 C G σ w){id:Nat}{x:Bool×List SC}(a:σ.hp id=some x):G.β id<w.heap.size:=by obtain⟨_,_,b,_⟩:=h.box id x.1 x.2 a;exact b.lt
def fg.alloc(h:fg w0 S0 C G σ w)(hp:¬C.M p){cs:List SC}{vs:Tac}(F:jZ C w G cs vs)(v:cs.all SC.scalar=true)(T:Tba):
  dS C w G (C.add p) (w.alloc (.cells vs.toArray T)) {G with β:=fC G.β p w.heap.size}/\
  fg w0 S0 (C.add p) {G with β:=fC G.β p w.heap.size} {σ with hp:=fC σ.hp p (some (false,cs))} (w.alloc (.cells vs.toArray T)):=by
 have a:dS C w G (C.add p) (w.alloc (.cells vs.toArray T)) {G with β:=fC G.β p w.heap.size}:=
  ⟨fun _ h=>⟨rfl,h⟩,fun _ h=>.inl h,fun _ _ h=>h,fun b o m=>World.cell?_alloc_lt w _ _ (h.dT b o m),
   fun i n=>fu _ _ (fun e=>hp (e▸n)),fun _ _=>rfl⟩
 refine⟨a,?_⟩;have H:=h.tD
 refine⟨h.below.alloc _,h.jI,h.mh a,h.nG a,h.lq,fun b o m=>by simpa using Nat.lt_succ_of_lt (h.dT b o m),h.gY,?_,?_,?_,?_,h.gh,?_,?_,h.mX a rfl (fun b o m=>Below.heap_alloc w _ _ (h.dT b o m)) (fun _ _ h _=>h),fun E b o m=>by obtain⟨z,T,q⟩:=h.wz E b o m;exact⟨z,T,(Below.heap_alloc w _ _ (h.dT b o m)).trans q⟩⟩
 .intro id x d;by_cases c:id=p
  .exact .inr c
  simp only[fu _ _ c]at d;exact .inl (h.na id x d)
 .intro id D A d;by_cases c:id=p
  .subst c;simp only[dZ,aa,ah]at d;obtain⟨rfl,rfl⟩:=d;refine⟨by simp only[dZ];exact .inl H,v,jL.mk (vs:=vs) (T:=T) ?_ (F.later a),?_⟩
   .simp only[dZ];exact heap_alloc_new w _
   simp only[dZ,aj,if_false];intro o r;exact absurd (h.dT _ _ r) (by omega)
  simp only[fu _ _ c]at d;obtain⟨L,K,J,I⟩:=h.box id D A d;simp only[fu _ _ c];exact⟨L,K,J.later a (Below.heap_alloc w _ _ (h.lA d)),I⟩
 .intro i j x y n s u;by_cases k:i=p
  .by_cases f:j=p
   .rw[k,f]
   subst k;simp only[dZ,fu _ _ f]at u s;have:=h.lA s;omega
  by_cases f:j=p
  .subst f;simp only[dZ,fu _ _ k]at u n;have:=h.lA n;omega
  simp only[fu _ _ k,fu _ _ f]at u n s;exact h.inj i j x y n s u
 .intro g e N t d;have r:=h.own g e N t d;exact r.later a (fun b l=>Below.heap_alloc w _ _ (r.gG b l).2) (fun _ _ _ h=>h)
 .exact h.jA
 intro g id x y b d B l;by_cases c:id=p
 .subst c;simp only[dZ];have:=((h.own g x.1 x.2.1 x.2.2 d).gG b l).2;omega
 simp only[fu _ _ c]at B⊢;exact h.eV g id x y b d B l
def fg.Wq(h:fg w0 S0 C G σ w){id:Nat}{u cs:List SC}(f:σ.hp id=some (false,u))(F:mapOf u=none){vs:Tac}(Q:jZ C w G cs vs)(E:cs.all SC.scalar=true):
  dS C w G C (w.setRow (G.β id) vs.toArray) G/\fg w0 S0 C G {σ with hp:=fC σ.hp id (some (false,cs))} (w.setRow (G.β id) vs.toArray):=by
 obtain⟨A,_,z,l⟩:=h.box id false u f;obtain⟨N,T,U,_⟩:=z.cells F;simp only[aj,if_false]at l;have a:∀k,k≠G.β id->(w.setRow (G.β id) vs.toArray).heap[k]?=w.heap[k]? :=fun k H=>setRow_other w _ k _ H
 have c:dS C w G C (w.setRow (G.β id) vs.toArray) G:=
  ⟨fun _ h=>⟨rfl,h⟩,fun _ h=>h,fun _ _ h=>h,fun b o r=>bn (a b (fun e=>l o (e▸r))),fun _ _=>rfl,fun _ _=>rfl⟩
 refine⟨c,?_⟩
 refine⟨?_,h.jI,h.mh c,h.nG c,h.lq,fun b o r=>by simpa using h.dT b o r,h.gY,?_,?_,?_,?_,h.gh,h.jA,?_,h.mX c rfl (fun b o r=>a b (fun e=>l o (e▸r))) (fun _ _ h _=>h),fun P b o r=>by obtain⟨I,T,v⟩:=h.wz P b o r;exact⟨I,T,(a b (fun e=>l o (e▸r))).trans v⟩⟩
 .refine⟨h.below.os,h.below.tape,h.below.output,by simpa using h.below.size,fun k H L=>(a k ?_).trans (h.below.block k H L)⟩;rintro rfl;rcases h.VX A with A|A
  .omega
  exact L A
 .intro i x d;by_cases s:i=id
  .subst s;exact h.na _ _ f
  simp only[fu _ _ s]at d;exact h.na i x d
 .intro i O J d;by_cases s:i=id
  .subst s;simp only[dZ,aa,ah]at d;obtain⟨rfl,rfl⟩:=d;refine⟨A,E,jL.mk (vs:=vs) (T:=T) (setRow_heap w _ _ _ T _ U) (Q.later c),?_⟩;simp only[aj,if_false];exact l
  simp only[fu _ _ s]at d;obtain⟨Z,Y,X,W⟩:=h.box i O J d;exact⟨Z,Y,X.later c (a _ (fun e=>s (h.inj _ _ _ _ d f e))),W⟩
 .intro i j x y s S V
  have q:∀i x,(fC σ.hp id (some (false,cs))) i=some x->∃x',σ.hp i=some x':=by
   intro i x d;by_cases m:i=id
   .exact⟨_,m▸f⟩
   exact⟨x,by rw[fu _ _ m]at d;exact d⟩
  obtain⟨x',D⟩:=q i x s;obtain⟨M,B⟩:=q j y S;exact h.inj i j x' M D B V
 .intro g e T' t d;have R:=h.own g e T' t d;exact R.later c (fun b n=>a b (h.eV g id _ _ b d f n)) (fun _ _ _ h=>h)
 intro g i x y b d K n;by_cases m:i=id
 .subst m;exact h.eV g i x _ b d f n
 simp only[fu _ _ m]at K;exact h.eV g i x y b d K n
def fg.freeze(h:fg w0 S0 C G σ w){id:Nat}{ro:Bool}{cs:List SC}(f:σ.hp id=some (ro,cs))(E:mapOf cs=none):
  ∃v,dS C w G C w v/\fg w0 S0 C v {σ with hp:=fC σ.hp id (some (true,cs))} w/\(∀o,o<cs.length->v.S (G.β id) o)/\v.β=G.β/\v.τ=G.τ:=by
 obtain⟨K,D,s,m⟩:=h.box id ro cs f;obtain⟨M,T,Q,O⟩:=s.cells E;have F:=h.lA f;refine⟨{G with S:=fun b o=>G.S b o\/(b=G.β id/\o<cs.length)},?_,?_,fun o k=>.inr ⟨rfl,k⟩,rfl,rfl⟩
 all_goals have c:dS C w G C w {G with S:=fun b o=>G.S b o\/(b=G.β id/\o<cs.length)}:=
  ⟨fun _ h=>⟨rfl,h⟩,fun _ h=>h,fun _ _ h=>.inl h,fun _ _ _=>rfl,fun _ _=>rfl,fun _ _=>rfl⟩
 .exact c
 refine⟨h.below,fun b o d=>.inl (h.jI b o d),h.keep,h.qq,h.lq,?_,?_,?_,?_,?_,?_,h.gh,h.jA,?_,h.mX c rfl (fun _ _ _=>rfl) ?_,fun N b o d=>by
  rcases d with d|⟨rfl,_⟩
  .exact h.wz N b o d
  exact⟨_,_,Q⟩⟩
 rotate_right
 .rintro b o (d|⟨rfl,k⟩) ⟨o',ho'⟩
  .exact d
  cases ro with
  |true=>simp only[if_true]at m;exact m o k
  |false=>simp only[aj,if_false]at m;exact absurd ho' (m o')
 .rintro b o (d|⟨rfl,_⟩)
  .exact h.dT b o d
  exact F
 .rintro b o (d|⟨rfl,_⟩)
  .exact h.gY b o d
  exact .inr (h.VX K)
 .intro i x a;by_cases r:i=id
  .subst r;exact h.na _ _ f
  simp only[fu _ _ r]at a;exact h.na i x a
 .intro i u I a;by_cases r:i=id
  .subst r;simp only[dZ,aa,ah]at a;obtain⟨rfl,rfl⟩:=a;exact⟨K,D,s.later c rfl,by simp only[if_true];exact fun o k=>.inr ⟨trivial,k⟩⟩
  simp only[fu _ _ r]at a;obtain⟨V,U,R,z⟩:=h.box i u I a;refine⟨V,U,R.later c rfl,?_⟩;cases u with
  |true=>simp only[if_true]at z⊢;exact fun o k=>.inl (z o k)
  |false=>
   simp only[aj,if_false]at z⊢;rintro o (k|⟨H,_⟩)
   .exact z o k
   exact r (h.inj _ _ _ _ a f H)
 .intro i j x y r P H
  have q:∀i x,(fC σ.hp id (some (true,cs))) i=some x->∃x',σ.hp i=some x':=by
   intro i x a;by_cases l:i=id
   .exact⟨_,l▸f⟩
   exact⟨x,by rw[fu _ _ l]at a;exact a⟩
  obtain⟨x',B⟩:=q i x r;obtain⟨L,A⟩:=q j y P;exact h.inj i j x' L B A H
 .intro g e W t a;have k:=h.own g e W t a;refine k.later c (fun _ _=>rfl) (fun b n o d=>?_);rcases d with d|⟨rfl,_⟩
  .exact d
  exact absurd rfl (h.eV g id _ _ _ a f n)
 intro g i x y b a J n;by_cases l:i=id
 .subst l;exact h.eV g i x _ b a f n
 simp only[fu _ _ l]at J;exact h.eV g i x y b a J n
def fg.aeW(h:fg w0 S0 C G σ w){g:Tag}{e e':E}{T:Tba}{t:Ty}(hg:σ.live g=some (e,T,t))(a1:g.ex=true){live':Tag->Tao (E×Tba×Ty)}(I:∀l x,live' l=some x->(l≠g/\σ.live l=some x)\/(l=g/\x=(e',T,t))){b n cap:Nat}{cur row:Tbd Tan}{l':Taf}(K:G.τ g=.slice (some ⟨b,0,none⟩) n cap)(M:w.heap[b]?=some (.cells cur T (0,0)))(X:row.size=cur.size)(a7:e'.lt C.N=true)(Q:den C.ρ e'=.list l')(J:l'.length=n)(a0:Has (.list t) (den C.ρ e'))(a5:∀(i:Nat) d (j:Nat) v c,l'[i]?=some d->d.cells[j]?=some c->row[i*t.cells.length+j]?=some v->cg w G.S v c):
  dS C w G C (w.setRow b row) G/\fg w0 S0 C G {σ with live:=live'} (w.setRow b row):=by
 have Z:=h.own g e T t hg;obtain⟨xs,l0,b4,Y,hS,hr⟩:=Z.own;have H:(G.τ g).ownBlock=some b:=by rw[K];rfl
 have L:∀o,¬G.S b o:=fun o u=>by have:=(hS b H o).1 u;rw[a1]at this;exact Bool.noConfusion this.1
 have a:∀k,k≠b->(w.setRow b row).heap[k]?=w.heap[k]? :=fun k hk=>setRow_other w _ k _ hk
 have f:dS C w G C (w.setRow b row) G:=
  ⟨fun _ h=>⟨rfl,h⟩,fun _ h=>h,fun _ _ h=>h,fun q o u=>bn (a q (fun e=>L o (e▸u))),fun _ _=>rfl,fun _ _=>rfl⟩
 have hb:jn w0 S0 b:=h.gh g _ b hg H
 have s:∀l x,live' l=some x->∃y,σ.live l=some y:=by
  intro l x B;rcases I l x B with⟨_,h2⟩|⟨rfl,_⟩
  .exact⟨_,h2⟩
  exact⟨_,hg⟩
 refine⟨f,?_⟩
 refine⟨?_,h.jI,h.mh f,h.nG f,h.lq,fun b o u=>by simpa using h.dT b o u,h.gY,h.na,?_,h.inj,?_,?_,?_,?_,h.mX f rfl (fun q o u=>a q (fun e=>L o (e▸u))) (fun _ _ h _=>h),fun hz q o u=>by obtain⟨O,T',R⟩:=h.wz hz q o u;exact⟨O,T',(a q (fun e=>L o (e▸u))).trans R⟩⟩
 .refine⟨h.below.os,h.below.tape,h.below.output,by simpa using h.below.size,fun k hk hm=>(a k ?_).trans (h.below.block k hk hm)⟩;rintro rfl;rcases hb with hb|hb
  .omega
  exact hm hb
 .intro i ro a9 B;obtain⟨h1,h2,U,h5⟩:=h.box i ro a9 B;exact⟨h1,h2,U.later f (a _ (Ne.symm (h.eV g i _ _ b hg B H))),h5⟩
 .intro l e1 T1 V B;rcases I l _ B with⟨tV,hl⟩|⟨rfl,hl⟩
  .have ho:=h.own l e1 T1 V hl;exact ho.later f (fun q r=>a q (fun e=>tV (h.jA l g _ _ q hl hg r (e▸H)))) (fun _ _ _ h=>h)
  simp only[ah]at hl;obtain⟨rfl,rfl,rfl⟩:=hl;obtain⟨b0,hh⟩:=Y;rcases hh with⟨hv,_⟩|⟨q,He,O,hv,r,z,Mr,Yl,GW,uj⟩
  .rw[K]at hv;cases hv
  rw[K]at hv;injection hv with F b2 a3;injection F with F;injection F with F;subst F;subst a3;rw[M]at z;injection z with z;injection z with z;subst z;have a6:n<=cap:=by omega
  have b3:n*V.cells.length<=row.toList.length:=by simp only[fQ];rw[X,GW];exact aw _ a6
  have a4:(row.toList.take (n*V.cells.length)).length=n*V.cells.length:=by rw[aA];omega
  refine⟨Z.m,a7,a0,row.toList.take (n*V.cells.length),l',Q,⟨by rw[a4,J],.inr ⟨b,cap,row,by rw[K,J],r,?_,by omega,Yl,by rw[X];exact GW,by rw[J]⟩⟩,?_,?_⟩
  .exact setRow_heap w _ _ _ _ _ M
  .intro b1 A o;have:b1=b:=by rw[H]at A;injection A with A;exact A.symm
   subst this;rw[a1];exact⟨fun u=>(L o u).elim,fun u=>Bool.noConfusion u.1⟩
  intro i d j v c h1 h2 U;refine(a5 i d j v c h1 h2 ?_).keep f.S f.cell;rw[aq]at U;split at U
  .simpa using U
  cases U
 .intro l x q B r;obtain⟨y,W⟩:=s l x B;exact h.gh l y q W r
 .intro g1 g2 x y q B W A a8;obtain⟨x',P⟩:=s g1 x B;obtain⟨y',a2⟩:=s g2 y W;exact h.jA g1 g2 x' y' q P a2 A a8
 intro l id x y q B W r;obtain⟨x',P⟩:=s l x B;exact h.eV l id x' y q P W r
end
def fT(b o j:Nat):(⟨b,o,none⟩:Addr).add j=⟨b,o+j,none⟩:=by unfold Addr.add;split<;>simp_all
section
variable{P:Tap}(w:Tam)
def kf(base:Nat)(t ty e:Tba)(i:TypeInfo)(z:Tan)(size:Nat)(D:P.underlying t=some (.slice e))(hi:P.info? e=some i)(N:i.zero=some z)(s:i.size=size)(K:z.cells.size=size)(v:Tan)(n:Nat)(xs:Tac)(b:w.ownsRow base e size v n xs)(A:Tao Addr)(m c:Nat)(news:Tac)(T:A=none->m=0)(x:news.length=m*size)(d:∀a,A=some a->∀(j:Nat) u,news[j]?=some u->w.cell? (a.add j)=some u)(U:∀u∈news,u.oneCell'=true)(H:n+m<=maxLen)(o:(n+m)*i.bytes<=140737488355328)(B:base<=w.heap.size):
  ∃I w',(Builtin.append_ #[t,t] ty #[v,.slice A m c]).run P w=.ok I w'/\w'.ownsRow base e size I (n+m) (xs++news)/\
   ((I.ownBlock=v.ownBlock/\w.grownBy w' v.ownBlock)\/(I.ownBlock=some w.heap.size/\w.grownBy w' none)):=by
 subst s;have J:n+m<=9223372036854775807:=by simp only[maxLen]at H;omega
 have l:(xs++news).length=(n+m)*i.size:=by rw[ai,b.1,x,cn]
 by_cases O:m=0
 .subst O;have R:news=[]:=au (by simpa using x);subst R;refine⟨v,w,?_,by simpa using b,.inl ⟨rfl,⟨rfl,rfl,rfl,aU _,fun _ _ _=>rfl⟩⟩⟩;rcases b.2 with⟨rfl,rfl⟩|⟨g,cap,cur,rfl,_,_,Mr,_⟩
  .cases A<;>simp[Builtin.append_,run_underlying D,sizeOf,typeInfo,hi,Builtin.lenOf,Builtin.firstCells,loadCells,loadCellsFrom]
  cases A<;>simp[Builtin.append_,run_underlying D,sizeOf,typeInfo,hi,Builtin.lenOf,Builtin.firstCells,Mr,storeCells,loadCells,loadCellsFrom]
 obtain⟨a,rfl⟩:∃a,A=some a:=by
  cases A with
  |none=>exact absurd (T rfl) O
  |some a=>exact⟨a,rfl⟩
 have d:=d a rfl
 have r:∀(f:Nat),f<n+m->
   (w.drew.alloc (.cells (xs.toArray++news.toArray++Builtin.zeroCells z.cells (grownCap w (n+m) f e-(n+m))) e)).ownsRow base e i.size
    (.slice (some ⟨w.heap.size,0,none⟩) (n+m) (grownCap w (n+m) f e)) (n+m) (xs++news)/\
   w.grownBy (w.drew.alloc (.cells (xs.toArray++news.toArray++Builtin.zeroCells z.cells (grownCap w (n+m) f e-(n+m))) e)) none:=by
  intro f V;have M:=grownCap_ge w (n+m) f e;have y:grownCap w (n+m) f e<=maxLen:=grownCap_le_maxLen w (n+m) f e H;refine⟨⟨l,.inr ⟨w.heap.size,_,_,rfl,B,heap_alloc_new w.drew _,M,y,?_,?_⟩⟩,⟨rfl,rfl,rfl,by simp,fun k L _=>heap_alloc_old w.drew _ k L⟩⟩
  .simp only[Array.size_append,bV,size_zeroCells,K,b.1,x,<-cn];congr 1;omega
  simp only[Array.toList_append,dP];rw[<-dP,<-l];exact List.take_left
 rcases b.2 with⟨rfl,rfl⟩|⟨g,cap,cur,rfl,hbg,hg,Mr,y,GW,uj⟩
 .have Q:xs=[]:=au (by simpa using b.1);subst Q;have E:=run_append_nil (P:=P) w t ty e i z D hi N a m c news x d (by omega) (by omega) (by have S:=o;simp only[av]at S;omega);have q:=r 0 (by omega);simp only[av,dW,Array.empty_append]at q⊢;exact⟨_,_,E,q.1,.inr ⟨rfl,q.2⟩⟩
 by_cases h:n+m<=cap
 .have F:n*i.size+news.length<=cur.size:=by rw[x,GW,<-cn];exact aw _ h
  have E:=run_append_room (P:=P) w t ty e i D hi g n cap cur hg a m c news x d U h F;refine⟨_,_,E,⟨l,.inr ⟨g,cap,_,rfl,hbg,setRow_heap w g cur _ e _ hg,h,y,?_,?_⟩⟩,.inl ⟨rfl,⟨rfl,rfl,rfl,by simp,fun k _ L=>setRow_other w g k _ (fun e=>L (by simp[Value.ownBlock,e]))⟩⟩⟩
  .simp only[bV,ai,aA,ba,fQ];omega
  rw[uj,<-l];exact List.take_left
 have holds:∀(j:Nat) u,xs[j]?=some u->w.cell? ((⟨g,0,none⟩:Addr).add j)=some u:=b.cells (g:=g) rfl;have E:=run_append_grow (P:=P) w t ty e i z D hi N ⟨g,0,none⟩ n cap xs b.1 holds a m c news x d (by omega) (by omega) (growslice_fits (by omega) o);have q:=r cap (by omega);exact⟨_,_,E,q.1,.inr ⟨rfl,q.2⟩⟩
end
section
variable{C:Cx}{w w' w0:Tam}{G:Gh}{S0:gK}{σ:St}{p:Nat}
def jg.mono{base a:Nat}{g:Tag}{e:E}{T:Tba}{t:Ty}(h:jg C w base G g e T t)(s:a<=base):jg C w a G g e T t:=by
 obtain⟨j,l,q,c,d⟩:=h.own;refine⟨h.m,h.lt,h.has,j,l,q,⟨c.1,?_⟩,d⟩;rcases c.2 with n|⟨b,i,f,k,r,o⟩
 .exact .inl n
 exact .inr ⟨b,i,f,k,by omega,o⟩
def fg.called(h:fg w0 S0 C G σ w)(R:¬C.M p){S':bE}{τ':Taj}(u:Below w.heap.size w w')(I:∀b o,G.S b o->S' b o)(z:∀b o,S' b o->b<w'.heap.size)(m:∀b o,S' b o->G.S b o\/w.heap.size<=b)(live':Tag->Tao (E×Tba×Ty))(K:Gh)(W:K={S:=S',β:=G.β,τ:=fun g=>if g.1=p then τ' g.2 else G.τ g})(c:∀g x,live' g=some x->(g.1≠p/\σ.live g=some x)\/(g.1=p/\jg (C.add p) w' w.heap.size K g x.1 x.2.1 x.2.2))(H:∀j k x y b,live' (p,j)=some x->live' (p,k)=some y->(τ' j).ownBlock=some b->(τ' k).ownBlock=some b->j=k)(N:S0.fr->∀j,yV (jn w0 S0) w' S' (τ' j))(L:¬S0.wz):
  dS C w G (C.add p) w' K/\fg w0 S0 (C.add p) K {σ with live:=live'} w':=by
 subst W;have n:∀k,k<w.heap.size->w'.heap[k]?=w.heap[k]? :=u.block
 have l:dS C w G (C.add p) w' {S:=S',β:=G.β,τ:=fun g=>if g.1=p then τ' g.2 else G.τ g}:=
  ⟨fun _ h=>⟨rfl,h⟩,fun _ h=>.inl h,I,fun b o r=>bn (n b (h.dT b o r)),fun _ _=>rfl,fun g U=>if_neg (fun e=>R (by rw[<-e];exact U))⟩
 refine⟨l,?_⟩;have Y:=h.tD;refine⟨h.below.trans (.of u),fun b o r=>I b o (h.jI b o r),h.mh l,h.nG l,h.lq,z,?_,fun id x q=>.inl (h.na id x q),?_,h.inj,?_,?_,?_,?_,fun Q g=>?_,fun h=>absurd h L⟩
 rotate_right
 .show yV (jn w0 S0) w' S' (if g.1=p then τ' g.2 else G.τ g);split
  .exact N Q g.2
  exact(h.fresh Q g).mono (fun b o r=>n b (h.dT b o r)) I (fun b o r ⟨o',ho'⟩=>by
   rcases m b o r with s|s
   .exact s
   have:=h.dT _ _ ho';omega)
 .intro b o r;rcases m b o r with i|i
  .exact h.gY b o i
  exact .inr (.inl (by omega))
 .intro id O X q;obtain⟨i,f,B,D⟩:=h.box id O X q;have z:=h.lA q;refine⟨i,f,B.later l (n _ z),?_⟩;cases O with
  |true=>simp only[if_true]at D⊢;exact fun o v=>I _ _ (D o v)
  |false=>
   simp only[aj,if_false]at D⊢;intro o v;rcases m _ _ v with s|s
   .exact D o s
   omega
 .intro g e T t q;rcases c g _ q with⟨i,f⟩|⟨i,f⟩
  .have v:=h.own g e T t f;refine v.later l (fun b A=>n b (v.gG b A).2) (fun b A o r=>?_);rcases m b o r with s|s
   .exact s
   have:=(v.gG b A).2;omega
  exact f.mono (aF _)
 .intro g x b q a;rcases c g _ q with⟨i,f⟩|⟨i,f⟩
  .simp only[if_neg i]at a;exact h.gh g x b f a
  exact .inl (by have:=(f.gG b a).1;omega)
 .intro g J x y b q F a d;rcases c g _ q with⟨i,f⟩|⟨i,f⟩<;>rcases c J _ F with⟨B,h4⟩|⟨B,h4⟩
  .simp only[if_neg i]at a;simp only[if_neg B]at d;exact h.jA g J x y b f h4 a d
  .simp only[if_neg i]at a;have D:=((h.own g x.1 x.2.1 x.2.2 f).gG b a).2;have s:=(h4.gG b d).1;omega
  .simp only[if_neg B]at d;have D:=((h.own J y.1 y.2.1 y.2.2 h4).gG b d).2;have s:=(f.gG b a).1;omega
  obtain⟨g1,j⟩:=g;obtain⟨g2,k⟩:=J;simp only at i B;subst i;subst B;simp only[if_true]at a d;rw[H j k x y b q F a d]
 intro g id x y b q F a;rcases c g _ q with⟨i,f⟩|⟨i,f⟩
 .simp only[if_neg i]at a;exact h.eV g id x y b f F a
 have s:=(f.gG b a).1;have h7:=h.lA F;intro V;have Z:b=G.β id:=V;omega
def fg.appended(h:fg w0 S0 C G σ w)(hp:¬C.M p)(q:Nat){v v':Tan}{T:Tba}{t:Ty}{n m:Nat}{xs news:Tac}{l l2:Taf}{e2:E}(e7:0<t.cells.length)(b3:l.length=n)(f3:l2.length=m)(e6:∀(i:Nat) d (j:Nat) u c,l[i]?=some d->d.cells[j]?=some c->xs[i*t.cells.length+j]?=some u->cg w G.S u c)(f2:∀(i:Nat) d (j:Nat) u c,l2[i]?=some d->d.cells[j]?=some c->news[i*t.cells.length+j]?=some u->cg w G.S u c)(e5:∀d∈l,d.cells.length=t.cells.length)(hx:xs.length=n*t.cells.length)(R:w'.ownsRow 0 T t.cells.length v' (n+m) (xs++news))(J:(v'.ownBlock=v.ownBlock/\w.grownBy w' v.ownBlock)\/(v'.ownBlock=some w.heap.size/\w.grownBy w' none))(live':Tag->Tao (E×Tba×Ty))(L:v=.slice none 0 0\/∃g x,σ.live g=some x/\G.τ g=v/\live' g=none/\∀b,v.ownBlock=some b->(∀o,G.S b o↔Tag.ex (p,q)=false/\o<xs.length)/\∀o u,xs[o]?=some u->w.cell? ⟨b,o,none⟩=some u)(he:e2.lt C.N=true)(d8:den C.ρ e2=.list (l++l2))(d6:Has (.list t) (den C.ρ e2))(a1:∀g x,live' g=some x->(g≠(p,q)/\σ.live g=some x)\/(g=(p,q)/\x=(e2,T,t)))(d7:S0.fr->Tag.ex (p,q)=false/\(v=.slice none 0 0->∀u∈xs,mJ (yW (jn w0 S0) w G.S) u)/\∀u∈news,mJ (yW (jn w0 S0) w G.S) u)(f1:¬S0.wz):
  ∃G',dS C w G (C.add p) w' G'/\fg w0 S0 (C.add p) G' {σ with live:=live'} w'/\G'.τ (p,q)=v':=by
 have g0:=h.tD;have c4:(xs++news).length=(n+m)*t.cells.length:=R.1
 have a8:∀b o,G.S b o->w'.cell? ⟨b,o,none⟩=w.cell? ⟨b,o,none⟩:=by
  intro b o z;have d9:=h.dT b o z;rcases J with⟨s,f⟩|⟨s,f⟩
  .by_cases a9:some b=v.ownBlock
   .rcases L with Q|⟨g,x,hg,H,_,I⟩
    .rw[Q]at a9;cases a9
    obtain⟨hf,hc⟩:=I b a9.symm;have Y:=((hf o).1 z).2;have c9:xs[o]?=some xs[o]:=aS Y;have K:=R.cells (g:=b) (s.trans a9.symm) o xs[o] (by rw[an Y];exact c9);rw[fT,av]at K;rw[K,hc o _ c9]
   exact bn (f.block b d9 a9)
  exact bn (f.block b d9 (by simp))
 have b8:∀b,b<w.heap.size->v.ownBlock≠some b->w'.heap[b]?=w.heap[b]? :=by
  intro b a U;rcases J with⟨_,f⟩|⟨_,f⟩
  .exact f.block b a (fun e=>U e.symm)
  exact f.block b a (by simp)
 have d1:∀b,v.ownBlock=some b->jn w0 S0 b/\b<w.heap.size:=by
  intro b a;rcases L with Q|⟨g,x,hg,H,_,_⟩
  .rw[Q]at a;cases a
  rw[<-H]at a;exact⟨h.gh g x b hg a,((h.own g x.1 x.2.1 x.2.2 hg).gG b a).2⟩
 have a5:∀b,v'.ownBlock=some b->jn w0 S0 b:=by
  intro b a;rcases J with⟨s,_⟩|⟨s,_⟩
  .exact(d1 b (s▸a)).1
  rw[s]at a;injection a with a;exact .inl (by omega)
 have X:∀b,v'.ownBlock=some b->(v.ownBlock=some b\/b=w.heap.size):=by
  intro b a;rcases J with⟨s,_⟩|⟨s,_⟩
  .exact .inl (s▸a)
  rw[s]at a;injection a with a;exact .inr a.symm
 have e8:w.heap.size<=w'.heap.size:=by rcases J with⟨_,f⟩|⟨_,f⟩<;>exact f.size
 let G':Gh:={S:=fun b o=>G.S b o\/(Tag.ex (p,q)=false/\v'.ownBlock=some b/\o<(xs++news).length),β:=G.β,τ:=fun g=>if g.1=p then v' else G.τ g};have e4:∀g:Tag,C.M g.1->(if g.1=p then v' else G.τ g)=G.τ g:=fun g hg=>if_neg (fun e=>hp (by rw[<-e];exact hg));have O:dS C w G (C.add p) w' G':=⟨fun _ h=>⟨rfl,h⟩,fun _ h=>.inl h,fun _ _ h=>.inl h,a8,fun _ _=>rfl,e4⟩;refine⟨G',O,?_,if_pos rfl⟩;refine⟨?_,fun b o z=>.inl (h.jI b o z),h.mh O,h.nG O,h.lq,?_,?_,fun id x hx=>.inl (h.na id x hx),?_,h.inj,?_,?_,?_,?_,fun hf g=>?_,fun h=>absurd h f1⟩
 rotate_right
 .obtain⟨hq,b6,c2⟩:=d7 hf
  .have c7:∀(o:Nat) u,xs[o]?=some u->mJ (yW (jn w0 S0) w G.S) u:=by
    intro o u hu;have f0:o<xs.length:=(aO.1 hu).1;rcases L with Q|⟨g1,x1,f5,H,_,I⟩
    .exact b6 Q u (bQ hu)
    have d4:=h.own g1 x1.1 x1.2.1 x1.2.2 f5;obtain⟨e3,l0,_,a6,f9,_⟩:=d4.own;rcases a6.2 with⟨hn,_⟩|⟨b1,aiQ,aiO,hv1,hbb,_⟩
    .exact b6 (H▸hn) u (bQ hu)
    have d5:v.ownBlock=some b1:=by rw[<-H,hv1];rfl
    obtain⟨f6,f8⟩:=I b1 d5;have e0:G.S b1 o:=(f6 o).2 ⟨hq,f0⟩;have K:=(f9 b1 (by rw[hv1];rfl) o).1 e0;have h4:=h.fresh hf g1 _ _ _ hv1;rw[hv1]at h4;rcases h4 with h4|⟨b2,o2,h5,B⟩
    .have h7:e3.length=l0.length*_:=a6.1;rw[h4,Nat.zero_mul]at h7;omega
    simp only[aa,Addr.mk.injEq]at h5;obtain⟨rfl,_⟩:=h5;exact(yW.set _ _ _ b1 B).2.2.2 o u e0 (f8 o u hu)
   have hX:NW (jn w0 S0) w' G'.S (fun b=>yW (jn w0 S0) w G.S b\/(v'.ownBlock=some b/\0<(xs++news).length)):=by
    intro b a;by_cases r:v'.ownBlock=some b
    .have d3:0<(xs++news).length\/yW (jn w0 S0) w G.S b:=a.elim .inr (fun h=>.inl h.2)
     have c1:∃o,G'.S b o:=by
      rcases d3 with s|s
      .exact⟨0,.inr ⟨hq,r,s⟩⟩
      obtain⟨o,Y⟩:=(yW.set _ _ _ b s).2.1;exact⟨o,.inl Y⟩
     have f7:∃c6 T,w'.heap[b]?=some (.cells c6 T (0,0)):=by
      rcases R.2 with⟨Q,_⟩|⟨b2,cap,c6,Q,_,Yj,_⟩
      .rw[Q]at r;cases r
      rw[Q]at r;simp only[Value.ownBlock,aa]at r;subst r;exact⟨_,_,Yj⟩
     refine⟨a5 b r,c1,f7,fun o u z hu=>?_⟩
     have b5:o<(xs++news).length->mJ (fun b=>yW (jn w0 S0) w G.S b\/(v'.ownBlock=some b/\0<(xs++news).length)) u:=by
      intro Y;have K:=R.cells (g:=b) r o (xs++news)[o] (aS Y);rw[fT,av,hu]at K;injection K with K;have h4:(xs++news)[o]?=some u:=by rw[K];exact aS Y
      by_cases e9:o<xs.length
      .rw[an e9]at h4;exact(c7 o u h4).mono fun b a=>.inl a
      rw[aL (by omega)]at h4;exact(c2 u (bQ h4)).mono fun b a=>.inl a
     rcases z with z|⟨_,_,z⟩
     .rcases X b r with B|B
      .rcases L with Q|⟨g',x',a3,H,V,I⟩
       .rw[Q]at B;cases B
       have:=((I b B).1 o).1 z;exact b5 (by rw[ai];omega)
      have:=h.dT b o z;omega
     exact b5 z
    rcases a with a|⟨a,_⟩
    .obtain⟨s,⟨o1,f⟩,⟨e1,T0,h4⟩,K⟩:=yW.set _ _ _ b a
     have c0:w'.heap[b]?=w.heap[b]? :=by
      rcases J with⟨h5,B⟩|⟨_,B⟩
      .exact B.block b (h.dT b o1 f) (fun e=>r (h5.trans e.symm))
      exact B.block b (h.dT b o1 f) (by simp)
     refine⟨s,⟨o1,.inl f⟩,⟨e1,T0,c0.trans h4⟩,fun o u z hu=>?_⟩;rcases z with z|⟨_,z,_⟩
     .exact(K o u z (by rw[<-a8 b o z];exact hu)).mono fun b a=>.inl a
     exact absurd z r
    exact absurd a r
   show yV (jn w0 S0) w' G'.S (if g.1=p then v' else G.τ g);split
   .intro a0 n0 b9 d2;rcases R.2 with⟨Q,_⟩|⟨b,cap,c6,Q,_⟩
    .rw[Q];exact .inl rfl
    rw[Q];by_cases h0:n+m=0
    .exact .inl h0
    refine .inr ⟨b,0,rfl,_,hX,.inr ⟨by rw[Q];rfl,?_⟩⟩;rw[c4];exact Nat.mul_pos (by omega) e7
   exact fun a0 n0 b9 d2=>(h.fresh hf g a0 n0 b9 d2).mono fun b a=>⟨_,hX,.inl a⟩
 .rcases J with⟨_,f⟩|⟨_,f⟩
  .refine⟨f.os.trans h.below.os,f.tape.trans h.below.tape,f.output.trans h.below.output,aY h.below.size f.size,fun k hk hm=>(f.block k (by omega) (fun e=>?_)).trans (h.below.block k hk hm)⟩;rcases (d1 k e.symm).1 with K|K
   .omega
   exact hm K
  exact h.below.trans ⟨f.os,f.tape,f.output,f.size,fun k hk _=>f.block k hk (by simp)⟩
 .rintro b o (z|⟨_,a,_⟩)
  .have:=h.dT b o z;omega
  exact(R.lt b a).2
 .rintro b o (z|⟨_,a,_⟩)
  .exact h.gY b o z
  exact .inr (a5 b a)
 .intro id ro cs A;obtain⟨s,f,K,h5⟩:=h.box id ro cs A;have c3:=h.lA A
  have U:∀b,v.ownBlock=some b->b≠G.β id:=by
   intro b a;rcases L with Q|⟨g,x,hg,H,_,_⟩
   .rw[Q]at a;cases a
   rw[<-H]at a;exact h.eV g id x _ b hg A a
  refine⟨s,f,K.later O (b8 _ c3 (fun e=>U _ e rfl)),?_⟩;cases ro with
  |true=>simp only[if_true]at h5⊢;exact fun o Y=>.inl (h5 o Y)
  |false=>
   simp only[aj,if_false]at h5⊢;rintro o (Y|⟨_,a,_⟩)
   .exact h5 o Y
   rcases X _ a with B|B
   .exact U _ B rfl
   have h7:G.β id=w.heap.size:=B;omega
 .intro g e T' t' A;rcases a1 g _ A with⟨s,f⟩|⟨s,f⟩
  .have Y:=h.own g e T' t' f
   have b7:∀b,(G.τ g).ownBlock=some b->v.ownBlock≠some b:=by
    intro b a r;rcases L with Q|⟨g',x,a3,H,V,_⟩
    .rw[Q]at r;cases r
    rw[<-H]at r;have:=h.jA g g' _ x b f a3 a r;have d0:live' g=some (e,T',t'):=A;rw[this,V]at d0;cases d0
   refine Y.later O (fun b a=>b8 b (Y.gG b a).2 (b7 b a)) (fun b a o z=>?_);rcases z with z|⟨_,z,_⟩
   .exact z
   rcases X b z with B|B
   .exact absurd B (b7 b a)
   have:=(Y.gG b a).2;omega
  subst s;simp only[ah]at f;obtain⟨rfl,rfl,rfl⟩:=f;refine⟨.inr rfl,he,d6,xs++news,l++l2,d8,?_,?_,?_⟩
  .show w'.ownsRow 0 T' t'.cells.length (if p=p then v' else _) _ _;rw[if_pos rfl,ai,b3,f3];exact R
  .intro b a o;have b4:v'.ownBlock=some b:=by simpa [G']using a
   constructor
   .rintro(z|⟨hq,_,z⟩)
    .rcases X b b4 with B|B
     .rcases L with Q|⟨g',x,a3,H,V,I⟩
      .rw[Q]at B;cases B
      have:=((I b B).1 o).1 z;rw[ai];exact⟨this.1,by omega⟩
     have:=h.dT b o z;omega
    exact⟨hq,z⟩
   intro Y;exact .inr ⟨Y.1,b4,Y.2⟩
  intro i d j u c s f K;by_cases hi:i<l.length
  .rw[an hi]at s;have hj:j<d.cells.length:=(aO.1 f).1;have hw:=e5 d (bQ s)
   have c3:i*t'.cells.length+j<xs.length:=by rw[hx,<-b3];have:(i+1)*t'.cells.length<=l.length*t'.cells.length:=aw _ hi;rw[cn]at this;omega
   rw[an c3]at K;exact(e6 i d j u c s f K).keep O.S O.cell
  rw[aL (by omega)]at s
  have f4:xs.length<=i*t'.cells.length+j:=by rw[hx,<-b3];exact aY (aw _ (by omega)) (cP _ _)
  rw[aL f4]at K;refine(f2 (i-l.length) d j u c s f ?_).keep O.S O.cell;rw[<-K,hx,<-b3,Nat.sub_mul];congr 1;have:l.length*t'.cells.length<=i*t'.cells.length:=aw _ (by omega);omega
 .intro g x b A F;rcases a1 g _ A with⟨s,f⟩|⟨s,f⟩
  .have K:g.1≠p:=fun a7=>hp (a7▸(h.own g x.1 x.2.1 x.2.2 f).m);simp only[G',if_neg K]at F;exact h.gh g x b f F
  subst s;simp only[G',if_true]at F;exact a5 b F
 .intro g g' x y b A W F Z
  have a2:∀g x,g.1≠p\/g≠(p,q)->live' g=some x->σ.live g=some x:=by
   intro g x U hl;rcases a1 g _ hl with⟨_,f⟩|⟨s,_⟩
   .exact f
   subst s;rcases U with U|U<;>exact absurd rfl U
  have a4:∀g x,g≠(p,q)->σ.live g=some x->live' g=some x->g.1≠p:=by intro g x _ z _ a7;exact hp (a7▸(h.own g x.1 x.2.1 x.2.2 z).m)
  have b0:∀g x,g≠(p,q)->live' g=some x->(G.τ g).ownBlock=some b->v'.ownBlock=some b->False:=by
   intro g x U hl a b4;have z:=a2 g x (.inr U) hl;have Y:=h.own g x.1 x.2.1 x.2.2 z;rcases X b b4 with B|B
   .rcases L with Q|⟨g',x',a3,H,V,_⟩
    .rw[Q]at B;cases B
    rw[<-H]at B;have:=h.jA g g' _ x' b z a3 a B;rw[this,V]at hl;cases hl
   have:=(Y.gG b a).2;omega
  by_cases s:g=(p,q)<;>by_cases f:g'=(p,q)
  .rw[s,f]
  .subst s;have K:=a4 g' y f (a2 g' y (.inr f) W) W;simp only[G',if_true,if_neg K]at F Z;exact(b0 g' y f W Z F).elim
  .subst f;have K:=a4 g x s (a2 g x (.inr s) A) A;simp only[G',if_true,if_neg K]at F Z;exact(b0 g x s A F Z).elim
  have K:=a4 g x s (a2 g x (.inr s) A) A;have h4:=a4 g' y f (a2 g' y (.inr f) W) W;simp only[G',if_neg K,if_neg h4]at F Z;exact h.jA g g' x y b (a2 g x (.inr s) A) (a2 g' y (.inr f) W) F Z
 intro g id x y b A W F;rcases a1 g _ A with⟨s,f⟩|⟨s,f⟩
 .have K:g.1≠p:=fun a7=>hp (a7▸(h.own g x.1 x.2.1 x.2.2 f).m);simp only[G',if_neg K]at F;exact h.eV g id x y b f W F
 subst s;simp only[G',if_true]at F;rcases X b F with B|B
 .rcases L with Q|⟨g',x',a3,H,_,_⟩
  .rw[Q]at B;cases B
  rw[<-H]at B;exact h.eV g' id x' _ b a3 W B
 have h7:=h.lA W;intro he;have h8:b=G.β id:=he;omega
end
abbrev bF:=Ty×Tao (Nat×Tba)
structure Ob where
 shape:List Bool
 cH:List (List bF)
 outs:List (List bF)
 fresh:Bool
def Ob.wW(ob:Ob):Bool:=ob.shape.isEmpty&&ob.cH.isEmpty&&(ob.outs.length==2)
def Ob.mv(ob:Ob):Bool:=ob.fresh&&(ob.outs.length==ob.cH.length)
def Ob.new(ob:Ob):Bool:=ob.fresh&& !(ob.outs.length==ob.cH.length)
def Ob.Dt{ob:Ob}(h:ob.mv=true):ob.new=false:=by unfold Ob.mv at h;unfold Ob.new;simp only[aT]at h;rw[h.1,h.2];rfl
structure dL where
 params:Tal
 res:List (Bool×List bF)
 ob:Tao Ob
structure z8 where
 ps:Tal
 t:Ty
 T:Tba
 kt:Ty
 TM:Tba
 nn:Tao (dL×Ty):=none
structure ni where
 l:List (Nat×dL)
 ex:Tah
 fr:Nat
 mp:List (Tba×Ty):=[]
 et:List (Nat×z8):=[]
inductive Item where
 |Ju (pc:dM) (b:Bool)
 |kx (pc:dM) (e:E)
 |call (p f:Nat) (args:E) (pc:dM)
 |room (pc:dM) (e:E) (bytes:Nat)
def flat(P:Tap):Nat->Tba->Tao (Tal)
 |0,_=>none
 |n+1,t=>
  match P.underlying t with
  |some (.int k)=>some [.int k]
  |some .bool=>some [.bool]
  |some .string=>some [.str]
  |some (.slice e)=>
   match P.underlying e,flat P n e with
   |some (.struct _),some l=>some [.list (.agg (.V l))]
   |_,some [x]=>some [.list x]
   |_,_=>none
  |some (.pointer e)=>(flat P n e).map fun l=>[.ptr (.V l)]
  |some (.struct fs)=>fs.toList.foldr (fun f acc=>match flat P n f.type,acc with|some a,some b=>some (a++b)|_,_=>none) (some [])
  |_=>none
def Fc:Nat:=8
def Fe:Nat:=12
def Yr(P:Tap)(t:Tba):Tao Ty:=
 match P.underlying t,flat P Fe t with
 |some (.struct _),some l=>some (.agg (.V l))
 |some _,some [x]=>some x
 |_,_=>none
def qF:Ty->Tan->Tao SC
 |.int k,.int k' n=>if k'=k/\jX k n then some (.gH (.aZ k n) (.int k)) else none
 |.bool,.bool b=>some (.gH (.fa b) .bool)
 |.str,.string s=>some (.gH (.BC s) .str)
 |.list t,.slice none 0 0=>some (.oJ t)
 |.ptr fs,.pointer none=>some (.gH .gI (.ptr fs))
 |_,_=>none
def BB(P:Tap)(σ:St)(b:Tba):Tbb->Tao (dM×SV)
 |.tmp t=>σ.tm t
 |.const (.int k n)=>(qF (.int k) (.int k n)).map fun c=>([],.one c)
 |.const .nilFunc=>some ([],.one .Ha)
 |.const v=>match Yr P b with
  |some t=>(qF t v).map fun c=>([],.one c)
  |none=>none
 |.func f=>some ([],.one (.gH (.un (.fnc f) .nil) (.fn f .nil)))
 |.global _=>none
def DR(c pc:dM):Bool:=c.all pc.contains
def gp(P:Tap)(σ:St)(pc:dM)(x:Tbb)(b:Tba):Tao SV:=
 match BB P σ b x with
 |some (c,s)=>if DR c pc then some s else none
 |none=>none
def asData:SC->Tao (E×Ty)
 |.gH e t=>some (e,t)
 |.oJ t=>some (.nil,.list t)
 |.own _ e t=>some (e,.list t)
 |.clip e t=>some (e,.list t)
 |_=>none
def gZ:List SC->Tao (List E×Tal)
 |[]=>some ([],[])
 |c::r=>match asData c,gZ r with
  |some (e,t),some (es,ts)=>some (e::es,t::ts)
  |_,_=>none
def jc{cs:List SC}{x:List E×Tal}(h:gZ cs=some x):mapOf cs=none:=by
 unfold mapOf;split
 .simp[gZ,asData]at h
 rfl
def po:SV->Tao (E×Ty)
 |.one c=>asData c
 |.agg l=>match gZ l with
  |some (es,ts)=>some (.un .agg (.V es),.agg (.V ts))
  |none=>none
 |.ff _=>none
def fA(P:Tap)(σ:St)(pc:dM)(x:Tbb)(b:Tba):Tao (E×Ty):=(gp P σ pc x b).bind po
def lJ(e:E):Nat->Tal->List SC
 |_,[]=>[]
 |j,t::r=>.gH (.un (.cell j) e) t::lJ e (j+1) r
def mA:SV->Tao (List SC)
 |.one (.gH e (.agg fs))=>some (lJ e 0 fs.A)
 |.one c=>some [c]
 |.agg l=>some l
 |.ff _=>none
def jd(P:Tap)(t:Tba):Bool:=match P.underlying t with|some (.struct _)=>true|some (.array ..)=>true|_=>false
def iy(P:Tap)(t:Tba):Tak:=(P.info? t).map (·.size)
def zQ(t:Ty)(c a b:E):E:=
 match t,a,b with
 |.bool,a,.fa false=>.bin .and c a
 |.bool,.fa true,b=>.bin .or c b
 |_,a,b=>.ite c a b
section
variable{P:Tap}{C:Cx}{w:Tam}{G:Gh}{σ:St}{a:Act}
def CN{t:Ty}{v:Tan}{c:SC}(h:qF t v=some c):ru C w G c v/\c.scalar=true:=by
 unfold qF at h;split at h
 .split at h
  .rename_i b;injection h with h;subst h;obtain⟨rfl,d⟩:=b;exact⟨⟨rfl,.int _ _,dt.2 ⟨_,rfl,d⟩⟩,rfl⟩
  cases h
 .injection h with h;subst h;exact⟨⟨rfl,.bool _,dg.2 ⟨_,rfl⟩⟩,rfl⟩
 .injection h with h;subst h;exact⟨⟨rfl,.str _,my.2 ⟨_,rfl⟩⟩,rfl⟩
 .injection h with h;subst h;exact⟨rfl,rfl⟩
 .injection h with h;subst h;exact⟨⟨rfl,.gI,kJ.2 (.inl rfl)⟩,rfl⟩
 cases h
def BQ{ρ:Nat->D}{c pc:dM}(h:DR c pc=true)(b:bc ρ pc=true):bc ρ c=true:=by unfold bc DR at*;rw[bY]at*;intro x d;exact b x (by simpa using h x d)
def QG(l:iO C w G σ.tm a){e:Tba}{x:Tbb}{c:dM}{s:SV}(h:BB P σ e x=some (c,s))(n:bc C.ρ c=true):wR C w G s (a.eval x):=by
 cases x with
 |tmp t=>
  obtain⟨v,k,_,_,j⟩:=l t c s h;rw[if_pos n]at j;simpa [Act.eval,k]using j
 |const v=>
  have b:∀(t:Ty),(qF t v).map (fun c=>(([]:dM),SV.one c))=some (c,s)->wR C w G s v:=by intro t h;simp only[dn,ah]at h;obtain⟨o,k,_,rfl⟩:=h;exact(CN k).1
  cases v<;>simp only[BB]at h<;>first
   |exact b _ h
   |(injection h with h;injection h with k j;subst j;exact .inr rfl)
   |(split at h
     .exact b _ h
     cases h)
 |func f=>
  simp only[BB,aa,ah]at h;obtain⟨_,rfl⟩:=h;refine⟨rfl,?_,lz.2 ⟨[],rfl,dy.2 rfl⟩⟩;exact cg.fn f [] [] rfl (by intro i v d m;simp at m)
 |global g=>cases h
def df(e:iO C w G σ.tm a){pc:dM}(d:bc C.ρ pc=true){b:Tba}{x:Tbb}{s:SV}(h:gp P σ pc x b=some s):wR C w G s (a.eval x):=by
 unfold gp at h;split at h
 .rename_i c i f;split at h
  .rename_i g;injection h with h;subst h;exact QG e f (BQ g d)
  cases h
 cases h
def L3{t:Ty}{v:Tan}{c:SC}{n:Nat}(h:qF t v=some c):c.lt n=true:=by
 unfold qF at h;split at h
 .split at h
  .injection h with h;subst h;rfl
  cases h
 all_goals first|(injection h with h;subst h;rfl)|cases h
def Rs(k:iO C w G σ.tm a){pc:dM}{e:Tba}{x:Tbb}{s:SV}(h:gp P σ pc x e=some s):s.lt C.N=true:=by
 unfold gp at h;split at h
 .rename_i c i b;split at h
  .injection h with h;subst h;cases x with
   |tmp t=>exact(k t c i b).choose_spec.2.2.1
   |const v=>
    have d:∀(t:Ty),(qF t v).map (fun c=>(([]:dM),SV.one c))=some (c,i)->i.lt C.N=true:=by intro t h;simp only[dn,ah]at h;obtain⟨m,j,_,rfl⟩:=h;exact L3 j
    cases v<;>simp only[BB]at b<;>first
     |exact d _ b
     |(injection b with b;injection b with j l;subst l;rfl)
     |(split at b
       .exact d _ b
       cases b)
   |func f=>
    simp only[BB,aa,ah]at b;obtain⟨_,rfl⟩:=b;rfl
   |global g=>cases b
  cases h
 cases h
def CR{c:SC}{e:E}{t:Ty}{n:Nat}(h:asData c=some (e,t))(b:c.lt n=true):e.lt n=true:=by
 cases c<;>simp only[asData]at h
 all_goals first|cases h;done|(obtain⟨rfl,rfl⟩:=iP h;first|rfl|exact b)
def Bj{n:Nat}:∀{l:List SC} {es:List E} {ts:Tal},gZ l=some (es,ts)->l.all (SC.lt n)=true->(E.V es).lt n=true
 |[],es,ts,h,_=>by simp only[gZ,aa,ah]at h;obtain⟨rfl,rfl⟩:=h;rfl
 |c::l,es,ts,h,hl=>by
  simp only[gZ]at h;simp only[List.all_cons,aT]at hl;split at h
  .rename_i e t g b f d;obtain⟨rfl,rfl⟩:=iP h;simp[E.V,E.lt,CR f hl.1,Bj d hl.2]
  cases h
def Ki(f:iO C w G σ.tm a){pc:dM}{b:Tba}{x:Tbb}{e:E}{t:Ty}(h:fA P σ pc x b=some (e,t)):e.lt C.N=true:=by
 unfold fA at h;cases hs:gp P σ pc x b with
 |none=>simp[hs]at h
 |some s=>
  simp only[hs,cq]at h;have d:=Rs f hs;cases s with
  |one c=>exact CR h d
  |agg l=>
   simp only[po]at h;split at h
   .rename_i j i g;obtain⟨rfl,rfl⟩:=iP h;exact Bj g d
   cases h
  |ff l=>cases h
def kZ{c:SC}{e:E}{t:Ty}{v:Tan}(h:asData c=some (e,t))(b:ru C w G c v):e.lt C.N=true/\cg w G.S v (den C.ρ e)/\Has t (den C.ρ e):=by
 cases c<;>simp only[asData]at h
 .obtain⟨rfl,rfl⟩:=iP h;exact b
 .obtain⟨rfl,rfl⟩:=iP h;simp only[ru]at b;subst b;exact⟨rfl,.nil none 0,bO.2 ⟨[],rfl,gM _,by simp⟩⟩
 .obtain⟨rfl,rfl⟩:=iP h;exact⟨b.2.1,b.2.2.1,b.2.2.2.1⟩
 .obtain⟨rfl,rfl⟩:=iP h;exact⟨b.1,b.2.1,b.2.2.1⟩
 all_goals cases h
def mj:∀{l:List SC} {es:List E} {ts:Tal} {vs:Tac},gZ l=some (es,ts)->jZ C w G l vs->
  (E.V es).lt C.N=true/\es.length=vs.length/\ts.length=vs.length/\(∀(i:Nat) v e,vs[i]?=some v->es[i]?=some e->cg w G.S v (den C.ρ e))/\dx (.V ts) (es.map (den C.ρ))
 |[],es,ts,vs,h,hr=>by simp only[gZ,aa,ah]at h;obtain⟨rfl,rfl⟩:=h;have d:vs=[]:=au hr.1;subst d;exact⟨rfl,rfl,rfl,by intro i v e b;simp at b,dy.2 rfl⟩
 |c::l,es,ts,vs,h,hr=>by
  simp only[gZ]at h;split at h
  .rename_i e t z j y x;obtain⟨rfl,rfl⟩:=iP h;cases vs with
   |nil=>have:=hr.1;simp at this
   |cons v vs=>
    have f:jZ C w G l vs:=⟨by simpa using hr.1,fun i c v b d=>hr.2 (i+1) c v (by simpa using b) (by simpa using d)⟩;obtain⟨s,r,q,p,o⟩:=mj x f;obtain⟨n,m,k⟩:=kZ y (hr.2 0 c v rfl rfl);refine⟨by simp[E.V,E.lt,n,s],by simp[r],by simp[q],?_,aJ.2 ⟨_,_,rfl,k,o⟩⟩;intro i u A b g;cases i with
    |zero=>simp at b g;subst b;subst g;exact m
    |succ i=>exact p i u A (by simpa using b) (by simpa using g)
  cases h
def Jn{s:SV}{e:E}{t:Ty}{v:Tan}(h:po s=some (e,t))(b:wR C w G s v):e.lt C.N=true/\cg w G.S v (den C.ρ e)/\Has t (den C.ρ e):=by
 cases s with
 |one c=>exact kZ h b
 |agg l=>
  simp only[po]at h;split at h
  .rename_i y u r;obtain⟨rfl,rfl⟩:=iP h;obtain⟨g,rfl,o⟩:=b;obtain⟨n,m,x,k,j⟩:=mj r o;refine⟨by simpa [E.lt]using n,?_,?_⟩
   .simp only[den,gg,U.den,D.A];refine .agg g _ (by simp[m]) fun i v d p f=>?_;simp only[ab,dn]at f;obtain⟨e,q,rfl⟩:=f;exact k i v e p q
   simp only[den,gg,U.den,D.A];exact dU.2 ⟨_,rfl,j⟩
  cases h
 |ff l=>cases h
def dV(d:iO C w G σ.tm a){pc:dM}(c:bc C.ρ pc=true){b:Tba}{x:Tbb}{e:E}{t:Ty}(h:fA P σ pc x b=some (e,t)):
  e.lt C.N=true/\cg w G.S (a.eval x) (den C.ρ e)/\Has t (den C.ρ e):=by
 unfold fA at h;cases hs:gp P σ pc x b with
 |none=>simp[hs]at h
 |some s=>simp only[hs,cq]at h;exact Jn h (df d c hs)
def rh(e:E):∀(ts:Tal) (j i:Nat),(lJ e j ts)[i]?=(ts[i]?).map fun t=>SC.gH (.un (.cell (j+i)) e) t
 |[],j,i=>by simp[lJ]
 |t::ts,j,0=>by simp[lJ]
 |t::ts,j,i+1=>by simp only[lJ,dw,rh e ts (j+1) i];congr 2;funext t;congr 3;omega
def rf(e:E):∀(ts:Tal) (j:Nat),(lJ e j ts).length=ts.length
 |[],_=>rfl
 |_::ts,j=>by simp[lJ,rf e ts]
def gx{l:Taf}{i:Nat}{d:D}(h:l[i]?=some d):l.getD i .top=d:=by simp[List.getD,h]
def qU{s:SV}{l:List SC}{v:Tan}(h:mA s=some l)(g:wR C w G s v)(d:l.all SC.scalar=true):∃vs:Tac,v.cells=vs.toArray/\jZ C w G l vs:=by
 cases s with
 |one c=>
  by_cases j:∃e q,c=.gH e (.agg q)
  .obtain⟨e,q,rfl⟩:=j;simp only[mA,aa]at h;subst h;obtain⟨I,H,F⟩:=g;obtain⟨l,B,o,K,rfl,f,j⟩:=H.NV F;refine⟨K,rfl,by rw[rf,f,fH o],fun i c v b r=>?_⟩;rw[rh]at b;simp only[dn]at b;obtain⟨t,y,rfl⟩:=b;obtain⟨x,m,k⟩:=cJ o i t y;have p:den C.ρ (.un (.cell (0+i)) e)=x:=by simp only[den,U.den,B,D.A,av];exact gx m
   exact⟨by simpa [E.lt]using I,by rw[p];exact j i v x r m,by rw[p];exact k⟩
  have J:l=[c]:=by
   cases c with
   |gH e t=>cases t<;>simp only[mA,aa]at h<;>first|exact h.symm|exact absurd ⟨_,_,rfl⟩ j
   |_=>simp only[mA,aa]at h;exact h.symm
  subst J;simp only[List.all_cons,bX,Bool.and_true]at d;have A:=ru.iE g d;refine⟨[v],by cases v<;>simp[Value.cells,Value.oneCell']at A⊢,rfl,fun i L u b n=>?_⟩;cases i with
  |zero=>simp at b n;subst b;subst n;exact g
  |succ i=>simp at b
 |agg l'=>
  simp only[mA,aa]at h;subst h;obtain⟨vs,rfl,z⟩:=g;exact⟨vs,rfl,z⟩
 |ff l'=>cases h
def I1(ρ:Nat->D)(t:Ty)(c x y:E)(f:(den ρ c).W=true->Has t (den ρ x))(e:(den ρ c).W=false->Has t (den ρ y)):
  den ρ (zQ t c x y)=if(den ρ c).W then den ρ x else den ρ y:=by
 unfold zQ;split
 .simp only[den,B.den];cases hcb:(den ρ c).W with
  |false=>simp
  |true=>obtain⟨b,d⟩:=dg.1 (f hcb);simp[d,D.W]
 .simp only[den,B.den];cases hcb:(den ρ c).W with
  |false=>obtain⟨b,d⟩:=dg.1 (e hcb);simp[d,D.W]
  |true=>simp
 rfl
def Ly{N:Nat}{t:Ty}{c x y:E}(e:c.lt N=true)(d:x.lt N=true)(b:y.lt N=true):(zQ t c x y).lt N=true:=by unfold zQ;split<;>simp_all [E.lt]
end
abbrev Pl:=SV×List Item
def fc(C:Cx)(Φ:Taa)(Pre:eN):Item->Prop
 |.Ju pc b=>bc C.ρ pc=b
 |.kx pc e=>e.lt C.N=true/\(bc C.ρ pc=true->(den C.ρ e).W=true)
 |.call p f args pc=>args.lt C.N=true/\p<C.N/\C.ρ p=Φ f (den C.ρ args).A/\(bc C.ρ pc=true->Pre f (den C.ρ args).A)
 |.room pc e bytes=>e.lt C.N=true/\(bc C.ρ pc=true->(den C.ρ e).A.length<=maxLen/\(den C.ρ e).A.length*bytes<=140737488355328)
def jK(P:Tap)(C:Cx)(w:Tam)(G:Gh)(a:Act)(o:Tbc)(s:SV):Prop:=
 ∃v,(execOp a.eval o).run P w=.ok (.value v) w/\wR C w G s v
def zA(P:Tap)(σ:St)(pc:dM)(o:Tbc):Tao Pl:=
 match o.op with
 |.move x| .assign x=>(gp P σ pc x o.type).map fun s=>(s,[])
 |_=>none
def De(P:Tap)(σ:St)(pc:dM)(o:Tbc):Tao Pl:=
 match o.op with
 |.pick c x y=>
  match fA P σ pc c o.type with
  |some (ec,.bool)=>
   match fA P σ ((ec,true)::pc) x o.type,fA P σ ((ec,false)::pc) y o.type with
   |some (ex,tx),some (ey,ty)=>if tx=ty then some (.one (.gH (zQ tx ec ex ey) tx),[]) else none
   |_,_=>none
  |_=>none
 |_=>none
def Wc:BinOp->IntKind->Tao (B×Bool×Bool)
 |.add,k=>some (.add k,false,false)
 |.sub,k=>some (.sub k,false,false)
 |.mul,k=>some (.mul k,false,false)
 |.rem,k=>some (.rem k,false,true)
 |.quo,k=>some (.quo k,false,true)
 |.xor,k=>some (.xor k,false,false)
 |.lss,_=>some (.lt,true,false)
 |.leq,_=>some (.le,true,false)
 |.gtr,_=>some (.gt,true,false)
 |.geq,_=>some (.ge,true,false)
 |.eql,_=>some (.eq,true,false)
 |.neq,_=>some (.ne,true,false)
 |_,_=>none
def R1(P:Tap):Nat->Tba->List (E×Ty)->List (E×Ty)->Tao E
 |0,_,_,_=>none
 |n+1,t,xs,ys=>
  match P.underlying t with
  |some (.int _)=>match xs,ys with
   | [(x,.int k)],[(y,.int k')]=>if k=k' then some (.bin .eq x y) else none
   |_,_=>none
  |some .bool=>match xs,ys with
   | [(x,.bool)],[(y,.bool)]=>some (.bin .beq x y)
   |_,_=>none
  |some (.struct fs)=>
   if P.stoodInHeld t then none else
   fs.toList.foldr (fun f acc=>match acc,iy P f.type with
    |some r,some sz=>
     if f.name≠ "_" /\f.offset+sz<=xs.length/\f.offset+sz<=ys.length then
      match R1 P n f.type ((xs.drop f.offset).take sz) ((ys.drop f.offset).take sz) with
      |some e=>some (.bin .and e r)
      |none=>none
     else none
    |_,_=>none) (some (.fa true))
  |_=>none
def jx(e:E):Nat->Tal->List (E×Ty)
 |_,[]=>[]
 |j,t::r=>(.un (.cell j) e,t)::jx e (j+1) r
def wm(P:Tap)(σ:St)(pc:dM)(o:Tbc):Tao Pl:=
 match o.op with
 |.binOp op xt x y _=>
  match gp P σ pc x xt,fA P σ pc y xt,P.underlying xt with
  |some (.one (.qo _ _)),some (.gI,.ptr _),some (.pointer _)=>
   match op with
   |.eql=>some (.one (.gH (.fa false) .bool),[])
   |.neq=>some (.one (.gH (.fa true) .bool),[])
   |_=>none
  |_,_,_=>none
 |_=>none
def JJ(P:Tap)(σ:St)(pc:dM)(o:Tbc):Tao Pl:=
 match o.op with
 |.binOp op xt x y _=>
  match fA P σ pc x xt,fA P σ pc y xt with
  |some (ex,.int k),some (ey,.int k')=>
   if k=k' then
    match Wc op k with
    |some (b,isB,nz)=>some (.one (.gH (.bin b ex ey) (if isB then .bool else .int k)),if nz then [.kx pc (.bin .ne ey (.aZ k 0))] else [])
    |none=>none
   else none
  |some (ex,.bool),some (ey,.bool)=>
   match op,P.underlying xt with
   |.eql,some .bool=>some (.one (.gH (.bin .beq ex ey) .bool),[])
   |.neq,some .bool=>some (.one (.gH (.un .not (.bin .beq ex ey)) .bool),[])
   |_,_=>none
  |some (ex,.agg fs),some (ey,.agg gs)=>
   match jd P xt,P.eqGuardType P.depth xt,R1 P Fc xt (jx ex 0 fs.A) (jx ey 0 gs.A),op with
   |true,false,some e,.eql=>some (.one (.gH e .bool),[])
   |true,false,some e,.neq=>some (.one (.gH (.un .not e) .bool),[])
   |_,_,_,_=>none
  |some (ex,.ptr _),some (.gI,.ptr _)=>
   match op,P.underlying xt with
   |.eql,some (.pointer _)=>some (.one (.gH (.un .zr ex) .bool),[])
   |.neq,some (.pointer _)=>some (.one (.gH (.un .not (.un .zr ex)) .bool),[])
   |_,_=>none
  |_,_=>none
 |_=>none
def Dh(P:Tap)(σ:St)(pc:dM)(o:Tbc):Tao Pl:=
 match wm P σ pc o with
 |some r=>some r
 |none=>JJ P σ pc o
def Mw(P:Tap)(σ:St)(pc:dM)(o:Tbc):Tao Pl:=
 match o.op with
 |.unOp .not t x=>match fA P σ pc x t with
  |some (e,.bool)=>some (.one (.gH (.un .not e) .bool),[])
  |_=>none
 |.unOp .neg t x=>match fA P σ pc x t with
  |some (e,.int k)=>some (.one (.gH (.un (.neg k) e) (.int k)),[])
  |_=>none
 |.convert s d x=>match fA P σ pc x s,P.underlying s,P.underlying d with
  |some (e,.int _),some (.int _),some (.int k)=>some (.one (.gH (.un (.R8 k) e) (.int k)),[])
  |_,_,_=>none
 |_=>none
def tK(P:Tap)(σ:St)(pc:dM)(o:Tbc):Tao Pl:=
 match o.op with
 |.extract x j=>match gp P σ pc x o.type with
  |some (.ff l)=>match l[j]? with
   |some (true,cs)=>some (.agg cs,[])
   |some (false,[c])=>some (.one c,[])
   |_=>none
  |_=>none
 |_=>none
def lF(P:Tap)(t:Tba)(f:Nat):Tao (Field×Nat):=
 match P.underlying t with
 |some (.struct fs)=>match fs[f]? with
  |some fl=>(iy P fl.type).map fun n=>(fl,n)
  |none=>none
 |_=>none
def py(P:Tap)(σ:St)(pc:dM)(o:Tbc):Tao Pl:=
 match o.op with
 |.fieldAddr t x f=>
  match lF P t f,gp P σ pc x t with
  |some (fl,_+1),some (.one (.qo id off))=>some (.one (.qo id (off+fl.offset)),[])
  |some (fl,_+1),some (.one (.zn l i u off))=>some (.one (.zn l i u (off+fl.offset)),[])
  |some (fl,_+1),some (.one (.zi e fs off))=>some (.one (.zi e fs (off+fl.offset)),[])
  |some (fl,_+1),some (.one (.gH e (.box fs)))=>some (.one (.zi e fs fl.offset),[])
  |some (fl,_+1),some (.one (.wS g i u off))=>some (.one (.wS g i u (off+fl.offset)),[])
  |_,_=>none
 |_=>none
def AO:SV->Tao (List SC)
 |.agg l=>some l
 |.one (.gH e (.agg fs))=>some (lJ e 0 fs.A)
 |_=>none
def zb(P:Tap)(σ:St)(pc:dM)(o:Tbc):Tao Pl:=
 match o.op with
 |.field t x f=>
  match lF P t f,(gp P σ pc x t).bind AO with
  |some (fl,n),some cs=>
   if(P.underlying fl.type).isSome=true/\fl.offset+n<=cs.length then
    if jd P fl.type then some (.agg ((cs.drop fl.offset).take n),[])
    else if 0<n then match cs[fl.offset]? with
     |some c=>some (.one c,[])
     |none=>none
    else none
   else none
  |_,_=>none
 |_=>none
def mg(P:Tap)(σ:St)(pc:dM)(o:Tbc):Tao Pl:=
 match o.op with
 |.indexAddr t x (.const (.int _ n))=>
  match P.underlying t,gp P σ pc x t with
  |some (.array len el),some (.one (.qo id off))=>
   match iy P el with
   |some sz=>if 0<=n/\n<len then some (.one (.qo id (off+n.toNat*sz)),[]) else none
   |none=>none
  |_,_=>none
 |_=>none
def nH(P:Tap)(σ:St)(pc:dM)(o:Tbc):Tao Pl:=
 match o.op with
 |.indexAddr t x i=>
  match P.underlying t,fA P σ pc x t,fA P σ pc i t with
  |some (.slice el),some (e,.list u),some (ie,.int k)=>
   if iy P el=some u.cells.length/\0<u.cells.length then
    some (.one (.zn e ie u 0),[.kx pc (.bin .and (.bin .le (.aZ k 0) ie) (.bin .lt ie (.un .len e)))])
   else none
  |_,_,_=>none
 |_=>none
def Is(e:E):Tao Int:=if e.lt 0 then(match den (fun _=>.top) e with
 |.int _ n=>some n
 |_=>none) else none
def lh(P:Tap)(σ:St)(pc:dM)(o:Tbc):Tao Pl:=
 match o.op with
 |.indexAddr t x i=>
  match P.underlying t,gp P σ pc x t,fA P σ pc i t with
  |some (.array len el),some (.one (.qo id off)),some (ie,.int _)=>
   match iy P el,Is ie with
   |some sz,some n=>if 0<=n/\n<len then some (.one (.qo id (off+n.toNat*sz)),[]) else none
   |_,_=>none
  |_,_,_=>none
 |_=>none
def px(P:Tap)(σ:St)(pc:dM)(o:Tbc):Tao Pl:=
 match mg P σ pc o with
 |some x=>some x
 |none=>match lh P σ pc o with
  |some x=>some x
  |none=>nH P σ pc o
def JI(P:Tap)(σ:St)(pc:dM)(o:Tbc):Tao Pl:=
 match o.op with
 |.nilCheck x=>
  match gp P σ pc x o.type with
  |some (.one (.qo id off))=>some (.one (.qo id off),[])
  |some (.one (.zi e fs off))=>some (.one (.zi e fs off),[])
  |some (.one (.zn l i u off))=>some (.one (.zn l i u off),[])
  |some (.one (.wS g i u off))=>some (.one (.wS g i u off),[])
  |some (.one (.gH e (.box fs)))=>some (.one (.gH e (.box fs)),[])
  |some (.one (.gH e (.ptr fs)))=>some (.one (.gH e (.box fs)),[.kx pc (.un .not (.un .zr e))])
  |_=>none
 |_=>none
def su(P:Tap)(T:Tba)(e:E)(u:Ty)(off:Nat):Tao Pl:=
 match u,iy P T with
 |.agg fs,some n=>
  if jd P T then
   if off=0/\n=fs.A.length then some (.one (.gH e (.agg fs)),[])
   else if off+n<=fs.A.length then some (.one (.gH (.un (.part off n) e) (.agg (.V ((fs.A.drop off).take n)))),[]) else none
  else match fs.A[off]? with
   |some t=>if t.scalar then some (.one (.gH (.un (.cell off) e) t),[]) else none
   |none=>none
 |u,_=>if jd P T=false/\off=0/\u.scalar=true then some (.one (.gH e u),[]) else none
def Dg(P:Tap)(σ:St)(pc:dM)(o:Tbc):Tao (Pl×Tah):=
 match o.op with
 |.load t x=>
  if(P.underlying t).isNone then none else
  match gp P σ pc x t with
  |some (.one (.qo id off))=>
   match σ.hp id with
   |some (_,cs)=>
    if(mapOf cs).isSome then none else
    if jd P t then
     match iy P t with
     |some n=>if off+n<=cs.length then some ((.agg ((cs.drop off).take n),[]),[id]) else none
     |none=>none
    else match cs[off]? with
     |some c=>some ((.one c,[]),[id])
     |none=>none
   |none=>none
  |some (.one (.zn l i u off))=>(su P t (.bin .idx l i) u off).map fun s=>(s,[])
  |some (.one (.zi e fs off))=>(su P t (.un .agg e) (.agg fs) off).map fun s=>(s,[])
  |some (.one (.gH e (.box fs)))=>(su P t (.un .agg e) (.agg fs) 0).map fun s=>(s,[])
  |_=>none
 |_=>none
def B0(P:Tap)(σ:St)(pc:dM)(o:Tbc):Tao Pl:=
 match o.op with
 |.call {callee:=.builtin .len,args,argTypes}=>
  match args.toList,argTypes[0]? with
  | [x],some t=>match P.underlying t,fA P σ pc x t with
   |some (.slice _),some (e,.list _)=>some (.one (.gH (.un .len e) (.int i64)),[])
   |_,_=>none
  |_,_=>none
 |.call {callee:=.builtin .min,args,.. }=>
  match args.toList with
  | [x,y]=>match fA P σ pc x o.type,fA P σ pc y o.type with
   |some (ex,.int k),some (ey,.int k')=>if k=k' then some (.one (.gH (.bin (.min k) ex ey) (.int k)),[]) else none
   |_,_=>none
  |_=>none
 |.call {callee:=.builtin .max,args,.. }=>
  match args.toList with
  | [x,y]=>match fA P σ pc x o.type,fA P σ pc y o.type with
   |some (ex,.int k),some (ey,.int k')=>if k=k' then some (.one (.gH (.bin (.max k) ex ey) (.int k)),[]) else none
   |_,_=>none
  |_=>none
 |_=>none
def y9(P:Tap)(σ:St)(pc:dM)(o:Tbc):Tao Pl:=
 match o.op with
 |.slice t x lo hi none=>
  match P.underlying t,fA P σ pc x t with
  |some (.slice el),some (e,.list u)=>
   let b:=match lo with
    |some i=>match fA P σ pc i t with|some (ie,.int k)=>some (ie,k)|_=>none
    |none=>some (.aZ i64 0,i64)
   let c:=match hi with
    |some i=>match fA P σ pc i t with|some (ie,.int k)=>some (ie,k)|_=>none
    |none=>some (.un .len e,i64)
   match b,c with
   |some (l,k),some (h,_)=>
    if iy P el=some u.cells.length/\0<u.cells.length then
     some (.one (.gH (.bin .drop (.bin .take e h) l) (.list u)),[.kx pc (.bin .and (.bin .le (.aZ k 0) l) (.bin .and (.bin .le l h) (.bin .le h (.un .len e))))])
    else none
   |_,_=>none
  |_,_=>none
 |_=>none
def v8(P:Tap)(σ:St)(pc:dM)(o:Tbc):Tao Pl:=
 match o.op with
 |.slice t x none (some hi) (some mx)=>
  match P.underlying t,fA P σ pc x t,fA P σ pc hi t,fA P σ pc mx t with
  |some (.slice el),some (e,.list u),some (h,.int k),some (m,.int _)=>
   if iy P el=some u.cells.length/\0<u.cells.length/\h=m then
    some (.one (.clip (.bin .take e h) u),[.kx pc (.bin .and (.bin .le (.aZ k 0) h) (.bin .le h (.un .len e)))])
   else none
  |_,_,_,_=>none
 |_=>none
section
variable{P:Tap}{C:Cx}{w:Tam}{G:Gh}{σ:St}{a:Act}{o:Tbc}{pc:dM}{s:SV}{is:List Item}{Φ:Taa}{Pre:eN}
def Cw(c:iO C w G σ.tm a)(b:bc C.ρ pc=true)(h:zA P σ pc o=some (s,is)):jK P C w G a o s:=by
 unfold zA at h;split at h
 all_goals first
  |cases h;done
  |(rename_i x d
    simp only[dn,ah]at h;obtain⟨f,e,rfl,_⟩:=h;exact⟨a.eval x,by unfold execOp;simp only[d];rfl,df c b e⟩)
def Bf{ρ:Nat->D}{e:E}{b:Bool}{pc:dM}:bc ρ ((e,b)::pc)=true↔(den ρ e).W=b/\bc ρ pc=true:=by simp[bc]
def Lp(f:iO C w G σ.tm a)(e:bc C.ρ pc=true)(h:De P σ pc o=some (s,is)):jK P C w G a o s:=by
 unfold De at h;split at h
 .rename_i c x y z;split at h
  .rename_i t A;split at h
   .rename_i ex u B H q p;split at h
    .rename_i i;subst i;obtain⟨rfl,_⟩:=iP h;obtain⟨F,E,D⟩:=dV f e A;obtain⟨b,r⟩:=dg.1 D;have v:a.eval c=.bool b:=(r▸E).gU;have d:(den C.ρ t).W=b:=by rw[r];rfl
     have n:b=true->_:=fun j=>dV f (Bf.2 ⟨d.trans j,e⟩) q;have m:b=false->_:=fun k=>dV f (Bf.2 ⟨d.trans k,e⟩) p;refine⟨if b then a.eval x else a.eval y,?_,?_⟩
     .unfold execOp;simp only[z,v,asBool];rfl
     have g:=I1 C.ρ u t ex B (fun l=>(n (d▸l)).2.2) (fun l=>(m (d▸l)).2.2);refine⟨Ly F (Ki f q) (Ki f p),?_⟩;rw[g,d];cases b with
     |true=>exact(n rfl).2
     |false=>exact(m rfl).2
    cases h
   cases h
  cases h
 cases h
def lI(k:IntKind)(n:Int):jX k (k.wrap n):=wrap_within k n
def Pr{k:IntKind}{x y:Int}(b:jX k x):jX k (x.tmod y):=by
 obtain⟨j,i⟩:=b;have c:k.min<=0:=by cases k<;>decide
 have d:0<=k.max:=by cases k<;>decide
 have g:(x.tmod y).natAbs<=x.natAbs:=by rw[Int.natAbs_tmod];exact Nat.mod_le _ _
 rcases Int.le_total 0 x with h|h
 .have f:=Int.tmod_nonneg y h;exact⟨by omega,by omega⟩
 have e:x.tmod y=-((-x).tmod y):=by rw[Int.neg_tmod];omega
 have f:=Int.tmod_nonneg y (show 0<=-x by omega);exact⟨by omega,by omega⟩
end
section
variable{P:Tap}{C:Cx}{w:Tam}{G:Gh}{σ:St}{a:Act}{o:Tbc}{pc:dM}{s:SV}{is:List Item}{Φ:Taa}{Pre:eN}
def Gi{op:BinOp}{k:IntKind}{b:B}{f i:Bool}(h:Wc op k=some (b,f,i)){x y:Int}(j:jX k x)(g:i=true->y≠0)(t:Tba)(p q:Tbb):
  ∃v,(do eqGuard op t p q (.int k x) (.int k y);binOp op t (.int k x) (.int k y):Sem Tan).run P w=.ok v w/\∀S,cg w S v (b.den (.int k x) (.int k y))/\Has (if f then .bool else .int k) (b.den (.int k x) (.int k y)):=by
 have d:∀n:Int,jX k n->Has (.int k) (.int k n):=fun n l=>dt.2 ⟨n,rfl,l⟩;have e:∀n:Bool,Has .bool (.bool n):=fun n=>dg.2 ⟨n,rfl⟩;cases op<;>simp only[Wc,aa,ah]at h<;>(try (cases h;done))<;>obtain⟨rfl,rfl,rfl⟩:=h
 case rem=>
  have c:=g rfl;refine⟨.int k (x.tmod y),by simp[eqGuard,binOp,Op.intDiv,c],fun S=>⟨.int _ _,d _ (Pr j)⟩⟩
 case quo=>
  have c:=g rfl;refine⟨.int k (k.wrap (x.tdiv y)),by simp[eqGuard,binOp,Op.intDiv,c],fun S=>⟨.int _ _,d _ (lI _ _)⟩⟩
 all_goals first
  |exact⟨.int k (k.wrap (x+y)),by simp[eqGuard,binOp,Op.intArith],fun S=>⟨.int _ _,d _ (lI _ _)⟩⟩
  |exact⟨.int k (k.wrap (x-y)),by simp[eqGuard,binOp,Op.intArith],fun S=>⟨.int _ _,d _ (lI _ _)⟩⟩
  |exact⟨.int k (k.wrap (x*y)),by simp[eqGuard,binOp,Op.intArith],fun S=>⟨.int _ _,d _ (lI _ _)⟩⟩
  |exact⟨.int k (Iu k x y),by simp[eqGuard,binOp,Op.intBits,Iu],fun S=>⟨.int _ _,d _ (lI _ _)⟩⟩
  |exact⟨.bool (decide (x<y)),by simp[eqGuard,binOp,Op.intCmp],fun S=>⟨.bool _,e _⟩⟩
  |exact⟨.bool (decide (x<=y)),by simp[eqGuard,binOp,Op.intCmp],fun S=>⟨.bool _,e _⟩⟩
  |exact⟨.bool (decide (x>y)),by simp[eqGuard,binOp,Op.intCmp],fun S=>⟨.bool _,e _⟩⟩
  |exact⟨.bool (decide (x≥y)),by simp[eqGuard,binOp,Op.intCmp],fun S=>⟨.bool _,e _⟩⟩
  |exact⟨.bool (x==y),by simp[eqGuard,binOp,Op.intCmp],fun S=>⟨.bool _,e _⟩⟩
  |exact⟨.bool (x !=y),by simp[eqGuard,binOp,Op.intCmp],fun S=>⟨.bool _,e _⟩⟩
def oG{t el:Tba}(b:P.underlying t=some (.pointer el))(p:Tao Addr)(d:Nat):(Op.equalIn (d+1) t (.pointer p) (.pointer none)).run P w=.ok p.isNone w:=by cases p<;>simp[Op.equalIn,run_underlying b]
def pR{t el:Tba}(b:P.underlying t=some (.pointer el))(p:Tao Addr)(x y:Tbb):
  (do eqGuard .eql t x y (.pointer p) (.pointer none);binOp .eql t (.pointer p) (.pointer none):Sem Tan).run P w=.ok (.bool p.isNone) w:=by have d:binOp .eql t (.pointer p) (.pointer none)=(do pure (.bool (<-Op.equalIn (9999+1) t (.pointer p) (.pointer none)))):=rfl;have c:eqGuard .eql t x y (.pointer p) (.pointer none)=pure ():=rfl;rw[d,c,bw,Sem.run_pure,bZ,bw,oG b];rfl
def pQ{t el:Tba}(b:P.underlying t=some (.pointer el))(p:Tao Addr)(x y:Tbb):
  (do eqGuard .neq t x y (.pointer p) (.pointer none);binOp .neq t (.pointer p) (.pointer none):Sem Tan).run P w=.ok (.bool (!p.isNone)) w:=by have d:binOp .neq t (.pointer p) (.pointer none)=(do pure (.bool (!(<-Op.equalIn (9999+1) t (.pointer p) (.pointer none))))):=rfl;have c:eqGuard .neq t x y (.pointer p) (.pointer none)=pure ():=rfl;rw[d,c,bw,Sem.run_pure,bZ,bw,oG b];rfl
def valOf(P:Tap)(t:Tba)(vs:Tac):Tan:=if jd P t then .agg vs.toArray else vs.getD 0 undef
def xp{t:Tba}{d:TypeDesc}(b:P.underlying t=some d):(isAgg t).run P w=.ok (jd P t) w:=by unfold isAgg jd;rw[bw,run_underlying b w];simp only[bZ,b];cases d<;>rfl
def hC{t:Tba}{n:Nat}(h:iy P t=some n):(sizeOf t).run P w=.ok n w:=by
 unfold iy at h;cases hi:P.info? t with
 |none=>simp[hi]at h
 |some i=>simp[hi]at h;simp[sizeOf,typeInfo,hi,h]
def r7{t:Tba}{d:TypeDesc}(c:P.underlying t=some d){n off:Nat}(e:iy P t=some n)(vs:Tac)(j:off+n<=vs.length)(g:jd P t=false->0<n):
  (part t vs.toArray off).run P w=.ok (valOf P t ((vs.drop off).take n)) w:=by
 unfold part valOf;rw[bw,xp c];simp only[bZ];cases ha:jd P t with
 |true=>
  simp only[if_true,bw,hC e,bZ,Sem.run_pure];congr 2;apply dI;simp[List.extract_eq_take_drop]
 |false=>
  have f:=g ha;have b:off<vs.length:=by omega
  simp only[aj,if_false];have i:(vs.toArray)[off]?=some vs[off]:=by simp[b]
  have h:((vs.drop off).take n).getD 0 undef=vs[off]:=by simp[List.getD,aD,show 0<n from f,b]
  rw[i,h];rfl
def KZ(ρ:Nat->D)(w:Tam)(S:bE)(vs:Tac)(xs:List (E×Ty)):Prop:=
 vs.length=xs.length/\∀(i:Nat) v x,vs[i]?=some v->xs[i]?=some x->cg w S v (den ρ x.1)/\Has x.2 (den ρ x.1)
def KZ.cut{ρ:Nat->D}{S:bE}{vs:Tac}{xs:List (E×Ty)}(h:KZ ρ w S vs xs)(off n:Nat):KZ ρ w S ((vs.drop off).take n) ((xs.drop off).take n):=by
 refine⟨by simp[h.1],fun i v x b c=>?_⟩;simp only[aq,aD]at b c;split at b
 .rename_i d;rw[if_pos d]at c;exact h.2 _ v x b c
 cases b
def Ir(ρ:Nat->D)(S:bE):∀(n:Nat) (t:Tba) (xs ys:List (E×Ty)) (e:E),R1 P n t xs ys=some e->∀(m z:Tac) (d:Nat),KZ ρ w S m xs->KZ ρ w S z ys->
  (Op.equalIn (d+n) t (valOf P t m) (valOf P t z)).run P w=.ok (den ρ e).W w/\(∃b,den ρ e=.bool b)/\(jd P t=false->0<m.length)
 |0,_,_,_,_,h=>by cases h
 |n+1,t,xs,ys,e,h=>by
  intro m z d J I;unfold R1 at h;split at h
  .rename_i k0 p;have K:jd P t=false:=by unfold jd;rw[p]
   split at h
   .rename_i x k y k';split at h
    .rename_i hk;subst hk;injection h with h;subst h;obtain⟨v,rfl⟩:∃v,m=[v]:=bI.1 J.1;obtain⟨u,rfl⟩:∃v,z=[v]:=bI.1 I.1;obtain⟨T,h2⟩:=J.2 0 v _ rfl rfl;obtain⟨R,Z⟩:=I.2 0 u _ rfl rfl;obtain⟨i,F,_⟩:=dt.1 h2;obtain⟨j,A,_⟩:=dt.1 Z;simp only at T R F A;have e1:=(F▸T).cQ;have e2:=(A▸R).cQ;refine⟨?_,⟨_,rfl⟩,fun _=>by simp⟩;simp only[valOf,K,aj,if_false,List.getD_cons_zero,e1,e2,den,B.den,F,A,D.q,D.W];exact run_equalIn_int w (d+n) t k k0 i j p
    cases h
   cases h
  .rename_i p;have K:jd P t=false:=by unfold jd;rw[p]
   split at h
   .rename_i x y;injection h with h;subst h;obtain⟨v,rfl⟩:∃v,m=[v]:=bI.1 J.1;obtain⟨u,rfl⟩:∃v,z=[v]:=bI.1 I.1;obtain⟨T,h2⟩:=J.2 0 v _ rfl rfl;obtain⟨R,Z⟩:=I.2 0 u _ rfl rfl;obtain⟨i,F⟩:=dg.1 h2;obtain⟨j,A⟩:=dg.1 Z;simp only at T R F A;have e1:=(F▸T).gU;have e2:=(A▸R).gU;refine⟨?_,⟨_,rfl⟩,fun _=>by simp⟩;simp only[valOf,K,aj,if_false,List.getD_cons_zero,e1,e2,den,B.den,F,A,D.W];exact run_equalIn_bool' w (d+n) t i j p
   cases h
  .rename_i fs p;have K:jd P t=true:=by unfold jd;rw[p]
   split at h
   .cases h
   rename_i W;have Q:P.fieldsOf t=fs:=by unfold Program.fieldsOf;rw[p]
   have O:P.stoodInHeld t=false:=by simpa using W
   have U:∀(l:List Field) (e:E),l.foldr (fun f acc=>match acc,iy P f.type with
     |some r,some sz=>
      if f.name≠ "_" /\f.offset+sz<=xs.length/\f.offset+sz<=ys.length then
       match R1 P n f.type ((xs.drop f.offset).take sz) ((ys.drop f.offset).take sz) with
       |some e=>some (.bin .and e r)
       |none=>none
      else none
     |_,_=>none) (some (.fa true))=some e->
     (Op.eqFields (d+n) m.toArray z.toArray l).run P w=.ok (den ρ e).W w/\∃b,den ρ e=.bool b:=by
    intro l
    induction l with
    |nil=>
     intro e c;simp only[List.foldr_nil,aa]at c;subst c;exact⟨rfl,_,rfl⟩
    |cons f l ih=>
     intro e c;simp only[List.foldr_cons]at c;split at c
     .rename_i r sz hr N;split at c
      .rename_i Y;split at c
       .rename_i e0 g;injection c with c;subst c;obtain⟨X,b,hb⟩:=ih r hr;have cx:=J.cut f.offset sz;have cy:=I.cut f.offset sz;obtain⟨V,⟨b0,H⟩,k3⟩:=Ir ρ S n f.type _ _ e0 g _ _ d cx cy
        obtain⟨dsc,M⟩:∃dsc,P.underlying f.type=some dsc:=by
         cases n with
         |zero=>cases g
         |succ n=>
          unfold R1 at g;cases hq:P.underlying f.type with
          |none=>rw[hq]at g;cases g
          |some q=>exact⟨q,rfl⟩
        have L:jd P f.type=false->0<sz:=by intro h;have:=k3 h;simp only[aA,ba]at this;omega
        have p1:=r7 (w:=w) M N m (by rw[J.1];exact Y.2.1) L;have p2:=r7 (w:=w) M N z (by rw[I.1];exact Y.2.2) L;refine⟨?_,_,rfl⟩;simp only[Op.eqFields,if_pos Y.1,bw,p1,p2,bZ,V];rw[H];cases b0 with
        |false=>simp[D.W,den,B.den,H]
        |true=>simpa [D.W,den,B.den,H]using X
       cases c
      cases c
     cases c
   obtain⟨V,k2⟩:=U fs.toList e h;refine⟨?_,k2,fun hf=>by rw[K]at hf;cases hf⟩;simp only[valOf,K,if_true];have:=run_equalIn_struct (P:=P) w (d+n) t m.toArray z.toArray (by rw[Q];exact p) O;rw[Q]at this;rw[show d+(n+1)=d+n+1 from rfl,this];exact V
  cases h
def mi(e:E):∀(ts:Tal) (j i:Nat),(jx e j ts)[i]?=(ts[i]?).map fun t=>(E.un (.cell (j+i)) e,t)
 |[],j,i=>by simp[jx]
 |t::ts,j,0=>by simp[jx]
 |t::ts,j,i+1=>by simp only[jx,dw,mi e ts (j+1) i];congr 2;funext t;congr 3;omega
def Bg(e:E):∀(ts:Tal) (j:Nat),(jx e j ts).length=ts.length
 |[],_=>rfl
 |_::ts,j=>by simp[jx,Bg e ts]
def A0{ρ:Nat->D}{S:bE}{v:Tan}{e:E}{h:Ty}(m:cg w S v (den ρ e))(p:Has (.agg h) (den ρ e)):∃g:Tac,v=.agg g.toArray/\KZ ρ w S g (jx e 0 h.A):=by
 obtain⟨l,n,d,u,rfl,c,r⟩:=m.NV p;refine⟨u,rfl,by rw[Bg,c,fH d],fun i v x j b=>?_⟩;rw[mi]at b;simp only[dn]at b;obtain⟨t,k,rfl⟩:=b;obtain⟨x,b,f⟩:=cJ d i t k;have q:den ρ (.un (.cell (0+i)) e)=x:=by simp only[den,U.den,n,D.A,av];exact gx b
 rw[q];exact⟨r i v x j b,f⟩
def Pa(J:iO C w G σ.tm a)(c:bc C.ρ pc=true)(h:JJ P σ pc o=some (s,is))(a5:∀it∈is,fc C Φ Pre it):jK P C w G a o s:=by
 unfold JJ at h;split at h
 .rename_i op g x y yt ho;have W:(execOp a.eval o)=(do let v<-(do eqGuard op g x y (a.eval x) (a.eval y);binOp op g (a.eval x) (a.eval y):Sem Tan);pure (.value v)):=by unfold execOp;simp only[ho]
  have d:∀{v:Tan},(do eqGuard op g x y (a.eval x) (a.eval y);binOp op g (a.eval x) (a.eval y):Sem Tan).run P w=.ok v w->(execOp a.eval o).run P w=.ok (.value v) w:=by intro v Z;rw[W,bw,Z];rfl
  split at h
  .rename_i ex k ey k' R O;obtain⟨m,I,L⟩:=dV J c R;obtain⟨H,F,Y⟩:=dV J c O;split at h
   .rename_i hk;subst hk;split at h
    .rename_i b a8 nz A;obtain⟨rfl,rfl⟩:=iP h;obtain⟨i,q,a6⟩:=dt.1 L;obtain⟨j,V,_⟩:=dt.1 Y;have e1:=(q▸I).cQ;have X:=(V▸F).cQ
     have a4:nz=true->j≠0:=by rintro rfl;have h7:fc C Φ Pre (.kx pc (.bin .ne ey (.aZ k 0))):=a5 _ (by simp);have:=h7.2 c;simpa [den,B.den,V,D.q,D.W]using this
     obtain⟨v,Z,hr⟩:=Gi (P:=P) (w:=w) A a6 a4 g x y;rw[<-e1,<-X]at Z;refine⟨v,d Z,by simp[E.lt,m,H],?_⟩;simp only[den,q,V];exact hr G.S
    cases h
   cases h
  .rename_i ex ey R O;obtain⟨m,I,L⟩:=dV J c R;obtain⟨H,F,Y⟩:=dV J c O;obtain⟨i,q⟩:=dg.1 L;obtain⟨j,V⟩:=dg.1 Y;have e1:=(q▸I).gU;have X:=(V▸F).gU;split at h
   .rename_i T;obtain⟨rfl,rfl⟩:=iP h;refine⟨.bool (i==j),d ?_,by simp[E.lt,m,H],?_,dg.2 ⟨_,rfl⟩⟩
    .rw[e1,X];have:=run_equalIn_bool' (P:=P) w 9999 g i j T;simp[eqGuard,binOp,Op.equal,Op.maxDepth,this]
    simp only[den,B.den,q,V,D.W];exact .bool _
   .rename_i T;obtain⟨rfl,rfl⟩:=iP h;refine⟨.bool (!(i==j)),d ?_,by simp[E.lt,m,H],?_,dg.2 ⟨_,rfl⟩⟩
    .rw[e1,X];have:=run_equalIn_bool' (P:=P) w 9999 g i j T;simp[eqGuard,binOp,Op.equal,Op.maxDepth,this]
    simp only[den,B.den,U.den,q,V,D.W];exact .bool _
   cases h
  .rename_i ex fs ey gs R O;obtain⟨m,I,L⟩:=dV J c R;obtain⟨H,F,Y⟩:=dV J c O;obtain⟨vx,a3,rx⟩:=A0 I L;obtain⟨vy,a2,ry⟩:=A0 F Y
   have u:∀{N:Nat} {e:E} (K:e.lt N=true) (j:Nat) (ts:Tal),∀z∈jx e j ts,z.1.lt N=true:=by intro N e K j ts z hz;obtain⟨i,q⟩:=aE hz;rw[mi]at q;simp only[dn]at q;obtain⟨t,_,rfl⟩:=q;simpa [E.lt]using K
   have a0:∀(N n:Nat) (t:Tba) (xs ys:List (E×Ty)) (e:E),R1 P n t xs ys=some e->(∀z∈xs,z.1.lt N=true)->(∀z∈ys,z.1.lt N=true)->e.lt N=true:=by
    intro N n
    induction n with
    |zero=>intro t xs ys e h;cases h
    |succ n ih=>
     intro t xs ys e h Q M;unfold R1 at h;split at h
     .split at h
      .split at h
       .injection h with h;subst h;have:=Q _ (ax.2 rfl);have:=M _ (ax.2 rfl);simp_all [E.lt]
       cases h
      cases h
     .split at h
      .injection h with h;subst h;have:=Q _ (ax.2 rfl);have:=M _ (ax.2 rfl);simp_all [E.lt]
      cases h
     .split at h
      .cases h
      rename_i fs _ _;revert h;generalize fs.toList=l;intro h
      induction l generalizing e with
      |nil=>simp only[List.foldr_nil,aa]at h;subst h;rfl
      |cons f l ihl=>
       simp only[List.foldr_cons]at h;split at h
       .rename_i r sz hr a9;split at h
        .split at h
         .rename_i e0 a7;injection h with h;subst h;have h1:=ih f.type _ _ e0 a7 (fun z hz=>Q z (cz (cw hz))) (fun z hz=>M z (cz (cw hz)));simp[E.lt,h1,ihl r hr]
         cases h
        cases h
       cases h
     cases h
   split at h
   .rename_i e ha hg K;obtain⟨rfl,rfl⟩:=iP h;obtain⟨k1,⟨b,A⟩,_⟩:=Ir (P:=P) (w:=w) C.ρ G.S Fc g _ _ e K vx vy 9992 rx ry;simp only[valOf,ha,if_true,Fc]at k1;refine⟨.bool b,d ?_,a0 _ _ _ _ _ _ K (u m 0 _) (u H 0 _),by rw[A];exact .bool b,dg.2 ⟨b,A⟩⟩;rw[a3,a2];rw[bw,run_eqGuard_agg w .eql g x y _ _ hg];simp only[bZ];rw[run_eql_struct,k1,A];rfl
   .rename_i e ha hg K;obtain⟨rfl,rfl⟩:=iP h;obtain⟨k1,⟨b,A⟩,_⟩:=Ir (P:=P) (w:=w) C.ρ G.S Fc g _ _ e K vx vy 9992 rx ry;simp only[valOf,ha,if_true,Fc]at k1;refine⟨.bool (!b),d ?_,by simpa [E.lt]using a0 _ _ _ _ _ _ K (u m 0 _) (u H 0 _),by simp only[den,U.den,A,D.W];exact .bool _,dg.2 ⟨!b,by simp only[den,U.den,A,D.W]⟩⟩;rw[a3,a2];rw[bw,run_eqGuard_agg w .neq g x y _ _ hg];simp only[bZ];rw[run_neq_struct,k1,A];rfl
   cases h
  .rename_i ex fs gs R O;obtain⟨m,I,L⟩:=dV J c R;obtain⟨H,F,Y⟩:=dV J c O;have X:a.eval y=.pointer none:=by simp only[den]at F;exact F.sq
   have e1:∃p,a.eval x=.pointer p/\p.isNone=(den C.ρ ex).iV:=by
    rcases kJ.1 L with hn|⟨l,hl,_⟩
    .exact⟨none,(hn▸I).sq,by rw[hn];rfl⟩
    obtain⟨b,cs,Z,_⟩:=(hl▸I).qJ;exact⟨_,Z,by rw[hl];rfl⟩
   obtain⟨p,hp,a1⟩:=e1;split at h
   .rename_i el T;obtain⟨rfl,rfl⟩:=iP h;refine⟨.bool p.isNone,d ?_,by simpa [E.lt]using m,by simp only[den,U.den,<-a1];exact .bool _,dg.2 ⟨_,rfl⟩⟩;rw[hp,X];exact pR T p x y
   .rename_i el T;obtain⟨rfl,rfl⟩:=iP h;refine⟨.bool (!p.isNone),d ?_,by simpa [E.lt]using m,by simp only[den,U.den,D.W,<-a1];exact .bool _,dg.2 ⟨_,rfl⟩⟩;rw[hp,X];exact pQ T p x y
   cases h
  cases h
 cases h
def Gq(i:iO C w G σ.tm a)(c:bc C.ρ pc=true)(h:wm P σ pc o=some (s,is)):jK P C w G a o s:=by
 unfold wm at h;split at h
 .rename_i op e x y r q
  have d:∀{v:Tan},(do eqGuard op e x y (a.eval x) (a.eval y);binOp op e (a.eval x) (a.eval y):Sem Tan).run P w=.ok v w->(execOp a.eval o).run P w=.ok (.value v) w:=by
   intro v p;have b:(execOp a.eval o)=(do let v<-(do eqGuard op e x y (a.eval x) (a.eval y);binOp op e (a.eval x) (a.eval y):Sem Tan);pure (.value v)):=by unfold execOp;simp only[q]
   rw[b,bw,p];rfl
  split at h
  .rename_i id l t u n m g;have k:=(df i c n).2;obtain⟨_,f,_⟩:=dV i c m;have j:a.eval y=.pointer none:=by simp only[den]at f;exact f.sq
   split at h
   .obtain⟨rfl,rfl⟩:=iP h;refine⟨.bool false,d ?_,rfl,.bool _,dg.2 ⟨_,rfl⟩⟩;rw[k,j];exact pR g _ x y
   .obtain⟨rfl,rfl⟩:=iP h;refine⟨.bool true,d ?_,rfl,.bool _,dg.2 ⟨_,rfl⟩⟩;rw[k,j];exact pQ g _ x y
   cases h
  cases h
 cases h
def Ls(d:iO C w G σ.tm a)(b:bc C.ρ pc=true)(h:Dh P σ pc o=some (s,is))(c:∀e∈is,fc C Φ Pre e):jK P C w G a o s:=by
 unfold Dh at h;split at h
 .rename_i r f;injection h with h;subst h;exact Gq d b f
 exact Pa d b h c
end
section
variable{P:Tap}{C:Cx}{w w0:Tam}{S0:gK}{G:Gh}{σ:St}{a:Act}{o:Tbc}{pc:dM}{s:SV}{is:List Item}{Φ:Taa}{Pre:eN}
def Kb(p:iO C w G σ.tm a)(f:bc C.ρ pc=true)(h:Mw P σ pc o=some (s,is)):jK P C w G a o s:=by
 unfold Mw at h;split at h
 .rename_i t x l;split at h
  .rename_i e m;obtain⟨rfl,rfl⟩:=iP h;obtain⟨j,i,g⟩:=dV p f m;obtain⟨b,c⟩:=dg.1 g;have n:=(c▸i).gU;refine⟨.bool (!b),by unfold execOp;simp only[l,n];rfl,by simpa [E.lt]using j,?_,dg.2 ⟨_,rfl⟩⟩;simp only[den,U.den,c,D.W];exact .bool _
  cases h
 .rename_i t x l;split at h
  .rename_i e k m;obtain⟨rfl,rfl⟩:=iP h;obtain⟨j,i,g⟩:=dV p f m;obtain⟨b,c,_⟩:=dt.1 g;have n:=(c▸i).cQ;refine⟨.int k (k.wrap (0-b)),by unfold execOp;simp only[l,n];rfl,by simpa [E.lt]using j,?_,dt.2 ⟨_,rfl,lI _ _⟩⟩;simp only[den,U.den,c,D.q];exact .int _ _
  cases h
 .rename_i u d x l;split at h
  .rename_i e y v k m q r;obtain⟨rfl,rfl⟩:=iP h;obtain⟨j,i,g⟩:=dV p f m;obtain⟨b,c,_⟩:=dt.1 g;have n:=(c▸i).cQ;refine⟨.int k (k.wrap b),?_,by simpa [E.lt]using j,?_,dt.2 ⟨_,rfl,lI _ _⟩⟩
   .unfold execOp;simp only[l,n,convert];simp[run_underlying q,run_underlying r,Conv.intToInt]
   simp only[den,U.den,c,D.q];exact .int _ _
  cases h
 cases h
def Eh(p:iO C w G σ.tm a)(i:bc C.ρ pc=true)(h:tK P σ pc o=some (s,is)):jK P C w G a o s:=by
 unfold tK at h;split at h
 .rename_i x j m;split at h
  .rename_i l q;obtain⟨d,k,e,n⟩:=df p i q;split at h
   .rename_i r g;obtain⟨rfl,rfl⟩:=iP h;have b:j<d.length:=by rw[e];exact(aO.1 g).1
    have f:d[j]?=some d[j]:=aS b;refine⟨d[j],?_,?_⟩
    .unfold execOp;simp only[m,k,Instr.extract];simp[b]
    have:=n j _ _ g f;simpa [lR,wR]using this
   .rename_i c g;obtain⟨rfl,rfl⟩:=iP h;have b:j<d.length:=by rw[e];exact(aO.1 g).1
    have f:d[j]?=some d[j]:=aS b;refine⟨d[j],?_,?_⟩
    .unfold execOp;simp only[m,k,Instr.extract];simp[b]
    have:=n j _ _ g f;simpa [lR,wR]using this
   cases h
  cases h
 cases h
def u9{t:Tba}{f:Nat}{fl:Field}{n:Nat}(h:lF P t f=some (fl,n)):∃b,P.underlying t=some (.struct b)/\b[f]?=some fl/\iy P fl.type=some n:=by
 unfold lF at h;split at h
 .rename_i b c;split at h
  .rename_i g d;simp only[dn,ah]at h;obtain⟨i,e,rfl,rfl⟩:=h;exact⟨b,c,d,e⟩
  cases h
 cases h
def lf{t:Tba}{f:Nat}{fl:Field}{n:Nat}(h:lF P t f=some (fl,n+1))(b o:Nat):
  (Instr.fieldAt t (.pointer (some ⟨b,o,none⟩)) f).run P w=.ok (.pointer (some ⟨b,o+fl.offset,none⟩)) w:=by obtain⟨i,c,e,d⟩:=u9 h;have g:=hC (P:=P) (w:=w) d;simp[Instr.fieldAt,run_underlying c,e,Instr.sureAddr,fieldPlace,g,fT]
def Bt(B:iO C w G σ.tm a)(d:bc C.ρ pc=true)(h:py P σ pc o=some (s,is)):jK P C w G a o s:=by
 unfold py at h;split at h
 .rename_i t x f S
  have k:∀{v u:Tan},a.eval x=v->(Instr.fieldAt t v f).run P w=.ok u w->(execOp a.eval o).run P w=.ok (.value u) w:=by intro v u q J;unfold execOp;simp only[S,q];rw[bw,J];rfl
  split at h
  .rename_i fl n id z r p;obtain⟨rfl,rfl⟩:=iP h;obtain⟨y,A⟩:=df B d p;exact⟨_,k A (lf r _ _),y,rfl⟩
  .rename_i fl n l i u z r p;obtain⟨rfl,rfl⟩:=iP h;obtain⟨y,A,b,R,I,q,L,E⟩:=df B d p;exact⟨_,k q (lf r _ _),y,A,b,R,I,by rw[eB],L,E⟩
  .rename_i fl n e X z r p;obtain⟨rfl,rfl⟩:=iP h;obtain⟨y,b,l,I,T,F,q,E⟩:=df B d p;exact⟨_,k q (lf r _ _),y,b,l,I,T,F,rfl,E⟩
  .rename_i fl n e X r p;obtain⟨rfl,rfl⟩:=iP h;obtain⟨y,A,M⟩:=df B d p;obtain⟨l,F,L⟩:=ik.1 M;obtain⟨b,H,q,D,U,E,J⟩:=(F▸A).qJ;refine⟨_,k q (lf r _ _),y,b,l,fun j=>H.getD j undef,F,L,by rw[av],fun j c O=>?_⟩;have K:j<H.length:=by rw[D];exact(aO.1 O).1
   have Q:H[j]?=some (H.getD j undef):=by simp[List.getD,K]
   exact⟨U j (by omega),E j _ Q,J j _ c Q O⟩
  .rename_i fl n g i u z r p;obtain⟨rfl,rfl⟩:=iP h;obtain⟨y,A,b,N,m,M,W,V,q⟩:=df B d p;exact⟨_,k q (lf r _ _),y,A,b,N,m,M,W,V,by rw[eB]⟩
  cases h
 cases h
def jZ.cut{l:List SC}{vs:Tac}(h:jZ C w G l vs)(off n:Nat):jZ C w G ((l.drop off).take n) ((vs.drop off).take n):=by
 refine⟨by simp[h.1],fun i c v d b=>?_⟩;simp only[aq,aD]at b d;split at b
 .rename_i e;rw[if_pos e]at d;exact h.2 _ c v d b
 cases b
def GN{s:SV}{l:List SC}{v:Tan}(h:AO s=some l)(j:wR C w G s v):∃vs:Tac,v=.agg vs.toArray/\jZ C w G l vs:=by
 unfold AO at h;split at h
 .injection h with h;subst h;exact j
 .rename_i e B;injection h with h;subst h;obtain⟨z,y,u⟩:=j;obtain⟨l,q,k,A,rfl,b,r⟩:=y.NV u;refine⟨A,rfl,by rw[rf,b,fH k],fun i c v d n=>?_⟩;rw[rh]at d;simp only[dn]at d;obtain⟨t,p,rfl⟩:=d;obtain⟨x,g,f⟩:=cJ k i t p;have m:den C.ρ (.un (.cell (0+i)) e)=x:=by simp only[den,U.den,q,D.A,av];exact gx g
  exact⟨by simpa [E.lt]using z,by rw[m];exact r i v x n g,by rw[m];exact f⟩
 cases h
def IV(E:iO C w G σ.tm a)(r:bc C.ρ pc=true)(h:zb P σ pc o=some (s,is)):jK P C w G a o s:=by
 unfold zb at h;split at h
 .rename_i t x f F;split at h
  .rename_i fl n M H m;cases hg:gp P σ pc x t with
   |none=>simp[hg]at m
   |some sv=>
    simp only[hg,cq]at m;split at h
    .rename_i i;obtain⟨e,v⟩:=i;obtain⟨K,A⟩:=dk.1 e;obtain⟨d,p,q⟩:=GN m (df E r hg);obtain⟨L,D,y,z⟩:=u9 H
     have k:∀{u:Tan},(part fl.type d.toArray fl.offset).run P w=.ok u w->(execOp a.eval o).run P w=.ok (.value u) w:=by intro u g;unfold execOp;simp only[F,p,Instr.field,asAgg];simp[run_underlying D,y,g]
     have b:fl.offset+n<=d.length:=by rw[q.1];exact v
     split at h
     .rename_i l;obtain⟨rfl,rfl⟩:=iP h;have g:=r7 (w:=w) A z d b (fun h=>by rw[l]at h;cases h);simp only[valOf,l,if_true]at g;exact⟨_,k g,_,rfl,q.cut _ _⟩
     rename_i l;split at h
     .rename_i B;split at h
      .rename_i c I;obtain⟨rfl,rfl⟩:=iP h;have g:=r7 (w:=w) A z d b (fun _=>B);have j:fl.offset<d.length:=by omega
       have J:((d.drop fl.offset).take n).getD 0 undef=d[fl.offset]:=by simp[List.getD,aD,B,j]
       simp only[valOf,l,aj,if_false,J]at g;exact⟨_,k g,q.2 _ c _ I (aS j)⟩
      cases h
     cases h
    cases h
  cases h
 cases h
def Eg(L:iO C w G σ.tm a)(m:bc C.ρ pc=true)(h:nH P σ pc o=some (s,is))(I:∀Y∈is,fc C Φ Pre Y):jK P C w G a o s:=by
 unfold nH at h;split at h
 .rename_i t x i ho;split at h
  .rename_i el e u v k hu Z hi;split at h
   .rename_i g;obtain⟨g,M⟩:=g;obtain⟨rfl,rfl⟩:=iP h;obtain⟨W,V,T⟩:=dV L m Z;obtain⟨S,R,Q⟩:=dV L m hi;obtain⟨l,H,a0,r⟩:=bO.1 T;obtain⟨n,E,_⟩:=dt.1 Q;have A:fc C Φ Pre (.kx pc (.bin .and (.bin .le (.aZ k 0) v) (.bin .lt v (.un .len e)))):=I _ (by simp);have O:=A.2 m;simp only[den,B.den,U.den,H,E,D.q,D.W,D.A,aT,bk]at O;obtain⟨K,J⟩:=O;have F:n.toNat<l.length:=by omega
    have p:l[n.toNat]?=some l[n.toNat]:=aS F
    have f:den C.ρ (.bin .idx e v)=l[n.toNat]:=by simp only[den,B.den,H,E,D.q,D.A];exact gx p
    have d:=r _ (bQ p);have y:=(cB d).1;obtain⟨b,q,a1,X,hv,hc⟩:=(H▸V).FO p;have z:a.eval i=.int k n:=(E▸R).cQ;refine⟨.pointer (some ⟨b,q+n.toNat*u.cells.length,none⟩),?_,W,S,b,q+n.toNat*u.cells.length,X,by simp,by rw[f];exact d,?_⟩
    .have h1:=hC (P:=P) (w:=w) g;unfold execOp;simp only[ho,hv,z,Instr.indexAt,asIntOf];simp[run_underlying hu,K,J,h1,fT]
    intro j c N;rw[f]at N;rw[<-y];exact hc j c N
   cases h
  cases h
 cases h
def BO(m:iO C w G σ.tm a)(d:bc C.ρ pc=true)(h:mg P σ pc o=some (s,is)):jK P C w G a o s:=by
 unfold mg at h;split at h
 .rename_i t x k n p;split at h
  .rename_i len y id b l i;split at h
   .rename_i g c;split at h
    .rename_i q;obtain⟨f,e⟩:=q;obtain⟨rfl,rfl⟩:=iP h;obtain⟨v,u⟩:=df m d i;refine⟨.pointer (some ⟨G.β id,b+n.toNat*g,none⟩),?_,v,rfl⟩;have r:=hC (P:=P) (w:=w) c;have j:a.eval (.const (.int k n))=.int k n:=rfl;unfold execOp;simp only[p,u,j,Instr.indexAt,asIntOf];simp[run_underlying l,f,e,r,fT,Instr.sureAddr]
    cases h
   cases h
  cases h
 cases h
def L4{e:E}{n:Int}{k:IntKind}{ρ:Nat->D}(h:Is e=some n)(g:Has (.int k) (den ρ e)):den ρ e=.int k n:=by
 unfold Is at h;split at h
 .rename_i f;have b:den ρ e=den (fun _=>.top) e:=(dQ (n:=0) (fun i q=>by omega) f);split at h
  .rename_i p m c;injection h with h;subst h;obtain⟨l,d,_⟩:=dt.1 g;rw[b,c]at d;injection d with j r;rw[b,c,j]
  cases h
 cases h
def Bq(l:iO C w G σ.tm a)(b:bc C.ρ pc=true)(h:lh P σ pc o=some (s,is)):jK P C w G a o s:=by
 unfold lh at h;split at h
 .rename_i t x i v;split at h
  .rename_i len H id c F k u q z;split at h
   .rename_i m n d y;split at h
    .rename_i g;obtain⟨f,e⟩:=g;obtain⟨rfl,rfl⟩:=iP h;obtain⟨E,D⟩:=df l b q;obtain⟨_,j,p⟩:=dV l b z;have A:=L4 y p;rw[A]at j;have r:=j.cQ;refine⟨.pointer (some ⟨G.β id,c+n.toNat*m,none⟩),?_,E,rfl⟩;have B:=hC (P:=P) (w:=w) d;unfold execOp;simp only[v,D,r,Instr.indexAt,asIntOf];simp[run_underlying u,f,e,B,fT,Instr.sureAddr]
    cases h
   cases h
  cases h
 cases h
def Br(d:iO C w G σ.tm a)(b:bc C.ρ pc=true)(h:px P σ pc o=some (s,is))(e:∀f∈is,fc C Φ Pre f):jK P C w G a o s:=by
 unfold px at h;split at h
 .rename_i y c;injection h with h;subst h;exact BO d b c
 split at h
 .rename_i y c;injection h with h;subst h;exact Bq d b c
 exact Eg d b h e
def O9(r:iO C w G σ.tm a)(c:bc C.ρ pc=true)(h:JI P σ pc o=some (s,is))(B:∀K∈is,fc C Φ Pre K):jK P C w G a o s:=by
 unfold JI at h;split at h
 .rename_i x L
  have f:∀{H:Addr},a.eval x=.pointer (some H)->(execOp a.eval o).run P w=.ok (.value (.pointer (some H))) w:=by intro H d;unfold execOp;simp only[L,d];rfl
  split at h
  .rename_i id q k;obtain⟨rfl,rfl⟩:=iP h;have j:=df r c k;exact⟨_,f j.2,j.1,rfl⟩
  .rename_i e I q k;obtain⟨rfl,rfl⟩:=iP h;have j:=df r c k;obtain⟨p,b,l,z,N,t,d,E⟩:=j;exact⟨_,f d,p,b,l,z,N,t,rfl,E⟩
  .rename_i l i u q k;obtain⟨rfl,rfl⟩:=iP h;have j:=df r c k;obtain⟨p,n,b,J,z,d,y,E⟩:=j;exact⟨_,f d,p,n,b,J,z,rfl,y,E⟩
  .rename_i g i u q k;obtain⟨rfl,rfl⟩:=iP h;have j:=df r c k;obtain⟨p,n,b,F,m,v,R,Q,d⟩:=j;exact⟨_,f d,p,n,b,F,m,v,R,Q,rfl⟩
  .rename_i e I k;obtain⟨rfl,rfl⟩:=iP h;have j:=df r c k;obtain⟨p,n,v⟩:=j;obtain⟨l,t,y⟩:=ik.1 v;obtain⟨b,S,d,_⟩:=(t▸n).qJ;exact⟨_,f d,p,by rw[<-d];exact n,v⟩
  .rename_i e I k;obtain⟨rfl,rfl⟩:=iP h;have j:=df r c k;obtain⟨p,n,v⟩:=j;have A:fc C Φ Pre (.kx pc (.un .not (.un .zr e))):=B _ (by simp);have O:=A.2 c;rcases kJ.1 v with M|⟨l,t,y⟩
   .simp[den,U.den,M,D.iV,D.W]at O
   obtain⟨b,S,d,_⟩:=(t▸n).qJ;exact⟨_,f d,p,by rw[<-d];exact n,ik.2 ⟨l,t,y⟩⟩
  cases h
 cases h
def jW{t:Tba}{n:Nat}(h:iy P t=some n)(c:jd P t=true){b off:Nat}{vs:Tac}(i:vs.length=n)(k:∀(j:Nat) v,vs[j]?=some v->w.cell? ⟨b,off+j,none⟩=some v):(Instr.loadAt t (.pointer (some ⟨b,off,none⟩))).run P w=.ok (.agg vs.toArray) w:=by
 have e:∃d,P.underlying t=some d:=by
  unfold jd at c;cases hq:P.underlying t with
  |none=>rw[hq]at c;cases c
  |some d=>exact⟨d,rfl⟩
 obtain⟨d,e⟩:=e;have f:=xp (P:=P) (w:=w) e;have l:=run_loadCells_list (P:=P) w ⟨b,off,none⟩ vs (fun j v g=>by rw[fT];exact k j v g);rw[c]at f;simp[Instr.loadAt,Instr.sureAddr,loadVar,f,hC h,<-i,l]
def nr{t:Tba}(g:jd P t=false)(b:(P.underlying t).isSome=true){e:Addr}{v:Tan}(f:w.cell? e=some v):(Instr.loadAt t (.pointer (some e))).run P w=.ok v w:=by obtain⟨d,b⟩:=dk.1 b;have c:=xp (P:=P) (w:=w) b;rw[g]at c;simp[Instr.loadAt,Instr.sureAddr,loadVar,c,f]
def ta{T:Tba}{e:E}{u:Ty}{off:Nat}(h:su P T e u off=some (s,is))(hu:(P.underlying T).isSome=true){b o':Nat}{uu:Taj}(V:e.lt C.N=true)(q:Has u (den C.ρ e))(I:∀(j:Nat) c,(den C.ρ e).cells[j]?=some c->w.cell? ⟨b,o'+j,none⟩=some (uu j)/\cg w G.S (uu j) c):
  ∃v,(Instr.loadAt T (.pointer (some ⟨b,o'+off,none⟩))).run P w=.ok v w/\wR C w G s v:=by
 have g:∀{t:Ty} {W:E} {c:D},jd P T=false->W.lt C.N=true->den C.ρ W=c->(den C.ρ e).cells[off]?=some c->Has t c->s=.one (.gH W t)->∃v,(Instr.loadAt T (.pointer (some ⟨b,o'+off,none⟩))).run P w=.ok v w/\wR C w G s v:=by intro t W c r Z m f a2 Q;subst Q;obtain⟨h2,h3⟩:=I off c f;exact⟨_,nr r hu h2,Z,by rw[m];exact h3,by rw[m];exact a2⟩
 unfold su at h;split at h
 .rename_i fs n Q;obtain⟨l,R,H⟩:=dU.1 q;have L:=fH H;rw[R]at I g;simp only[D.cells]at I g;split at h
  .rename_i r;split at h
   .rename_i p;obtain⟨rfl,hn⟩:=p;obtain⟨rfl,rfl⟩:=iP h;have z:((List.range n).map uu).length=n:=by simp
    refine⟨_,jW Q r (vs:=(List.range n).map uu) z (fun j v A=>?_),V,?_,q⟩
    .have f:j<n:=by have:=(aO.1 A).1;simpa using this
     simp only[ab,da f,aV,aa]at A;subst A;have B:l[j]?=some l[j]:=aS (by omega);exact(I j _ B).1
    rw[R];refine .agg _ l (by simp[L,hn]) fun i v d F m=>?_;have f:i<n:=by have:=(aO.1 F).1;simpa using this
    simp only[ab,da f,aV,aa]at F;subst F;exact(I i d m).2
   split at h
   .rename_i a3;obtain⟨rfl,rfl⟩:=iP h;have z:((List.range n).map fun j=>uu (off+j)).length=n:=by simp
    have m:den C.ρ (.un (.part off n) e)=.agg ((l.drop off).take n):=by simp only[den,U.den,R,D.A]
    refine⟨_,jW Q r (vs:=(List.range n).map fun j=>uu (off+j)) z (fun j v A=>?_),by simpa [E.lt]using V,?_,?_⟩
    .have f:j<n:=by have:=(aO.1 A).1;simpa using this
     simp only[ab,da f,aV,aa]at A;subst A;have B:l[off+j]?=some l[off+j]:=aS (by omega);rw[eB];exact(I _ _ B).1
    .rw[m];refine .agg _ _ (by simp;omega) fun i v d F m=>?_;have f:i<n:=by have:=(aO.1 F).1;simpa using this
     simp only[ab,da f,aV,aa]at F;subst F;simp only[aq,aD,if_pos f]at m;exact(I _ d m).2
    rw[m];refine dU.2 ⟨_,rfl,jk (by simp;omega) fun j u x f k=>?_⟩;simp only[aq,aD]at f k;split at f
    .rename_i a0;rw[if_pos a0]at k;obtain⟨y,O,a1⟩:=cJ H _ u f;rw[k]at O;injection O with O;subst O;exact a1
    cases f
   cases h
  rename_i r;split at h
  .rename_i t Y;split at h
   .obtain⟨rfl,rfl⟩:=iP h;obtain⟨x,k,M⟩:=cJ H off t Y;have m:den C.ρ (.un (.cell off) e)=x:=by simp only[den,U.den,R,D.A];exact gx k
    exact g (by simpa using r) (by simpa [E.lt]using V) m k M rfl
   cases h
  cases h
 rename_i u _ _ _;split at h
 .rename_i p;obtain⟨r,rfl,K⟩:=p;obtain⟨rfl,rfl⟩:=iP h;obtain⟨k1,k2⟩:=cB q;have X:u.cells=[u]:=by cases u<;>first|rfl|cases K
  rw[X]at k1 k2;obtain⟨x,k,M⟩:=k2 0 u rfl
  have J:x=den C.ρ e:=by
   generalize den C.ρ e=d at*;cases u<;>(first|cases K|skip)<;>simp only[dt,dg,my,bO,ik,kJ,lz]at q
   case ptr=>rcases q with rfl|⟨n,rfl,_⟩<;>(simp[D.cells]at k;exact k.symm)
   all_goals first
    |(obtain⟨n,rfl,_⟩:=q;simp[D.cells]at k;exact k.symm)
    |(obtain⟨n,rfl⟩:=q;simp[D.cells]at k;exact k.symm)
  exact g r V J.symm k (by rw[J];exact q) rfl
 cases h
def Lr{rd:Tah}(hm:fg w0 S0 C G σ w)(V:iO C w G σ.tm a)(y:bc C.ρ pc=true)(h:Dg P σ pc o=some ((s,is),rd)):jK P C w G a o s:=by
 unfold Dg at h;split at h
 .rename_i t x ho
  have q:∀{v u:Tan},a.eval x=v->(Instr.loadAt t v).run P w=.ok u w->(execOp a.eval o).run P w=.ok (.value u) w:=by intro v u r z;unfold execOp;simp only[ho,r];rw[bw,z];rfl
  split at h
  .cases h
  rename_i d;have d:(P.underlying t).isSome=true:=by cases hq:P.underlying t<;>simp[hq]at d⊢
  split at h
  .rename_i id f B;have r:=(df V y B).2;split at h
   .rename_i ro H a0;obtain⟨_,_,Q,_⟩:=hm.box id ro H a0;split at h
    .cases h
    rename_i X;obtain⟨I,T,hg,z⟩:=Q.cells (by simpa using X);have p:∀j,w.cell? ⟨G.β id,j,none⟩=I[j]? :=by intro j;rw[cell_of_row w _ j _ T _ hg];simp
    split at h
    .rename_i ha;split at h
     .rename_i n hs;split at h
      .rename_i a1;injection h with h;simp only[ah]at h;obtain⟨⟨rfl,rfl⟩,rfl⟩:=h;have g:((I.drop f).take n).length=n:=by have:=z.1;simp;omega
       refine⟨_,q r (jW hs ha g (fun j v k=>?_)),_,rfl,z.cut f n⟩;rw[p];simp only[aq,aD]at k;split at k
       .exact k
       cases k
      cases h
     cases h
    rename_i ha;split at h
    .rename_i c A;injection h with h;simp only[ah]at h;obtain⟨⟨rfl,rfl⟩,rfl⟩:=h;have Y:f<I.length:=by rw[z.1];exact(aO.1 A).1
     have L:I[f]?=some I[f]:=aS Y;exact⟨_,q r (nr (by simpa using ha) d ((p f).trans L)),z.2 f c _ A L⟩
    cases h
   cases h
  .rename_i l i u f B;simp only[dn,ah]at h;obtain⟨⟨s',K⟩,S,⟨rfl,rfl⟩,rfl⟩:=h;obtain⟨R,h3,b,o',uu,r,O,A⟩:=df V y B;obtain⟨v,F,J⟩:=ta (P:=P) (C:=C) (w:=w) (G:=G) S d (by simp[E.lt,R,h3]) O (fun j c k=>(A j c k).2);exact⟨v,q r F,J⟩
  .rename_i e fs f B;simp only[dn,ah]at h;obtain⟨⟨s',K⟩,S,⟨rfl,rfl⟩,rfl⟩:=h;obtain⟨R,b,l,uu,W,O,r,A⟩:=df V y B;have m:den C.ρ (.un .agg e)=.agg l:=by simp only[den,U.den,W,D.A]
   obtain⟨v,F,J⟩:=ta (P:=P) (C:=C) (w:=w) (G:=G) (b:=b) (o':=0) (uu:=uu) S d (by simpa [E.lt]using R) (by rw[m];exact dU.2 ⟨l,rfl,O⟩)
    (by rw[m];simp only[D.cells];intro j c k;rw[av];exact(A j c k).2)
   rw[av]at F;exact⟨v,q r F,J⟩
  .rename_i e fs B;simp only[dn,ah]at h;obtain⟨⟨s',K⟩,S,⟨rfl,rfl⟩,rfl⟩:=h;obtain⟨R,M,N⟩:=df V y B;obtain⟨l,W,O⟩:=ik.1 N;obtain⟨b,H,r,g,hS,A,z⟩:=(W▸M).qJ;have m:den C.ρ (.un .agg e)=.agg l:=by simp only[den,U.den,W,D.A]
   obtain⟨v,F,J⟩:=ta (P:=P) (C:=C) (w:=w) (G:=G) (b:=b) (o':=0) (uu:=fun j=>H.getD j undef) S d (by simpa [E.lt]using R) (by rw[m];exact dU.2 ⟨l,rfl,O⟩)
    (by
     rw[m];simp only[D.cells];intro j c k;rw[av];have Z:j<H.length:=by rw[g];exact(aO.1 k).1
     have e1:H[j]?=some (H.getD j undef):=by simp[List.getD,Z]
     exact⟨A j _ e1,z j _ c e1 k⟩)
   exact⟨v,q r F,J⟩
  cases h
 cases h
end
def ml:Tal->Tac->Tao (List SC)
 |[],[]=>some []
 |t::ts,v::vs=>match qF t v,ml ts vs with
  |some c,some cs=>some (c::cs)
  |_,_=>none
 |_,_=>none
def uO(b:Nat->Tao (Nat×Nat)):List SC->List (Nat×List SC)->Tao (List SC)
 |cells,[]=>some cells
 |cells,(i,cs)::rest=>
  match b i with
  |some (off,size)=>if cs.length=size/\off+cs.length<=cells.length then uO b (cells.take off++cs++cells.drop (off+cs.length)) rest else none
  |none=>none
def mw(P:Tap)(σ:St)(pc:dM)(b:Nat->Tba):List (Nat×Tbb)->Tao (List (Nat×List SC))
 |[]=>some []
 |(i,x)::rest=>
  match (gp P σ pc x (b i)).bind mA,mw P σ pc b rest with
  |some cs,some r=>if cs.all SC.scalar then some ((i,cs)::r) else none
  |_,_=>none
def zc(P:Tap)(σ:St)(pc:dM)(o:Tbc):Tao Pl:=
 match o.op with
 |.build t parts=>
  match P.underlying t,P.info? t,flat P Fe t with
  |some (.struct fs),some it,some ts=>
   match it.zero,fs.toList.mapM (fun f=>(P.info? f.type).map fun i=>(f.offset,i.size)),mw P σ pc (fun i=>((fs[i]?).map (·.type)).getD 0) parts.toList with
   |some z,some Xz,some ps=>
    match ml ts z.cells.toList with
    |some zs=>(uO (Xz.toArray[·]?) zs ps).map fun b=>(.agg b,[])
    |none=>none
   |_,_,_=>none
  |_,_,_=>none
 |_=>none
def qD(b:Bool)(size:Nat)(es:List E):Nat->List E
 |0=>[]
 |n+1=>(if b then .un .agg (.V (es.take size)) else es.headD .nil)::qD b size (es.drop size) n
def rC(P:Tap)(σ:St)(pc:dM)(o:Tbc):Tao (E×Tba×Ty×Nat):=
 match o.op with
 |.buildSlice t len parts=>
  match P.underlying t with
  |some (.slice el)=>
   match P.info? el,Yr P el,flat P Fe el,mw P σ pc (fun _=>el) parts.toList with
   |some ie,some u,some ts,some ps=>
    match ie.zero.bind fun z=>ml ts z.cells.toList with
    |some zs=>
     if zs.length=ie.size/\u.cells.length=ie.size/\0<ie.size/\len*ie.size<=16777216/\len*u.bytes<=140737488355328 then
      match uO (fun i=>some (i*ie.size,ie.size)) ((List.range (len*ie.size)).map fun j=>zs.getD (j % zs.length) (.oJ .nil)) ps with
      |some cs=>
       match gZ cs with
       |some (es,us)=>
        if us=(List.replicate len u.cells).flatten/\(jd P el=true\/u.scalar=true) then
         match jd P el,u with
         |true,.agg fs=>some (.V (qD true ie.size es len),el,.agg (.V fs.A),len)
         |false,u=>if ie.size=1 then some (.V (qD false 1 es len),el,u,len) else none
         |_,_=>none
        else none
       |none=>none
      |none=>none
     else none
    |none=>none
   |_,_,_,_=>none
  |_=>none
 |_=>none
def U6(k:IntKind):Tao Tan->Bool
 |some (.int k' z)=>decide (k'=k/\z=0)
 |_=>false
def Qq{k:IntKind}{z:Tao Tan}(h:U6 k z=true):z=some (.int k 0):=by
 unfold U6 at h;split at h
 .obtain⟨rfl,rfl⟩:=of_decide_eq_true h;rfl
 cases h
def SK(P:Tap)(o:Tbc):Tao (E×Tba×Ty×Nat):=
 match o.op with
 |.makeSlice t (.const (.int _ n)) (.const (.int _ m))=>
  match P.underlying t with
  |some (.slice el)=>
   match P.info? el,Yr P el with
   |some ie,some (.int k)=>
    if n=m/\0<n/\n<=1000/\ie.size=1/\U6 k ie.zero=true/\ie.bytes<=8 then some (.V (List.replicate n.toNat (.aZ k 0)),el,.int k,n.toNat) else none
   |_,_=>none
  |_=>none
 |_=>none
def xa(P:Tap)(σ:St)(o:Tbc):Tao (E×Tba×Ty×Nat):=
 match rC P σ [] o with
 |some (e,T,t,n)=>some (e,T,t,n)
 |none=>SK P o
section
variable{P:Tap}{C:Cx}{w w0:Tam}{S0:gK}{G:Gh}{σ:St}{a:Act}{o:Tbc}{pc:dM}{s:SV}{is:List Item}{Φ:Taa}{Pre:eN}
def Ao(z:iO C w G σ.tm a)(f:bc C.ρ pc=true)(h:B0 P σ pc o=some (s,is)):jK P C w G a o s:=by
 unfold B0 at h;split at h
 .rename_i d n A;split at h
  .rename_i x t c Q;split at h
   .rename_i Z e u W v;obtain⟨rfl,rfl⟩:=iP h;obtain⟨r,q,p⟩:=dV z f v;obtain⟨l,L,⟨K,_⟩,_⟩:=bO.1 p;obtain⟨ad,Y,V⟩:=(L▸q).qf;have b:d=#[x]:=by apply dI;simpa using c
    refine⟨.int i64 l.length,?_,by simpa [E.lt]using r,?_,?_⟩
    .unfold execOp;simp only[A,resolve,invoke,builtin,b];simp[Builtin.len_,Q,V,run_underlying W,goInt]
    .simp only[den,U.den,L,D.A];exact .int _ _
    simp only[den,U.den,L,D.A];refine dt.2 ⟨_,rfl,?_,?_⟩
    .show i64.min<=_;simp[IntKind.min,IntKind.signed,IntKind.bits];try omega
    show _<=i64.max;simp[IntKind.max,IntKind.signed,IntKind.bits];simp only[maxLen]at K;omega
   cases h
  cases h
 .rename_i d _ A;split at h
  .rename_i x y c;split at h
   .rename_i ex k X T v J;split at h
    .rename_i M;subst M;obtain⟨rfl,rfl⟩:=iP h;obtain⟨r,q,p⟩:=dV z f v;obtain⟨I,H,F⟩:=dV z f J;obtain⟨i,m,O⟩:=dt.1 p;obtain⟨j,g,N⟩:=dt.1 F;have S:=(m▸q).cQ;have R:=(g▸H).cQ;have b:d=#[x,y]:=by apply dI;simpa using c
     refine⟨.int k (if j<i then j else i),?_,by simp[E.lt,r,I],?_,?_⟩
     .unfold execOp;simp only[A,resolve,invoke,builtin,b];simp[Builtin.min_,Builtin.min2,S,R]
     .simp only[den,B.den,m,g,D.q];exact .int _ _
     simp only[den,B.den,m,g,D.q];refine dt.2 ⟨_,rfl,?_⟩;split<;>assumption
    cases h
   cases h
  cases h
 .rename_i d _ A;split at h
  .rename_i x y c;split at h
   .rename_i ex k X T v J;split at h
    .rename_i M;subst M;obtain⟨rfl,rfl⟩:=iP h;obtain⟨r,q,p⟩:=dV z f v;obtain⟨I,H,F⟩:=dV z f J;obtain⟨i,m,O⟩:=dt.1 p;obtain⟨j,g,N⟩:=dt.1 F;have S:=(m▸q).cQ;have R:=(g▸H).cQ;have b:d=#[x,y]:=by apply dI;simpa using c
     refine⟨.int k (if j>i then j else i),?_,by simp[E.lt,r,I],?_,?_⟩
     .unfold execOp;simp only[A,resolve,invoke,builtin,b];simp[Builtin.max_,Builtin.max2,S,R]
     .simp only[den,B.den,m,g,D.q];exact .int _ _
     simp only[den,B.den,m,g,D.q];refine dt.2 ⟨_,rfl,?_⟩;split<;>assumption
    cases h
   cases h
  cases h
 cases h
def qN:∀{ts:Tal} {vs:Tac} {cs:List SC},ml ts vs=some cs->jZ C w G cs vs
 |[],[],cs,h=>by simp only[ml,aa]at h;subst h;exact⟨rfl,by intro i c v b;simp at b⟩
 |t::ts,v::vs,cs,h=>by
  simp only[ml]at h;split at h
  .rename_i c k j g;injection h with h;subst h;have e:=qN g;refine⟨by simp[e.1],fun i l f b d=>?_⟩;cases i with
   |zero=>simp at b d;subst b;subst d;exact(CN j).1
   |succ i=>exact e.2 i l f (by simpa using b) (by simpa using d)
  cases h
 |[],_::_,_,h=>by cases h
 |_::_,[],_,h=>by cases h
def foldl_set(off:Nat):∀(us:Tac) (k:Nat) (vs:Tac),off+k+us.length<=vs.length->
  (us.zipIdx k).foldl (fun(cs:Tbd Tan) (x:Tan×Nat)=>cs.setIfInBounds (off+x.2) x.1) vs.toArray=(vs.take (off+k)++us++vs.drop (off+k+us.length)).toArray
 |[],k,vs,_=>by simp
 |u::us,k,vs,h=>by have b:=foldl_set off us (k+1) (vs.set (off+k) u) (by simp at h⊢;omega);simp only[List.zipIdx_cons,List.foldl_cons,List.setIfInBounds_toArray,b];congr 1;have:=list_seg_step vs (off+k) u us (by simp at h;omega);rw[show off+(k+1)=off+k+1 by omega];simpa [eB]using this
def jZ.N8{l cs:List SC}{vs us:Tac}(h:jZ C w G l vs)(k:jZ C w G cs us){off:Nat}(m:off+cs.length<=l.length):
  jZ C w G (l.take off++cs++l.drop (off+cs.length)) (vs.take off++us++vs.drop (off+us.length)):=by
 have g:=h.1;have e:=k.1;refine⟨by simp[g,e],fun i c v d b=>?_⟩;rw[dE,dE]at d b;simp only[ai,aA,g,e,Nat.min_eq_left (show off<=l.length by omega)]at d b;by_cases j:i<off+cs.length
 .rw[if_pos j]at d b;by_cases f:i<off
  .rw[if_pos f]at d b;simp only[aq,if_pos f]at d b;exact h.2 i c v d b
  rw[if_neg f]at d b;exact k.2 _ c v d b
 rw[if_neg j]at d b;simp only[aD]at d b;exact h.2 _ c v d b
def xD(e:Nat->Tao (Nat×Nat)):∀(c:List (Nat×List SC)) (d:Tab) (cells b:List SC) (vs:Tac),uO e cells c=some b->jZ C w G cells vs->
  c.length=d.length->(∀(i:Nat) x y,c[i]?=some x->d[i]?=some y->x.1=y.1/\∃f:Tac,y.2.cells=f.toArray/\jZ C w G x.2 f)->
  ∃l:Tac,Instr.fill e vs.toArray d=some l.toArray/\jZ C w G b l
 |[],[],cells,b,vs,h,hr,_,_=>by simp only[uO,aa]at h;subst h;exact⟨vs,rfl,hr⟩
 |[],_::_,_,_,_,_,_,hl,_=>by simp at hl
 |_::_,[],_,_,_,_,_,hl,_=>by simp at hl
 |(i,A)::c,(j,v)::d,cells,b,vs,h,hr,hl,hp=>by
  obtain⟨q,f,B,n⟩:=hp 0 _ _ rfl rfl;simp only at q B n;subst q;simp only[uO]at h;split at h
  .rename_i g size r;split at h
   .rename_i H;obtain⟨u,t⟩:=H;obtain⟨l,K,J⟩:=xD e c d _ b _ h (hr.N8 n t) (by simpa using hl) (fun k x y F E=>hp (k+1) x y (by simpa using F) (by simpa using E));refine⟨l,?_,J⟩;have m:f.length=A.length:=n.1;simp only[Instr.fill,r,B];have D:=foldl_set g f 0 vs (by rw[hr.1,m];omega);simp only[dO]at D
    have p:¬((f.toArray.size≠size||decide (g+f.toArray.size>vs.toArray.size))=true):=by simp[m,u,hr.1];omega
    rw[if_neg p]
    have I:f.toArray.zipIdx.foldl (fun A (x:Tan×Nat)=>A.setIfInBounds (g+x.2) x.1) vs.toArray=(vs.take g++f++vs.drop (g+f.length)).toArray:=by rw[<-D,show f.toArray.zipIdx=(f.zipIdx).toArray by simp];exact List.foldl_toArray' _ _ _ (by simp)
    exact(congrArg (fun z=>Instr.fill e z d) I).trans K
   cases h
  cases h
def uS(m:iO C w G σ.tm a)(c:bc C.ρ pc=true)(b:Nat->Tba):∀(l:List (Nat×Tbb)) (ps:List (Nat×List SC)),mw P σ pc b l=some ps->
  ps.length=(l.map fun(x:Nat×Tbb)=>(x.1,a.eval x.2)).length/\∀(i:Nat) x y,ps[i]?=some x->(l.map fun(x:Nat×Tbb)=>(x.1,a.eval x.2))[i]?=some y->x.1=y.1/\∃k:Tac,y.2.cells=k.toArray/\jZ C w G x.2 k
 |[],ps,h=>by simp only[mw,aa]at h;subst h;exact⟨rfl,by intro i x y q;simp at q⟩
 |(i,x)::l,ps,h=>by
  simp only[mw]at h;split at h
  .rename_i u r g t;split at h
   .rename_i f;injection h with h;subst h;obtain⟨p,n⟩:=uS m c b l r t;refine⟨by simp[p],fun j y z e d=>?_⟩;cases j with
    |zero=>
     simp at e d;subst e;subst d;refine⟨rfl,?_⟩;cases hg:gp P σ pc x (b i) with
     |none=>simp[hg]at g
     |some sv=>
      simp only[hg,cq]at g;exact qU g (df m c hg) f
    |succ j=>exact n j y z (by simpa using e) (by simpa using d)
   cases h
  cases h
def IW(r:iO C w G σ.tm a)(k:bc C.ρ pc=true)(h:zc P σ pc o=some (s,is)):jK P C w G a o s:=by
 unfold zc at h;split at h
 .rename_i t b u;split at h
  .rename_i J I F q v y;split at h
   .rename_i z c H p j g;split at h
    .rename_i E e;simp only[dn,ah]at h;obtain⟨K,l,rfl,_⟩:=h;obtain⟨n,m⟩:=uS r k _ _ _ g;have f:=qN (C:=C) (w:=w) (G:=G) e;obtain⟨d,D,B⟩:=xD _ _ _ _ _ _ l f n m;refine⟨.agg d.toArray,?_,d,rfl,B⟩
     have A:P.built t (b.map fun(i,x)=>(i,a.eval x)).toList=some d.toArray:=by unfold Program.built;simp only[v,q,p,j];rw[Array.toList_map];simpa using D
     unfold execOp;simp only[u,bw,run_build w t _ _ A,bZ];rfl
    cases h
   cases h
  cases h
 cases h
def IT(ht:iO C w G σ.tm a)(K:bc C.ρ pc=true)(h:y9 P σ pc o=some (s,is))(b7:∀it∈is,fc C Φ Pre it):jK P C w G a o s:=by
 unfold y9 at h;split at h
 .rename_i t x L g ho;split at h
  .rename_i el e u hu hx;simp only at h;split at h
   .rename_i l k hh k' A F;split at h
    .rename_i W;obtain⟨W,b8⟩:=W;obtain⟨rfl,rfl⟩:=iP h;obtain⟨x1,x2,x3⟩:=dV ht K hx;obtain⟨q,hl,b5,T⟩:=bO.1 x3;have a9:fc C Φ Pre (.kx pc (.bin .and (.bin .le (.aZ k 0) l) (.bin .and (.bin .le l hh) (.bin .le hh (.un .len e))))):=b7 _ (by simp);have hb:=a9.2 K
     have kl:∃n:Int,den C.ρ l=.int k n/\l.lt C.N=true/\(∀i,L=some i->a.eval i=.int k n)/\(L=none->n=0):=by
      cases L with
      |none=>simp only[aa,ah]at A;obtain⟨rfl,rfl⟩:=A;exact⟨0,rfl,rfl,by simp,fun _=>rfl⟩
      |some i=>
       simp only at A;split at A
       .rename_i ie ki Y;simp only[aa,ah]at A;obtain⟨rfl,rfl⟩:=A;obtain⟨y1,y2,y3⟩:=dV ht K Y;obtain⟨n,Q,_⟩:=dt.1 y3;exact⟨n,Q,y1,fun j H=>by injection H with H;subst H;exact(Q▸y2).cQ,by simp⟩
       cases A
     have kh:∃n:Int,(∃k,den C.ρ hh=.int k n)/\hh.lt C.N=true/\(∀i,g=some i->∃k,a.eval i=.int k n)/\(g=none->n=q.length):=by
      cases g with
      |none=>simp only[aa,ah]at F;obtain⟨rfl,rfl⟩:=F;exact⟨q.length,⟨i64,by simp only[den,U.den,hl,D.A]⟩,by simpa [E.lt]using x1,by simp,fun _=>rfl⟩
      |some i=>
       simp only at F;split at F
       .rename_i ie ki Y;simp only[aa,ah]at F;obtain⟨rfl,rfl⟩:=F;obtain⟨y1,y2,y3⟩:=dV ht K Y;obtain⟨n,Q,_⟩:=dt.1 y3;exact⟨n,⟨_,Q⟩,y1,fun j H=>by injection H with H;subst H;exact⟨_,(Q▸y2).cQ⟩,by simp⟩
       cases F
     obtain⟨n,Q,a5,a1,a3⟩:=kl;obtain⟨m,⟨km,hm⟩,a6,b0,b4⟩:=kh;simp only[den,B.den,U.den,hl,Q,hm,D.q,D.W,D.A,aT,bk]at hb;obtain⟨b1,b2,b3⟩:=hb;have R:den C.ρ (.bin .drop (.bin .take e hh) l)=.list ((q.take m.toNat).drop n.toNat):=by simp only[den,B.den,hl,Q,hm,D.q,D.A]
     have I:((q.take m.toNat).drop n.toNat).length=m.toNat-n.toNat:=by simp;omega
     have a8:∀(z:Tao Addr) (cap:Nat),q.length<=cap->(Instr.sliceAt t (.slice z q.length cap) (L.map a.eval) (g.map a.eval) none).run P w=
       .ok (.slice (if cap=n.toNat then z else z.map (·.add (n.toNat*u.cells.length))) (m.toNat-n.toNat) (cap-n.toNat)) w:=by
      intro z cap f;have h1:=hC (P:=P) (w:=w) W;have h2:∀kk p,(Instr.sliceBound (.int kk m) cap p).run P w=.ok m.toNat w:=fun kk p=>run_sliceBound w kk m cap p (by omega) (by omega);have h3:∀p,(Instr.sliceBound (.int k n) m.toNat p).run P w=.ok n.toNat w:=fun p=>run_sliceBound w k n m.toNat p (by omega) (by omega)
      have e1:(do
        let m'<-match (none:Tao Tan) with
         |some v=>Instr.sliceBound v cap (if true then .slice3Acap else .slice3Alen)
         |none=>pure cap
        let h<-match g.map a.eval,(none:Tao Tan) with
         |some v,some _=>Instr.sliceBound v m' .slice3B
         |some v,none=>Instr.sliceBound v m' (if true then .sliceAcap else .sliceAlen)
         |none,none=>pure q.length
         |none,some _=>stuck "Slice: max without high"
        let l<-match L.map a.eval with
         |some v=>Instr.sliceBound v h (if(none:Tao Tan).isSome then .slice3C else .sliceB)
         |none=>pure 0
        pure (l,h,m'):Sem (Nat×Nat×Nat)).run P w=.ok (n.toNat,m.toNat,cap) w:=by
       cases g with
       |none=>
        have:=b4 rfl;have X:m.toNat=q.length:=by omega
        cases L with
        |none=>have:=a3 rfl;simp[this,X]
        |some i=>rw[X]at h3;simp[a1 i rfl,h3,X]
       |some j=>
        obtain⟨kk,H⟩:=b0 j rfl;cases L with
        |none=>have:=a3 rfl;simp[this,H,h2]
        |some i=>simp[a1 i rfl,h3,H,h2]
      have e2:(Instr.sliceBounds true q.length cap (L.map a.eval) (g.map a.eval) none).run P w=.ok (n.toNat,m.toNat,cap) w:=e1;simp[Instr.sliceAt,Instr.slice,run_underlying hu,e2,h1]
     have a4:∀{z:Tao Addr} {cap:Nat},a.eval x=.slice z q.length cap->q.length<=cap->(∀v,v=Value.slice (if cap=n.toNat then z else z.map (·.add (n.toNat*u.cells.length))) (m.toNat-n.toNat) (cap-n.toNat)->cg w G.S v (.list ((q.take m.toNat).drop n.toNat)))->jK P C w G a o (.one (.gH (.bin .drop (.bin .take e hh) l) (.list u))):=by
      intro z cap M f a0;refine⟨_,?_,by simp[E.lt,x1,a5,a6],by rw[R];exact a0 _ rfl,?_⟩
      .unfold execOp;simp only[ho,M,Option.map_none,bw,a8 z cap f,bZ];rfl
      rw[R];exact bO.2 ⟨_,rfl,b5.mono (by omega),fun y hy=>T y (cw (cz hy))⟩
     have J:=hl▸x2;by_cases hz:m.toNat-n.toNat=0
     .have a2:(q.take m.toNat).drop n.toNat=[]:=au (by omega)
      have b6:∃z cap,a.eval x=.slice z q.length cap/\q.length<=cap:=by
       generalize a.eval x=v at J;cases J with
       |nil z cap=>exact⟨z,cap,rfl,aF _⟩
       |list b off cap sz xs _ _ _ f=>exact⟨_,cap,rfl,f⟩
      obtain⟨z,cap,M,f⟩:=b6;refine a4 M f fun v V=>?_;rw[a2,V,hz];exact .nil _ _
     generalize a7:a.eval x=v at J;cases J with
     |nil z cap=>simp at b3;omega
     |list b off cap sz xs _ MC tV f Mp hS hc hw hr=>
      refine a4 a7 f fun v' V=>?_
      have O:sz=u.cells.length:=by
       cases G6:q with
       |nil=>exact absurd G6 tV
       |cons d r=>
        have:=hw 0 d (by rw[G6];rfl);rw[<-this];exact(cB (T d (by rw[G6];simp))).1
      have Z:cap≠n.toNat:=by omega
      rw[V,if_neg Z,<-I];simp only[aV,fT];have b9:n.toNat*sz<=xs.length:=by rw[Mp];exact aw _ (by omega)
      refine .list b _ _ sz ((xs.drop (n.toNat*sz)).take ((m.toNat-n.toNat)*sz)) _ MC (fun e=>hz (by rw[<-I,e];rfl)) (by omega) ?_ ?_ ?_ ?_ ?_
      .rw[I,aA,ba,Mp,<-Nat.sub_mul];exact Nat.min_eq_left (aw _ (by omega))
      .intro i g;have:i<xs.length-n.toNat*sz:=by simp at g;omega
       rw[<-O,eB];exact hS _ (by omega)
      .intro i v g;simp only[aq,aD]at g;split at g
       .rw[<-O,eB];exact hc _ v g
       cases g
      .intro i d g;exact hw _ d (by simp only[aD,aq]at g;split at g;exact g;cases g)
      intro i d j v c g H M;simp only[aD,aq]at g;split at g
      .refine hr (n.toNat+i) d j v c g H ?_;simp only[aq,aD]at M;split at M
       .rw[<-M,cn,eB]
       cases M
      cases g
    cases h
   cases h
  cases h
 cases h
def Gp(T:iO C w G σ.tm a)(A:bc C.ρ pc=true)(h:v8 P σ pc o=some (s,is))(a1:∀it∈is,fc C Φ Pre it):jK P C w G a o s:=by
 unfold v8 at h;split at h
 .rename_i t x l mx ho;split at h
  .rename_i el e u O k mm k' hu hx a3 X;split at h
   .rename_i I;obtain⟨I,a4,rfl⟩:=I;obtain⟨rfl,rfl⟩:=iP h;obtain⟨x1,x2,x3⟩:=dV T A hx;obtain⟨r,hl,Z,L⟩:=bO.1 x3;obtain⟨y1,y2,y3⟩:=dV T A a3;obtain⟨_,z2,_⟩:=dV T A X;obtain⟨m,N,_⟩:=dt.1 y3;have W:fc C Φ Pre (.kx pc (.bin .and (.bin .le (.aZ k 0) O) (.bin .le O (.un .len e)))):=a1 _ (by simp);have hb:=W.2 A;simp only[den,B.den,U.den,hl,N,D.q,D.W,D.A,aT,bk]at hb;obtain⟨b1,b2⟩:=hb;have a2:a.eval l=.int k m:=(N▸y2).cQ;have Y:a.eval mx=.int k m:=(N▸z2).cQ;have q:den C.ρ (.bin .take e O)=.list (r.take m.toNat):=by simp only[den,B.den,hl,N,D.q,D.A]
    have p:(r.take m.toNat).length=m.toNat:=by simp;omega
    have V:∀(n:Tao Addr) (cap:Nat),r.length<=cap->(Instr.sliceAt t (.slice n r.length cap) none (some (.int k m)) (some (.int k m))).run P w=
      .ok (.slice (if m.toNat=0 then n else n.map (·.add (0*u.cells.length))) m.toNat m.toNat) w:=by
     intro n cap f;have h1:=hC (P:=P) (w:=w) I;have h2:∀g,(Instr.sliceBound (.int k m) cap g).run P w=.ok m.toNat w:=fun g=>run_sliceBound w k m cap g (by omega) (by omega);have h3:∀g,(Instr.sliceBound (.int k m) m.toNat g).run P w=.ok m.toNat w:=fun g=>run_sliceBound w k m m.toNat g (by omega) (by omega)
     have e2:(Instr.sliceBounds true r.length cap none (some (.int k m)) (some (.int k m))).run P w=.ok (0,m.toNat,m.toNat) w:=by simp[Instr.sliceBounds,h2,h3]
     simp[Instr.sliceAt,Instr.slice,run_underlying hu,e2,h1]
    have M:∀{n:Tao Addr} {cap:Nat},a.eval x=.slice n r.length cap->r.length<=cap->(∀v,v=Value.slice (if m.toNat=0 then n else n.map (·.add (0*u.cells.length))) m.toNat m.toNat->cg w G.S v (.list (r.take m.toNat)))->jK P C w G a o (.one (.clip (.bin .take e O) u)):=by
     intro n cap F f K;refine⟨_,?_,by simp[E.lt,x1,y1],by rw[q];exact K _ rfl,?_,?_⟩
     .unfold execOp;simp only[ho,F,a2,Y,Option.map_none,aV,bw,V n cap f,bZ];rfl
     .rw[q];exact bO.2 ⟨_,rfl,Z.mono (by omega),fun y hy=>L y (cw hy)⟩
     rw[q];simp only[D.A,p];exact⟨_,rfl⟩
    have z:=hl▸x2;by_cases Q:m.toNat=0
    .have a0:∃n cap,a.eval x=.slice n r.length cap/\r.length<=cap:=by
      generalize a.eval x=v at z;cases z with
      |nil n cap=>exact⟨n,cap,rfl,aF _⟩
      |list b off cap sz xs _ _ _ f=>exact⟨_,cap,rfl,f⟩
     obtain⟨n,cap,F,f⟩:=a0;refine M F f fun v H=>?_;rw[H,Q];exact .nil _ _
    generalize R:a.eval x=v at z;cases z with
    |nil n cap=>simp at b2;omega
    |list b off cap sz xs _ MC tV f Mp hS hc hw hr=>
     refine M R f fun v' H=>?_;rw[H,if_neg Q];simp only[aV,fT,Nat.zero_mul,dO]
     have J:=cg.list (w:=w) (S:=G.S) b off m.toNat sz (xs.take (m.toNat*sz)) (r.take m.toNat) MC (fun e=>Q (by rw[<-p,e];rfl)) (by omega) (by rw[p,aA,Mp];exact Nat.min_eq_left (aw _ (by omega)))
      (fun i l=>hS _ (by simp at l;omega))
      (fun i v l=>by
       simp only[aq]at l;split at l
       .exact hc _ v l
       cases l)
      (fun i d l=>hw _ d (by simp only[aq]at l;split at l;exact l;cases l))
      (fun i d j v c l hj F=>by
       simp only[aq]at l F;split at l
       .split at F
        .exact hr i d j v c l hj F
        cases F
       cases l)
     rw[p]at J;exact J
   cases h
  cases h
 cases h
end
end Go.dF
