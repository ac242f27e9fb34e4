/- Part 0 of the proof of RaftGrown; no condition. -/
import Derived.Orders
import Derived.Below
import Derived.Laws.AppendOwn
import Derived.Laws.Rows
import Derived.Laws.Slices
import Derived.Laws.StructEq
import Derived.Laws.Cells
import Derived.Maps.OwnSet
import Derived.Carry
import Derived.DeepKeys4
import Derived.Laws.Closers25b
import Derived.Great.BuildSlice
set_option linter.unusedVariables false
set_option linter.unusedSimpArgs false
set_option maxHeartbeats 4000000
set_option linter.defProp false
open Go.IntKind (i64)
namespace Go.dG
open Go Go.RowKit
abbrev O3:=Exit->Act->World->Prop
abbrev Tac:=List (Nat×Value)
abbrev Tad:=List Value
abbrev Tae:=Array Oper
abbrev Taf:=World->Prop
abbrev Tai:=List Nat
abbrev Taj:=Nat->Prop
abbrev Tak:=Nat->Value
abbrev Tal:=Option Nat
abbrev Tan:=World
abbrev Tao:=Value
abbrev Tap:=Option
abbrev Tba:=Program
abbrev Tbb:=TypeId
abbrev Tbc:=Operand
abbrev Tbd:=Oper
abbrev Tbe:=Array
def aR{a:Type _}{l:List a}{i:Nat}(h:i<l.length):l[i]?=some l[i]:=List.getElem?_eq_getElem h
def aD{b:Type _}{i:Nat}{a:b}{l:List b}:l[i]?=some a↔∃h:i<l.length,l[i]=a:=List.getElem?_eq_some_iff
def bT{b:Type _}{l:List b}{i:Nat}{a:b}:l[i]?=some a->a∈l:=List.mem_of_getElem?
def cQ{c β:Type _}{x:Tap c}{f:c->β}{b:β}:Option.map f x=some b↔∃a,x=some a/\f a=b:=Option.map_eq_some_iff
def bU{a:Type _}{p:a->Bool}{l:List a}:l.all p=true↔∀x∈l,p x=true:=List.all_eq_true
def aP(a b:Bool):((a&&b)=true)=(a=true/\b=true):=Bool.and_eq_true a b
def bg{p:Prop}[Decidable p]:(decide p=true)=p:=decide_eq_true_eq
def eZ:=@List.eq_nil_iff_forall_not_mem
def an:=@List.eq_nil_of_length_eq_zero
def aI:=@Array.getElem?_eq_some_iff
def ay:=@List.getElem?_append_right
def ag:=@List.getD_eq_getElem?_getD
def eY:=@List.mem_or_eq_of_mem_set
def dp:=@List.getElem?_eq_none_iff
def ak:=@List.getElem?_append_left
def bJ:=@List.drop_eq_getElem_cons
def dq:=@Array.getElem?_eq_getElem
def ft:=@List.eq_of_mem_replicate
def cW:=@Option.isSome_iff_exists
def eu:=@Option.bind_eq_some_iff
def df:=@List.getElem?_cons_succ
def db:=@List.getElem?_cons_zero
def bP:=@List.length_eq_one_iff
def bQ:=@List.drop_of_length_le
def dz:=@List.take_of_length_le
def cM:=@List.getElem?_eq_none
def ba:=@List.length_singleton
def bY:=@Bool.and_eq_false_iff
def da:=@List.getElem?_toArray
def bA:=@List.mem_append_right
def dE:=@List.take_append_drop
def ao:=@List.mem_cons_of_mem
def bj:=@Go.World.cell?_of_block
def au:=@List.getElem?_of_mem
def aw:=@Nat.mul_le_mul_right
def dx:=@List.mem_of_mem_drop
def cV:=@List.mem_of_mem_take
def dy:=@List.getElem?_append
def az:=@List.mem_append_left
def cN:=@List.getElem?_range
def dF:=@List.take_succ_cons
def fD:=@List.getElem_of_mem
def eX:=@List.length_pos_iff
def fE:=@Array.length_toList
def ai:=@Bool.false_eq_true
def aZ:=@List.mem_cons_self
def aC:=@List.getElem?_take
def ar:=@Nat.lt_of_lt_of_le
def ah:=@List.length_append
def eB:=@Int.natCast_nonneg
def fq:=@Nat.eq_zero_or_pos
def aG:=@List.mem_singleton
def bE:=@List.mem_filterMap
def aL:=@List.getElem?_drop
def dQ:=@Option.toList_some
def fO:=@List.pairwise_cons
def aa:=@Option.some.injEq
def ab:=@List.getElem?_map
def bF:=@List.getElem?_set
def cX:=@List.append_assoc
def cI:=@Bool.not_eq_true'
def bZ:=@Go.Result.andThen_ok
def eH:=@List.ext_getElem?
def fB:=@Go.World.ownsRow_nil
def cb:=@List.size_toArray
def dW:=@List.length_range
def ca:=@List.take_add_one
def cY:=@Int.toNat_natCast
def dM:=@Bool.eq_false_iff
def eG:=@List.flatten_cons
def dv:=@List.not_mem_nil
def cg:=@Option.bind_some
def cG:=@Nat.le_add_right
def bu:=@List.length_cons
def aF:=@List.getElem_mem
def eE:=@List.cons_append
def bh:=@List.length_drop
def bq:=@Option.getD_some
def aO:=@List.length_take
def fp:=@List.any_eq_true
def cU:=@List.mem_flatMap
def cH:=@List.take_length
def fI:=@Array.toList_map
def du:=@Nat.lt_succ_self
def cT:=@Bool.eq_iff_iff
def aX:=@List.append_nil
def aS:=@Option.map_some
def aQ:=@List.mem_append
def aK:=@List.length_set
def eL:=@List.nil_append
def bX:=@List.map_append
def dD:=@List.cons.injEq
def aj:=@List.length_map
def fC:=@List.length_nil
def bI:=@Bool.or_eq_true
def cz:=@List.mem_range
def fN:=@List.take_zero
def ae:=@Prod.mk.injEq
def aH:=@List.mem_cons
def ct:=@List.map_cons
def fu:=@Nat.add_assoc
def bf:=@List.mem_map
def bW:=@List.all_nil
def aY:=@Nat.le_trans
def aq:=@Nat.zero_add
def dL:=@Nat.add_zero
def bz:=@Go.Sem.run_bind
def eK:=@Nat.lt_or_ge
def fm:=@Int.le_trans
def aM:=@Nat.le_refl
def aB:=@Nat.zero_le
def aJ:=@Int.le_refl
def bL:=@Nat.mul_one
def cq:=@Nat.add_mul
def dC:=@Array.ext'
def dt:=@Iff.rfl
def iE{e β:Type _}{c a:e}{b b1:β}(h:some (c,b)=some (a,b1)):c=a/\b=b1:=by injection h with h;simp only[Prod.mk.injEq]at h;exact h
def LY{j β i:Type _}{g b:j}{e a:β}{c b2:i}(h:some (g,e,c)=some (b,a,b2)):g=b/\e=a/\c=b2:=by injection h with h;simp only[Prod.mk.injEq]at h;exact h
def Yz{p β o m:Type _}{j c:p}{i b:β}{g a:o}{e b3:m}(h:some (j,i,g,e)=some (c,b,a,b3)):j=c/\i=b/\g=a/\e=b3:=by injection h with h;simp only[Prod.mk.injEq]at h;exact h
def zP5{s β r q p:Type _}{o e:s}{m c:β}{j b:r}{i a:q}{g b4:p}(h:some (o,m,j,i,g)=some (e,c,b,a,b4)):o=e/\m=c/\j=b/\i=a/\g=b4:=by injection h with h;simp only[Prod.mk.injEq]at h;exact h
def zP6{y β x u s r:Type _}{q g:y}{p e:β}{o c:x}{m b:u}{j a:s}{i b5:r}(h:some (q,p,o,m,j,i)=some (g,e,c,b,a,b5)):q=g/\p=e/\o=c/\m=b/\j=a/\i=b5:=by injection h with h;simp only[Prod.mk.injEq]at h;exact h
inductive D where
 |int (k:IntKind) (n:Int)
 |bool (b:Bool)
 |str (s:ByteArray)
 |list (l:List D)
 |agg (l:List D)
 |fa (l:List D)
 |gv
 |ptr (l:List D)
 |fn (f:Nat) (l:List D)
 |top
 deriving Inhabited
abbrev Taa:=Nat->List D->Prop
abbrev Tab:=Nat->List D->D
abbrev Tah:=List D
def D.cells:D->Tah
 |.agg l=>l
 |d=>[d]
def D.J:D->Int
 |.int _ n=>n
 |_=>0
def D.Z:D->Bool
 |.bool b=>b
 |_=>false
def D.V:D->Tah
 |.list l=>l
 |.agg l=>l
 |.fa l=>l
 |.ptr l=>l
 |.fn _ l=>l
 |_=>[]
def D.YF(x y:D):Bool:=decide (x.cells.map D.J=y.cells.map D.J)
def D.iL:D->Bool
 |.gv=>true
 |_=>false
inductive Ty where
 |int (k:IntKind)
 |bool
 |str
 |list (t:Ty)
 |agg (fs:Ty)
 |fa (fs:Ty)
 |box (fs:Ty)
 |ptr (fs:Ty)
 |fn (f:Nat) (fs:Ty)
 |nil
 |cons (h t:Ty)
 deriving DecidableEq
abbrev Tam:=List Ty
def Ty.V:Ty->Tam
 |.cons h t=>h::t.V
 |_=>[]
def Ty.Y:Tam->Ty
 |[]=>.nil
 |h::t=>.cons h (Ty.Y t)
def Ty.dT(l:Tam):(Ty.Y l).V=l:=by
 induction l with
 |nil=>rfl
 |cons h t ih=>simp[Ty.Y,Ty.V,ih]
def Ty.cells:Ty->Tam
 |.agg fs=>fs.V
 |t=>[t]
def Ty.sc:Ty->Nat
 |.int k=>k.bits/8
 |.bool=>1
 |.str=>16
 |.list _=>24
 |_=>8
def Ty.al:Ty->Nat
 |.int k=>k.bits/8
 |.bool=>1
 |_=>8
def Ty.bytes:Ty->Nat
 |.agg fs=>
  let r:=fs.V.foldl (fun x c=>((x.1+c.al-1)/c.al*c.al+c.sc,max x.2 c.al)) (0,1)
  (r.1+r.2-1)/r.2*r.2
 |t=>t.sc
def Ty.LR(a:Ty):(Ty.agg (.Y a.V)).bytes=(Ty.agg a).bytes:=by simp only[Ty.bytes,Ty.dT]
def DT(K:Nat)(t:Ty)(n:Nat):Prop:=n<=maxLen/\n*t.bytes<=K
def mG(t:Ty)(n:Nat):Prop:=n<=maxLen/\n*t.bytes<=140737488355328
def gy(t:Ty):mG t 0:=⟨aB _,by omega⟩
def yq(K:Nat)(t:Ty):DT K t 0:=⟨aB _,by omega⟩
def mG.mono{t:Ty}{n m:Nat}(h:mG t n)(a:m<=n):mG t m:=⟨aY a h.1,aY (aw _ a) h.2⟩
def kL(k:IntKind)(n:Int):Prop:=k.min<=n/\n<=k.max
instance (k:IntKind) (n:Int):Decidable (kL k n):=inferInstanceAs (Decidable (_/\_))
def yZ(K:Nat):Ty->(D->Prop)×(Tah->Prop)
 |.int k=>(fun d=>∃n,d=.int k n/\kL k n,fun _=>False)
 |.bool=>(fun d=>∃b,d=.bool b,fun _=>False)
 |.str=>(fun d=>∃s,d=.str s,fun _=>False)
 |.list t=>(fun d=>∃l,d=.list l/\DT K t l.length/\∀x∈l,(yZ K t).1 x,fun _=>False)
 |.agg fs=>(fun d=>∃l,d=.agg l/\(yZ K fs).2 l,fun _=>False)
 |.fa fs=>(fun d=>∃l,d=.fa l/\(yZ K fs).2 l,fun _=>False)
 |.box fs=>(fun d=>∃l,d=.ptr l/\(yZ K fs).2 l,fun _=>False)
 |.ptr fs=>(fun d=>d=.gv\/∃l,d=.ptr l/\(yZ K fs).2 l,fun _=>False)
 |.fn f fs=>(fun d=>∃l,d=.fn f l/\(yZ K fs).2 l,fun _=>False)
 |.nil=>(fun _=>False,fun l=>l=[])
 |.cons h t=>(fun _=>False,fun l=>∃a r,l=a::r/\(yZ K h).1 a/\(yZ K t).2 r)
def qi(K:Nat)(t:Ty)(d:D):Prop:=(yZ K t).1 d
def pM(K:Nat)(t:Ty)(l:Tah):Prop:=(yZ K t).2 l
def Has(t:Ty)(d:D):Prop:=(yZ 140737488355328 t).1 d
def dr(t:Ty)(l:Tah):Prop:=(yZ 140737488355328 t).2 l
def ni{K K':Nat}(h:K<=K'):∀(t:Ty),(∀d,qi K t d->qi K' t d)/\∀l,pM K t l->pM K' t l
 |.int _| .bool| .str=>⟨fun _ h=>h,fun _ h=>h⟩
 |.nil=>⟨fun _ h=>h,fun _ h=>h⟩
 |.list t=>⟨fun _ ⟨l,c,b,h3⟩=>⟨l,c,⟨b.1,aY b.2 h⟩,fun x e=>(ni h t).1 x (h3 x e)⟩,fun _ h=>h⟩
 |.agg t| .fa t| .box t| .fn _ t=>⟨fun _ ⟨l,c,b⟩=>⟨l,c,(ni h t).2 l b⟩,fun _ h=>h⟩
 |.ptr t=>⟨fun _ g=>g.elim .inl fun⟨l,c,b⟩=>.inr ⟨l,c,(ni h t).2 l b⟩,fun _ h=>h⟩
 |.cons a t=>⟨fun _ h=>h,fun _ ⟨x,r,c,b,h3⟩=>⟨x,r,c,(ni h a).1 x b,(ni h t).2 r h3⟩⟩
section
variable{d:D}{l:Tah}{k:IntKind}{t h:Ty}{f:Nat}
def dm:Has (.int k) d↔∃n,d=.int k n/\kL k n:=dt
def dg:Has .bool d↔∃b,d=.bool b:=dt
def mP:Has .str d↔∃s,d=.str s:=dt
def bO:Has (.list t) d↔∃l,d=.list l/\mG t l.length/\∀x∈l,Has t x:=dt
def eA:Has (.agg t) d↔∃l,d=.agg l/\dr t l:=dt
def Rx:Has (.fa t) d↔∃l,d=.fa l/\dr t l:=dt
def ia:Has (.box t) d↔∃l,d=.ptr l/\dr t l:=dt
def kX:Has (.ptr t) d↔d=.gv\/∃l,d=.ptr l/\dr t l:=dt
def lI:Has (.fn f t) d↔∃l,d=.fn f l/\dr t l:=dt
def dk:dr .nil l↔l=[]:=dt
def aA:dr (.cons h t) l↔∃a r,l=a::r/\Has h a/\dr t r:=dt
end
def gh:∀{t:Ty} {l:Tah},dr t l->l.length=t.V.length
 |.nil,l,h=>by rw[dk.1 h];rfl
 |.cons a b,l,h=>by obtain⟨x,r,rfl,_,c⟩:=aA.1 h;simp[Ty.V,gh c]
 |.int _,_,h| .bool,_,h| .str,_,h| .list _,_,h| .agg _,_,h| .fa _,_,h| .box _,_,h| .ptr _,_,h| .fn _ _,_,h=>h.elim
def dh:∀{t:Ty} {l:Tah},dr t l->∀(j:Nat) u,t.V[j]?=some u->∃x,l[j]?=some x/\Has u x
 |.nil,l,h,j,u,hj=>by simp[Ty.V]at hj
 |.cons a b,l,h,j,u,hj=>by
  obtain⟨x,r,rfl,c,e⟩:=aA.1 h;cases j with
  |zero=>simp[Ty.V]at hj;subst hj;exact⟨x,rfl,c⟩
  |succ j=>exact dh e j u (by simpa [Ty.V]using hj)
 |.int _,_,h,_,_,_| .bool,_,h,_,_,_| .str,_,h,_,_,_| .list _,_,h,_,_,_| .agg _,_,h,_,_,_| .fa _,_,h,_,_,_| .box _,_,h,_,_,_| .ptr _,_,h,_,_,_| .fn _ _,_,h,_,_,_=>h.elim
def jd:∀{ts:Tam} {l:Tah},l.length=ts.length->(∀(j:Nat) u x,ts[j]?=some u->l[j]?=some x->Has u x)->dr (Ty.Y ts) l
 |[],l,hl,_=>dk.2 (an (by simpa using hl))
 |t::ts,[],hl,_=>by simp at hl
 |t::ts,x::l,hl,h=>aA.2 ⟨x,l,rfl,h 0 t x rfl rfl,jd (by simpa using hl) fun j u y b a=>h (j+1) u y (by simpa using b) (by simpa using a)⟩
def cZ{t:Ty}{d:D}(h:Has t d):d.cells.length=t.cells.length/\∀(j:Nat) u,t.cells[j]?=some u->∃x,d.cells[j]?=some x/\Has u x:=by
 by_cases e:∃g,t=.agg g
 .obtain⟨g,rfl⟩:=e;obtain⟨l,rfl,i⟩:=eA.1 h;exact⟨gh i,dh i⟩
 have m:t.cells=[t]:=by cases t<;>first|rfl|exact absurd ⟨_,rfl⟩ e
 have o:d.cells=[d]:=by
  cases t with
  |agg g=>exact absurd ⟨_,rfl⟩ e
  |int k=>obtain⟨n,rfl,_⟩:=dm.1 h;rfl
  |bool=>obtain⟨n,rfl⟩:=dg.1 h;rfl
  |str=>obtain⟨n,rfl⟩:=mP.1 h;rfl
  |list t=>obtain⟨n,rfl,_⟩:=bO.1 h;rfl
  |fa t=>obtain⟨n,rfl,_⟩:=Rx.1 h;rfl
  |box t=>obtain⟨n,rfl,_⟩:=ia.1 h;rfl
  |ptr t=>rcases kX.1 h with rfl|⟨n,rfl,_⟩<;>rfl
  |fn f t=>obtain⟨n,rfl,_⟩:=lI.1 h;rfl
  |nil=>exact h.elim
  |cons a b=>exact h.elim
 rw[m,o];refine⟨rfl,fun j u c=>?_⟩;cases j with
 |zero=>simp at c;subst c;exact⟨d,rfl,h⟩
 |succ j=>simp at c
abbrev bG:=Nat->Taj
inductive bV (w:Tan) (S:bG):Tao->D->Prop
 |int (k:IntKind) (n:Int):bV w S (.int k n) (.int k n)
 |bool (b:Bool):bV w S (.bool b) (.bool b)
 |str (s:ByteArray):bV w S (.string s) (.str s)
 |agg (cs:Tad) (ds:Tah) (hl:cs.length=ds.length) (h:∀(i:Nat) v d,cs[i]?=some v->ds[i]?=some d->bV w S v d):bV w S (.agg cs.toArray) (.agg ds)
 |fa (cs:Tad) (ds:Tah) (hl:cs.length=ds.length) (h:∀(i:Nat) v d,cs[i]?=some v->ds[i]?=some d->bV w S v d):bV w S (.tuple cs.toArray) (.fa ds)
 |gv:bV w S (.pointer none) .gv
 |ptr (b:Nat) (cs:Tad) (ds:Tah) (hl:cs.length=ds.length) (hS:∀i,i<ds.length->S b i) (hc:∀(i:Nat) v,cs[i]?=some v->w.cell? ⟨b,i,none⟩=some v)
   (h:∀(i:Nat) v d,cs[i]?=some v->ds[i]?=some d->bV w S v d):bV w S (.pointer (some ⟨b,0,none⟩)) (.ptr ds)
 |nil (a:Tap Addr) (cap:Nat):bV w S (.slice a 0 cap) (.list [])
 |list (b off cap sz:Nat) (xs:Tad) (ds:Tah) (Vl:0<sz) (uf:ds≠[]) (rq:ds.length<=cap) (hl:xs.length=ds.length*sz)
   (hS:∀i,i<xs.length->S b (off+i)) (hc:∀(i:Nat) v,xs[i]?=some v->w.cell? ⟨b,off+i,none⟩=some v)
   (hw:∀(i:Nat) d,ds[i]?=some d->d.cells.length=sz)
   (h:∀(i:Nat) d (j:Nat) v c,ds[i]?=some d->d.cells[j]?=some c->xs[i*sz+j]?=some v->bV w S v c):bV w S (.slice (some ⟨b,off,none⟩) ds.length cap) (.list ds)
 |fn (f:Nat) (cs:Tad) (ds:Tah) (hl:cs.length=ds.length) (h:∀(i:Nat) v d,cs[i]?=some v->ds[i]?=some d->bV w S v d):bV w S (.func (.func f) #[] cs.toArray) (.fn f ds)
def bV.keep{w w':Tan}{S S':bG}{v:Tao}{d:D}(j:∀b o,S b o->S' b o)(g:∀b o,S b o->w'.cell? ⟨b,o,none⟩=w.cell? ⟨b,o,none⟩)(h:bV w S v d):bV w' S' v d:=by
 induction h with
 |int k n=>exact .int k n
 |bool b=>exact .bool b
 |str s=>exact .str s
 |agg cs ds hl _ ih=>exact .agg cs ds hl ih
 |fa cs ds hl _ ih=>exact .fa cs ds hl ih
 |gv=>exact .gv
 |ptr b cs ds hl hs hc _ ih=>
  refine .ptr b cs ds hl (fun i c=>j _ _ (hs i c)) (fun i v e=>?_) ih;have c:i<cs.length:=(aD.1 e).1;rw[g _ _ (hs i (by omega))];exact hc i v e
 |nil a cap=>exact .nil a cap
 |list b off cap sz xs ds Vl uf rq hl hs hc hw _ ih=>
  refine .list b off cap sz xs ds Vl uf rq hl (fun i c=>j _ _ (hs i c)) (fun i v e=>?_) hw ih;have c:i<xs.length:=(aD.1 e).1;rw[g _ _ (hs i c)];exact hc i v e
 |fn f cs ds hl _ ih=>exact .fn f cs ds hl ih
section
variable{w:Tan}{S:bG}{v:Tao}{l:Tah}{k:IntKind}{n:Int}
def bV.dj(h:bV w S v (.int k n)):v=.int k n:=by cases h;rfl
def bV.gV{b:Bool}(h:bV w S v (.bool b)):v=.bool b:=by cases h;rfl
def bV.Ec{b:ByteArray}(h:bV w S v (.str b)):v=.string b:=by cases h;rfl
def bV.zt(h:bV w S v (.agg l)):∃a:Tad,v=.agg a.toArray/\a.length=l.length/\∀(i:Nat) u d,a[i]?=some u->l[i]?=some d->bV w S u d:=by cases h with|agg a _ hl h=>exact⟨a,rfl,hl,h⟩
def bV.xf{f:Nat}(h:bV w S v (.fn f l)):∃a:Tad,v=.func (.func f) #[] a.toArray/\a.length=l.length/\∀(i:Nat) u d,a[i]?=some u->l[i]?=some d->bV w S u d:=by cases h with|fn _ a _ hl h=>exact⟨a,rfl,hl,h⟩
def bV.qu(h:bV w S v (.ptr l)):∃(b:Nat) (cs:Tad),v=.pointer (some ⟨b,0,none⟩)/\cs.length=l.length/\(∀i,i<l.length->S b i)/\(∀(i:Nat) u,cs[i]?=some u->w.cell? ⟨b,i,none⟩=some u)/\
  ∀(i:Nat) u d,cs[i]?=some u->l[i]?=some d->bV w S u d:=by cases h with|ptr b cs _ hl hs hc h=>exact⟨b,cs,rfl,hl,hs,hc,h⟩
def bV.rT(h:bV w S v .gv):v=.pointer none:=by cases h;rfl
def bV.pQ(h:bV w S v (.list l)):∃a cap,v=.slice a l.length cap:=by
 cases h with
 |nil a cap=>exact⟨a,cap,rfl⟩
 |list b off cap=>exact⟨_,cap,rfl⟩
def bV.FW(h:bV w S v (.list l)){i:Nat}{d:D}(o:l[i]?=some d):∃(b off e:Nat) (u:Tak),v=.slice (some ⟨b,off,none⟩) l.length e/\
  ∀(j:Nat) c,d.cells[j]?=some c->S b (off+i*d.cells.length+j)/\w.cell? ⟨b,off+i*d.cells.length+j,none⟩=some (u j)/\bV w S (u j) c:=by
 cases h with
 |nil a e=>simp at o
 |list b off e sz xs _ Vl uf rq hl hs hc hw h=>
  have g:=hw i d o;have p:i<l.length:=(aD.1 o).1;refine⟨b,off,e,fun j=>xs.getD (i*sz+j) undef,rfl,fun j c r=>?_⟩;have s:j<d.cells.length:=(aD.1 r).1
  have m:i*sz+j<xs.length:=by have:(i+1)*sz<=l.length*sz:=aw _ p;rw[cq]at this;omega
  have q:xs[i*sz+j]?=some (xs.getD (i*sz+j) undef):=by simp[List.getD,m]
  rw[g,fu];exact⟨hs _ m,hc _ _ q,h i d j _ c o r q⟩
end
inductive U where
 |not|neg (k:IntKind)|len|cell (j:Nat)|part (off n:Nat)|agg|fa|qg|fnc (f:Nat)|zU|SH (k:IntKind)
 deriving DecidableEq
inductive B where
 |add (k:IntKind)|sub (k:IntKind)|mul (k:IntKind)|rem (k:IntKind)|quo (k:IntKind)
 |lt|le|gt|ge|eq|ne|and|or|beq|idx|cat|take|drop|min (k:IntKind)|max (k:IntKind)|xor (k:IntKind)|has
 deriving DecidableEq
inductive E where
 |var (i:Nat)|aU (k:IntKind) (n:Int)|eQ (b:Bool)|BR (s:ByteArray)|gv
 |nil|cons (h t:E)
 |un (o:U) (e:E)|bin (o:B) (a b:E)|ite (c a b:E)
 deriving DecidableEq,Inhabited
def U.den:U->D->D
 |.not,d=>.bool (!d.Z)
 |.neg k,d=>.int k (k.wrap (0-d.J))
 |.len,d=>.int i64 d.V.length
 |.cell j,d=>d.V.getD j .top
 |.part off n,d=>.agg ((d.V.drop off).take n)
 |.agg,d=>.agg d.V
 |.fa,d=>.fa d.V
 |.qg,d=>.ptr d.V
 |.fnc f,d=>.fn f d.V
 |.zU,d=>.bool d.iL
 |.SH k,d=>.int k (k.wrap d.J)
def H2(k:IntKind)(x y:Int):Int:=k.wrap ((BitVec.ofInt k.bits x ^^^ BitVec.ofInt k.bits y).toNat)
def B.den:B->D->D->D
 |.add k,x,y=>.int k (k.wrap (x.J+y.J))
 |.sub k,x,y=>.int k (k.wrap (x.J-y.J))
 |.mul k,x,y=>.int k (k.wrap (x.J*y.J))
 |.rem k,x,y=>.int k (x.J.tmod y.J)
 |.quo k,x,y=>.int k (k.wrap (x.J.tdiv y.J))
 |.lt,x,y=>.bool (decide (x.J<y.J))
 |.le,x,y=>.bool (decide (x.J<=y.J))
 |.gt,x,y=>.bool (decide (x.J>y.J))
 |.ge,x,y=>.bool (decide (x.J≥y.J))
 |.eq,x,y=>.bool (x.J==y.J)
 |.ne,x,y=>.bool (x.J !=y.J)
 |.and,x,y=>.bool (x.Z&&y.Z)
 |.or,x,y=>.bool (x.Z||y.Z)
 |.beq,x,y=>.bool (x.Z==y.Z)
 |.idx,x,y=>x.V.getD y.J.toNat .top
 |.cat,x,y=>.list (x.V++y.V)
 |.take,x,y=>.list (x.V.take y.J.toNat)
 |.drop,x,y=>.list (x.V.drop y.J.toNat)
 |.min k,x,y=>.int k (if y.J<x.J then y.J else x.J)
 |.max k,x,y=>.int k (if y.J>x.J then y.J else x.J)
 |.xor k,x,y=>.int k (H2 k x.J y.J)
 |.has,x,y=>.bool (x.V.any fun z=>z.YF y)
def den(ρ:Nat->D):E->D
 |.var i=>ρ i
 |.aU k n=>.int k n
 |.eQ b=>.bool b
 |.BR s=>.str s
 |.gv=>.gv
 |.nil=>.list []
 |.cons h t=>.list (den ρ h::(den ρ t).V)
 |.un o e=>o.den (den ρ e)
 |.bin o a b=>o.den (den ρ a) (den ρ b)
 |.ite c a b=>if(den ρ c).Z then den ρ a else den ρ b
def E.lt(n:Nat):E->Bool
 |.var i=>i<n
 |.aU .. | .eQ _| .BR _| .gv| .nil=>true
 |.cons h t=>h.lt n&&t.lt n
 |.un _ e=>e.lt n
 |.bin _ a b=>a.lt n&&b.lt n
 |.ite c a b=>c.lt n&&a.lt n&&b.lt n
def fy{α:Type}(ρ:Nat->α)(i:Nat)(d:α):Nat->α:=fun j=>if j=i then d else ρ j
def dX{a:Type}(ρ:Nat->a)(i:Nat)(d:a):fy ρ i d i=d:=by simp[fy]
def fh{a:Type}(ρ:Nat->a){i j:Nat}(d:a)(h:j≠i):fy ρ i d j=ρ j:=by simp[fy,h]
def dN{ρ j:Nat->D}{n:Nat}(h:∀i,i<n->j i=ρ i):∀{e:E},e.lt n=true->den j e=den ρ e:=by
 intro e
 induction e with
 |var i=>intro g;exact h i (by simpa [E.lt]using g)
 |aU|eQ|BR|gv|nil=>intro _;rfl
 |cons a b pF pE=>intro g;simp only[E.lt,aP]at g;simp only[den,pF g.1,pE g.2]
 |un o e ih=>intro g;simp only[E.lt]at g;simp only[den,ih g]
 |bin o a b pF pE=>intro g;simp only[E.lt,aP]at g;simp only[den,pF g.1,pE g.2]
 |ite c a b Kl pF pE=>intro g;simp only[E.lt,aP]at g;simp only[den,Kl g.1.1,pF g.1.2,pE g.2]
def E.Y:List E->E
 |[]=>.nil
 |h::t=>.cons h (E.Y t)
def fR(ρ:Nat->D)(l:List E):den ρ (E.Y l)=.list (l.map (den ρ)):=by
 induction l with
 |nil=>rfl
 |cons h t ih=>simp[E.Y,den,ih,D.V]
structure Va(P:Tba)(T:Tbb)(kt:Ty):Prop where
 ex:∃k e,P.underlying T=some (.map k e)/\P.underlying e=some .bool/\(∀w,(zeroValue e).run P w=.ok (.bool false) w)/\Maps.Keyed P k/\
  ∀(w:Tan) (S:bG) v d,bV w S v d->Has kt d->∃kl,keyOf P k v=some kl
 inj:∀(w w':Tan) (S S':bG) v v' d d',bV w S v d->bV w' S' v' d'->Has kt d->Has kt d'->D.YF d d'=true->v=v'
 ajR:∀(w w':Tan) (S S':bG) v d d',bV w S v d->bV w' S' v d'->Has kt d->Has kt d'->D.YF d d'=true
structure vA(P:Tba)(w:Tan)(b:Nat)(T:Tbb)(kt:Ty)(l:Tah):Prop where
 key:Va P T kt
 own:∃k e n,∃D0:DataW Unit,P.underlying T=some (.map k e)/\w.ownsMap P k (plainElem P e) b n D0/\n<=l.length/\(∀x∈l,Has kt x)/\
  ∀(w':Tan) (S:bG) v d kl,bV w' S v d->Has kt d->keyOf P k v=some kl->D0.atKey kl (.lit (.bool false))=.lit (.bool (l.any fun z=>z.YF d))
def vA.lt{P:Tba}{w:Tan}{b:Nat}{T:Tbb}{a:Ty}{l:Tah}(h:vA P w b T a l):b<w.heap.size:=by obtain⟨_,_,_,_,_,c,_⟩:=h.own;exact c.lt
def vA.congr{P:Tba}{w w':Tan}{b:Nat}{T:Tbb}{c:Ty}{l:Tah}(h:vA P w b T c l)(d:w'.heap[b]?=w.heap[b]?):vA P w' b T c l:=by obtain⟨k,e,n,o,j,⟨m,a,i,g⟩,f⟩:=h.own;exact⟨h.key,k,e,n,o,j,⟨m,a,d.trans i,g⟩,f⟩
def uU{P:Tba}{e:Tbb}(a:P.underlying e=some .bool){v:Tao}{z:DataW Unit×List MemPlace}(h:plainElem P e v=some z):∃x,v=.bool x/\z=(.lit (.bool x),[]):=by
 unfold plainElem at h;rw[a]at h;cases v<;>simp at h
 exact⟨_,rfl,h.symm⟩
def vA.lookup{P:Tba}{w:Tan}{b:Nat}{T:Tbb}{j:Ty}{l:Tah}(h:vA P w b T j l){w':Tan}{S:bG}{v:Tao}{d:D}(m:bV w' S v d)(o:Has j d):
  (Instr.lookup T (.map (some b)) v false).run P w=.ok (.bool (l.any fun z=>z.YF d)) w:=by obtain⟨k,e,n,J,p,y,H,G,t⟩:=h.own;obtain⟨F,I,a,q,C,B,A⟩:=h.key.ex;rw[p]at a;injection a with a;injection a with a i;subst a;subst i;obtain⟨r,f⟩:=A w' S v d m o;obtain⟨u,E,c,s⟩:=y.lookup B p (C w) (plainElem_bool q false) f;obtain⟨x,rfl,g⟩:=uU q s;rw[t w' S v d r m o f]at g;simp only[ae,DataW.lit.injEq,Lit.bool.injEq]at g;rw[c,g.1]
abbrev Tag:=Nat×Nat
def BN(j:Nat):Bool:=decide (1000<=j)
def Tag.ex(g:Tag):Bool:=BN g.2
inductive SC where
 |gz (e:E) (t:Ty)
 |od (t:Ty)
 |own (g:Tag) (e:E) (t:Ty)
 |clip (e:E) (t:Ty)
 |qa (id off:Nat)
 |zP (l i:E) (t:Ty) (off:Nat)
 |zJ (e:E) (fs:Ty) (off:Nat)
 |xo (g:Tag) (t:Ty)
 |wQ (g:Tag) (i:E) (t:Ty) (off:Nat)
 |Dt (id:Nat)
 |G9
 |uj (e:E) (kt:Ty) (T:Tbb)
 deriving DecidableEq
def mapOf:List SC->Tap (E×Ty×Tbb)
 | [.uj e kt T]=>some (e,kt,T)
 |_=>none
inductive SV where
 |one (c:SC)
 |agg (l:List SC)
 |fa (l:List (Bool×List SC))
 deriving DecidableEq
abbrev dJ:=List (E×Bool)
def aV(ρ:Nat->D)(c:dJ):Bool:=c.all fun x=>(den ρ x.1).Z==x.2
structure St where
 tm:Nat->Tap (dJ×SV)
 hp:Nat->Tap (Bool×List SC)
 live:Tag->Tap (E×Tbb×Ty)
structure Gh where
 S:bG
 β:Nat->Nat
 τ:Tag->Tao
def Ty.scalar:Ty->Bool
 |.int _| .bool| .str| .list _| .box _| .ptr _| .fn _ _=>true
 |_=>false
def SC.scalar:SC->Bool
 |.gz _ t=>t.scalar
 |_=>true
def SC.lt(n:Nat):SC->Bool
 |.gz e _| .own _ e _| .zJ e _ _| .clip e _=>e.lt n
 |.zP l i _ _=>l.lt n&&i.lt n
 |.wQ _ i _ _=>i.lt n
 |.uj e _ _=>e.lt n
 |.od _| .qa .. | .xo .. | .Dt _| .G9=>true
def SV.lt(n:Nat):SV->Bool
 |.one c=>c.lt n
 |.agg l=>l.all (SC.lt n)
 |.fa l=>l.all fun x=>x.2.all (SC.lt n)
structure Cx where
 ρ:Nat->D
 N:Nat
 M:Taj
def qO(C:Cx)(w:Tan)(G:Gh):SC->Tao->Prop
 |.gz e t,v=>e.lt C.N=true/\bV w G.S v (den C.ρ e)/\Has t (den C.ρ e)
 |.od _,v=>v=.slice none 0 0
 |.own g e t,v=>C.M g.1/\e.lt C.N=true/\bV w G.S v (den C.ρ e)/\Has (.list t) (den C.ρ e)/\v=G.τ g
 |.clip e t,v=>e.lt C.N=true/\bV w G.S v (den C.ρ e)/\Has (.list t) (den C.ρ e)/\∃a,v=.slice a (den C.ρ e).V.length (den C.ρ e).V.length
 |.qa id off,v=>C.M id/\v=.pointer (some ⟨G.β id,off,none⟩)
 |.zP l i t off,v=>l.lt C.N=true/\i.lt C.N=true/\∃(b o:Nat) (u:Tak),v=.pointer (some ⟨b,o+off,none⟩)/\Has t (den C.ρ (.bin .idx l i))/\
   ∀(j:Nat) c,(den C.ρ (.bin .idx l i)).cells[j]?=some c->G.S b (o+j)/\w.cell? ⟨b,o+j,none⟩=some (u j)/\bV w G.S (u j) c
 |.zJ e fs off,v=>e.lt C.N=true/\∃(b:Nat) (l:Tah) (u:Tak),den C.ρ e=.ptr l/\dr fs l/\v=.pointer (some ⟨b,off,none⟩)/\
   ∀(j:Nat) c,l[j]?=some c->G.S b j/\w.cell? ⟨b,j,none⟩=some (u j)/\bV w G.S (u j) c
 |.xo g _,v=>C.M g.1/\v=G.τ g/\∃a n d,v=.slice a n d
 |.wQ g i t off,v=>C.M g.1/\i.lt C.N=true/\∃b d n,G.τ g=.slice (some ⟨b,0,none⟩) n d/\0<=(den C.ρ i).J/\(den C.ρ i).J.toNat<n/\
   v=.pointer (some ⟨b,(den C.ρ i).J.toNat*t.cells.length+off,none⟩)
 |.Dt id,v=>C.M id/\v=.map (some (G.β id))
 |.G9,v=>v=.map none\/v=.nilFunc
 |.uj ..,_=>False
def jK(C:Cx)(w:Tan)(G:Gh)(l:List SC)(vs:Tad):Prop:=
 vs.length=l.length/\∀(i:Nat) c v,l[i]?=some c->vs[i]?=some v->qO C w G c v
def lC(C:Cx)(w:Tan)(G:Gh)(x:Bool×List SC)(v:Tao):Prop:=
 if x.1 then∃a:Tad,v=.agg a.toArray/\jK C w G x.2 a else∃c,x.2=[c]/\qO C w G c v
def wP(C:Cx)(w:Tan)(G:Gh):SV->Tao->Prop
 |.one c,v=>qO C w G c v
 |.agg l,v=>∃a:Tad,v=.agg a.toArray/\jK C w G l a
 |.fa l,v=>∃a:Tad,v=.tuple a.toArray/\a.length=l.length/\∀(i:Nat) x u,l[i]?=some x->a[i]?=some u->lC C w G x u
structure dO(C:Cx)(w:Tan)(G:Gh)(C':Cx)(w':Tan)(G':Gh):Prop where
 den:∀e:E,e.lt C.N=true->dG.den C'.ρ e=dG.den C.ρ e/\e.lt C'.N=true
 M:∀i,C.M i->C'.M i
 S:∀b o,G.S b o->G'.S b o
 cell:∀b o,G.S b o->w'.cell? ⟨b,o,none⟩=w.cell? ⟨b,o,none⟩
 β:∀i,C.M i->G'.β i=G.β i
 τ:∀g:Tag,C.M g.1->G'.τ g=G.τ g
section
variable{C C':Cx}{w w':Tan}{G G':Gh}{v:Tao}
def qO.later(h:dO C w G C' w' G'):∀{c:SC},qO C w G c v->qO C' w' G' c v
 |.gz e t,⟨h1,h2,h3⟩=>by obtain⟨d,f⟩:=h.den e h1;exact⟨f,d▸h2.keep h.S h.cell,d▸h3⟩
 |.od _,hv=>hv
 |.own g e t,⟨hm,h1,h2,h3,k⟩=>by obtain⟨d,f⟩:=h.den e h1;exact⟨h.M _ hm,f,d▸h2.keep h.S h.cell,d▸h3,by rw[h.τ g hm];exact k⟩
 |.clip e t,⟨h1,h2,h3,a,k⟩=>by obtain⟨d,f⟩:=h.den e h1;exact⟨f,d▸h2.keep h.S h.cell,d▸h3,a,by rw[d];exact k⟩
 |.qa id off,⟨hm,hv⟩=>⟨h.M _ hm,by rw[h.β id hm];exact hv⟩
 |.zP l i t off,⟨hl,hi,b,o,u,hv,ht,hc⟩=>by have d:dG.den C'.ρ (.bin .idx l i)=dG.den C.ρ (.bin .idx l i):=(h.den (.bin .idx l i) (by simp[E.lt,hl,hi])).1;refine⟨(h.den l hl).2,(h.den i hi).2,b,o,u,hv,d▸ht,fun j c m=>?_⟩;rw[d]at m;obtain⟨f,k,p⟩:=hc j c m;exact⟨h.S _ _ f,by rw[h.cell _ _ f];exact k,p.keep h.S h.cell⟩
 |.zJ e fs off,⟨he,b,l,u,h1,h2,hv,hc⟩=>by refine⟨(h.den e he).2,b,l,u,by rw[(h.den e he).1];exact h1,h2,hv,fun j c m=>?_⟩;obtain⟨f,k,p⟩:=hc j c m;exact⟨h.S _ _ f,by rw[h.cell _ _ f];exact k,p.keep h.S h.cell⟩
 |.xo g t,⟨hm,hv,hsl⟩=>⟨h.M _ hm,by rw[h.τ g hm];exact hv,hsl⟩
 |.wQ g i t off,⟨hm,hi,b,cap,n,h1,h2,h3,d⟩=>⟨h.M _ hm,(h.den i hi).2,b,cap,n,by rw[h.τ g hm];exact h1,by rw[(h.den i hi).1];exact h2,by rw[(h.den i hi).1];exact h3,by rw[(h.den i hi).1];exact d⟩
 |.Dt id,⟨hm,hv⟩=>⟨h.M _ hm,by rw[h.β id hm];exact hv⟩
 |.G9,hv=>hv
 |.uj ..,hv=>hv.elim
def jK.later(h:dO C w G C' w' G'){l:List SC}{vs:Tad}(a:jK C w G l vs):jK C' w' G' l vs:=
 ⟨a.1,fun i c v d b=>(a.2 i c v d b).later h⟩
def lC.later(h:dO C w G C' w' G'){x:Bool×List SC}(a:lC C w G x v):lC C' w' G' x v:=by
 unfold lC at*;split
 .rename_i b;rw[if_pos b]at a;obtain⟨f,e,d⟩:=a;exact⟨f,e,d.later h⟩
 rename_i b;rw[if_neg b]at a;obtain⟨c,e,d⟩:=a;exact⟨c,e,d.later h⟩
def wP.later(h:dO C w G C' w' G'):∀{s:SV},wP C w G s v->wP C' w' G' s v
 |.one _,hr=>qO.later h hr
 |.agg _,⟨vs,h1,h2⟩=>⟨vs,h1,h2.later h⟩
 |.fa _,⟨vs,h1,h2,h3⟩=>⟨vs,h1,h2,fun i x u a b=>(h3 i x u a b).later h⟩
def dO.refl(C:Cx)(w:Tan)(G:Gh):dO C w G C w G:=⟨fun _ h=>⟨rfl,h⟩,fun _ h=>h,fun _ _ h=>h,fun _ _ _=>rfl,fun _ _=>rfl,fun _ _=>rfl⟩
def dO.trans{d:Cx}{a:Tan}{c:Gh}(h:dO C w G C' w' G')(k:dO C' w' G' d a c):dO C w G d a c where
 den e he:=by obtain⟨m,l⟩:=h.den e he;obtain⟨j,f⟩:=k.den e l;exact⟨j.trans m,f⟩
 M i hi:=k.M i (h.M i hi)
 S b o hs:=k.S b o (h.S b o hs)
 cell b o hs:=(k.cell b o (h.S b o hs)).trans (h.cell b o hs)
 β i hi:=(k.β i (h.M i hi)).trans (h.β i hi)
 τ g hg:=(k.τ g (h.M _ hg)).trans (h.τ g hg)
def bV.iH{w:Tan}{S:bG}{d:D}{t:Ty}(h:bV w S v d)(a:Has t d)(hs:t.scalar=true):v.oneCell'=true:=by
 cases h<;>first
  |rfl
  |(cases t<;>simp[Ty.scalar]at hs<;>simp[dm,dg,mP,bO,ia,kX,lI]at a)
def qO.iH{c:SC}(h:qO C w G c v)(hs:c.scalar=true):v.oneCell'=true:=by
 cases c with
 |gz e t=>exact h.2.1.iH h.2.2 hs
 |od t=>simp only[qO]at h;subst h;rfl
 |own g e t=>exact h.2.2.1.iH h.2.2.2.1 rfl
 |clip e t=>exact h.2.1.iH h.2.2.1 rfl
 |qa id off=>obtain⟨_,rfl⟩:=h;rfl
 |zP l i t off=>obtain⟨_,_,b,o,u,rfl,_⟩:=h;rfl
 |zJ e fs off=>obtain⟨_,b,l,u,_,_,rfl,_⟩:=h;rfl
 |xo g t=>obtain⟨_,_,a,n,d,rfl⟩:=h;rfl
 |wQ g i t off=>obtain⟨_,_,b,d,n,_,_,_,rfl⟩:=h;rfl
 |Dt id=>obtain⟨_,rfl⟩:=h;rfl
 |G9=>simp only[qO]at h;rcases h with rfl|rfl<;>rfl
 |uj e kt T=>exact h.elim
def bV.Of{w:Tan}{S:bG}{d:D}{b:Ty}(h:bV w S v d)(e:Has (.agg b) d):∃l:Tah,d=.agg l/\dr b l/\∃a:Tad,v=.agg a.toArray/\a.length=l.length/\
  ∀(i:Nat) u c,a[i]?=some u->l[i]?=some c->bV w S u c:=by obtain⟨l,rfl,f⟩:=eA.1 e;obtain⟨a,k,j,g⟩:=h.zt;exact⟨l,rfl,f,a,k,j,g⟩
end
def jD(P:Tba)(C:Cx)(w:Tan)(G:Gh)(b:Nat)(cs:List SC):Prop:=
 match mapOf cs with
 |some (e,kt,T)=>e.lt C.N=true/\Has (.list kt) (den C.ρ e)/\vA P w b T kt (den C.ρ e).V
 |none=>∃(a:Tad) (T:Tbb),w.heap[b]?=some (.cells a.toArray T (0,0))/\jK C w G cs a
def jD.cells{P:Tba}{C:Cx}{w:Tan}{G:Gh}{b:Nat}{cs:List SC}(h:jD P C w G b cs)(a:mapOf cs=none):∃(vs:Tad) (T:Tbb),w.heap[b]?=some (.cells vs.toArray T (0,0))/\jK C w G cs vs:=by unfold jD at h;rw[a]at h;exact h
def jD.mk{P:Tba}{C:Cx}{w:Tan}{G:Gh}{b:Nat}{cs:List SC}{vs:Tad}{T:Tbb}(h:w.heap[b]?=some (.cells vs.toArray T (0,0)))(a:jK C w G cs vs):jD P C w G b cs:=by
 unfold jD;split
 .rename_i e d f c;unfold mapOf at c;split at c
  .cases hl:vs with
   |nil=>have:=a.1;rw[hl]at this;simp at this
   |cons v Qa=>exact(a.2 0 _ v rfl (by rw[hl];rfl)).elim
  cases c
 exact⟨vs,T,h,a⟩
def jD.later{P:Tba}{C C':Cx}{w w':Tan}{G G':Gh}{b:Nat}{cs:List SC}(a:dO C w G C' w' G')(h:jD P C w G b cs)(g:w'.heap[b]?=w.heap[b]?):jD P C' w' G' b cs:=by
 unfold jD at*;split
 .rename_i e m T c;rw[c]at h;obtain⟨f,d,k⟩:=h;obtain⟨i,l⟩:=a.den e f;exact⟨l,by rw[i];exact d,by rw[i];exact k.congr g⟩
 rename_i c;rw[c]at h;obtain⟨j,T,f,d⟩:=h;exact⟨j,T,by rw[g];exact f,d.later a⟩
def jD.lt{P:Tba}{C:Cx}{w:Tan}{G:Gh}{b:Nat}{cs:List SC}(h:jD P C w G b cs):b<w.heap.size:=by
 unfold jD at h;split at h
 .exact h.2.2.lt
 obtain⟨c,T,a,_⟩:=h;exact(aI.1 a).1
structure iY(C:Cx)(w:Tan)(base:Nat)(G:Gh)(g:Tag)(e:E)(T:Tbb)(t:Ty):Prop where
 m:C.M g.1
 lt:e.lt C.N=true
 has:Has (.list t) (den C.ρ e)
 own:∃xs l,den C.ρ e=.list l/\w.ownsRow base T t.cells.length (G.τ g) l.length xs/\(∀b,(G.τ g).ownBlock=some b->∀o,G.S b o↔g.ex=false/\o<xs.length)/\
  ∀(i:Nat) d (j:Nat) v c,l[i]?=some d->d.cells[j]?=some c->xs[i*t.cells.length+j]?=some v->bV w G.S v c
structure gw where
 jx:bG
 mu:Taj
 qc:Nat->Tal
 fr:Prop
 wz:Prop
 prog:Tba:=default
 Ze:List Deferred:=[]
structure fZ(mu:Taj)(w w':Tan):Prop where
 os:w'.os=w.os
 tape:w'.tape=w.tape
 output:w'.output=w.output
 size:w.heap.size<=w'.heap.size
 block:∀k,k<w.heap.size->¬mu k->w'.heap[k]?=w.heap[k]?
def fZ.refl(mu:Taj)(w:Tan):fZ mu w w:=⟨rfl,rfl,rfl,aM _,fun _ _ _=>rfl⟩
def fZ.trans{mu:Taj}{a b c:Tan}(h:fZ mu a b)(k:fZ mu b c):fZ mu a c:=
 ⟨k.os.trans h.os,k.tape.trans h.tape,k.output.trans h.output,aY h.size k.size,fun i e d=>(k.block i (ar e h.size) d).trans (h.block i e d)⟩
def fZ.of{mu:Taj}{w w':Tan}(h:Below w.heap.size w w'):fZ mu w w':=⟨h.os,h.tape,h.output,h.size,fun k a _=>h.block k a⟩
def fZ.to{mu:Taj}{w w':Tan}(h:fZ mu w w')(a:∀b,¬mu b):Below w.heap.size w w':=⟨h.os,h.tape,h.output,h.size,fun k c=>h.block k c (a k)⟩
def fZ.alloc{mu:Taj}{a w:Tan}(h:fZ mu a w)(o:Obj):fZ mu a (w.alloc o):=
 h.trans ⟨rfl,rfl,rfl,by simp,fun k b _=>Below.heap_alloc _ _ _ b⟩
def fZ.drew{mu:Taj}{a w:Tan}(h:fZ mu a w):fZ mu a {w with drawn:=w.drawn+1}:=⟨h.os,h.tape,h.output,h.size,h.block⟩
def jg(w0:Tan)(S0:gw)(b:Nat):Prop:=w0.heap.size<=b\/S0.mu b
def Hh(w0:Tan)(S0:gw)(b:Nat):Prop:=w0.heap.size<=b\/S0.mu b/\∃i,S0.qc i=some b
def mi(X:Taj):Tao->Prop
 |.int _ _=>True
 |.bool _=>True
 |.string _=>True
 |.slice a n _=>n=0\/∃b o,a=some ⟨b,o,none⟩/\X b
 |_=>False
def mi.mono{X Y:Taj}(h:∀b,X b->Y b){v:Tao}(a:mi X v):mi Y v:=by
 cases v<;>first
  |exact a
  |(rcases a with a|⟨b,o,d,c⟩
    .exact .inl a
    exact .inr ⟨b,o,d,h b c⟩)
def Oh(z:Taj)(w:Tan)(S:bG)(X:Taj):Prop:=∀b,X b->z b/\(∃o,S b o)/\(∃a T,w.heap[b]?=some (.cells a T (0,0)))/\∀o v,S b o->w.cell? ⟨b,o,none⟩=some v->mi X v
def zj(z:Taj)(w:Tan)(S:bG)(b:Nat):Prop:=∃X,Oh z w S X/\X b
def zi(z:Taj)(w:Tan)(S:bG)(v:Tao):Prop:=∀a n b,v=.slice a n b->mi (zj z w S) v
def zj.set(z:Taj)(w:Tan)(S:bG):Oh z w S (zj z w S):=by rintro b ⟨X,hX,a⟩;obtain⟨g,f,d,e⟩:=hX b a;exact⟨g,f,d,fun o v hs c=>(e o v hs c).mono fun b a=>⟨X,hX,a⟩⟩
def zj.mono{z:Taj}{w w':Tan}{S S':bG}(i:∀b o,S b o->w'.heap[b]?=w.heap[b]?)(n:∀b o,S b o->S' b o)(c:∀b o,S' b o->(∃k,S b k)->S b o){b:Nat}(h:zj z w S b):zj z w' S' b:=by obtain⟨X,m,l⟩:=h;refine⟨X,fun j e=>?_,l⟩;obtain⟨r,⟨g,f⟩,p,q⟩:=m j e;refine⟨r,⟨g,n _ _ f⟩,by rw[i _ _ f];exact p,fun o v hs d=>?_⟩;have a:=c j o hs ⟨g,f⟩;exact q o v a (by rw[<-d];simp only[World.cell?,i _ _ a])
def zi.mono{z:Taj}{w w':Tan}{S S':bG}(g:∀b o,S b o->w'.heap[b]?=w.heap[b]?)(j:∀b o,S b o->S' b o)(c:∀b o,S' b o->(∃e,S b e)->S b o){v:Tao}(h:zi z w S v):zi z w' S' v:=
 fun a n d f=>(h a n d f).mono fun _ i=>i.mono g j c
def zi.Zg{z f:Taj}{w:Tan}{S:bG}{v:Tao}(h:zi z w S v)(i:∀b,z b->f b):zi f w S v:=fun a n e j=>(h a n e j).mono fun b d=>by obtain⟨X,k,d⟩:=d;exact⟨X,fun g c=>by obtain⟨p,o,m,l⟩:=k g c;exact⟨i g p,o,m,l⟩,d⟩
def zi.nilIface{z:Taj}{w:Tan}{S:bG}:zi z w S .nilIface:=fun _ _ _ h=>by cases h
structure eU(w0:Tan)(S0:gw)(C:Cx)(G:Gh)(σ:St)(w:Tan):Prop where
 below:fZ S0.mu w0 w
 jB:∀b o,S0.jx b o->G.S b o
 keep:∀b o,S0.jx b o->w.cell? ⟨b,o,none⟩=w0.cell? ⟨b,o,none⟩
 qc:∀i b,S0.qc i=some b->C.M i/\G.β i=b
 kN:∀i b,S0.qc i=some b->True
 dP:∀b o,G.S b o->b<w.heap.size
 gL:∀b o,G.S b o->S0.jx b o\/jg w0 S0 b
 mC:∀id x,σ.hp id=some x->C.M id
 box:∀id ro cs,σ.hp id=some (ro,cs)->Hh w0 S0 (G.β id)/\(cs.all SC.scalar=true)/\jD S0.prog C w G (G.β id) cs/\
  (if ro then∀o,o<cs.length->G.S (G.β id) o else∀o,¬G.S (G.β id) o)
 inj:∀i j x y,σ.hp i=some x->σ.hp j=some y->G.β i=G.β j->i=j
 own:∀g e T t,σ.live g=some (e,T,t)->iY C w 0 G g e T t
 fS:∀g x b,σ.live g=some x->(G.τ g).ownBlock=some b->jg w0 S0 b
 jr:∀g g' x y b,σ.live g=some x->σ.live g'=some y->(G.τ g).ownBlock=some b->(G.τ g').ownBlock=some b->g=g'
 eO:∀g id x y b,σ.live g=some x->σ.hp id=some y->(G.τ g).ownBlock=some b->b≠G.β id
 fresh:S0.fr->∀g,zi (jg w0 S0) w G.S (G.τ g)
 wz:S0.wz->∀b o,G.S b o->∃cur T,w.heap[b]?=some (.cells cur T (0,0))
def eU.Wi{w0:Tan}{S0:gw}{C:Cx}{G:Gh}{σ:St}{w:Tan}(h:eU w0 S0 C G σ w){b:Nat}(a:Hh w0 S0 b):jg w0 S0 b:=by
 rcases a with a|⟨c,_⟩
 .exact .inl a
 exact .inr c
def iD(C:Cx)(w:Tan)(G:Gh)(tm:Nat->Tap (dJ×SV))(a:Act):Prop:=
 ∀t c s,tm t=some (c,s)->∃v,a.tmps[t]?=some v/\(∀x∈c,x.1.lt C.N=true)/\s.lt C.N=true/\(if aV C.ρ c then wP C w G s v else v=undef)
structure gG(n:Nat)(w0:Tan)(S0:gw)(C:Cx)(G:Gh)(σ:St)(a:Act)(w:Tan):Prop where
 m:eU w0 S0 C G σ w
 t:iD C w G σ.tm a
 sz:a.tmps.size=n
 defers:a.defers=S0.Ze
def GP{C C':Cx}{w w':Tan}{G G':Gh}(h:dO C w G C' w' G'){c:dJ}(b:∀x∈c,x.1.lt C.N=true):aV C'.ρ c=aV C.ρ c:=by
 unfold aV;rw[cT,bU,bU];constructor
 .intro H x a;rw[<-(h.den x.1 (b x a)).1];exact H x a
 intro H x a;rw[(h.den x.1 (b x a)).1];exact H x a
def SC.rS{C C':Cx}{w w':Tan}{G G':Gh}(h:dO C w G C' w' G'){c:SC}(a:c.lt C.N=true):c.lt C'.N=true:=by
 cases c<;>simp only[SC.lt,aP]at a⊢
 all_goals first|trivial|exact(h.den _ a).2|exact⟨(h.den _ a.1).2,(h.den _ a.2).2⟩
def SV.rS{C C':Cx}{w w':Tan}{G G':Gh}(h:dO C w G C' w' G'){s:SV}(hs:s.lt C.N=true):s.lt C'.N=true:=by
 cases s<;>simp only[SV.lt,bU]at hs⊢
 .exact SC.rS h hs
 .exact fun c a=>SC.rS h (hs c a)
 exact fun x b c a=>SC.rS h (hs x b c a)
def iD.later{C C':Cx}{w w':Tan}{G G':Gh}{tm:Nat->Tap (dJ×SV)}{a:Act}(h:dO C w G C' w' G')(g:iD C w G tm a):iD C' w' G' tm a:=by
 intro t c s hs;obtain⟨v,i,e,j,b⟩:=g t c s hs;refine⟨v,i,fun x f=>(h.den _ (e x f)).2,SV.rS h j,?_⟩;rw[GP h e];split
 .rename_i d;rw[if_pos d]at b;exact b.later h
 rename_i d;rw[if_neg d]at b;exact b
def iD.put{C:Cx}{w:Tan}{G:Gh}{tm:Nat->Tap (dJ×SV)}{a:Act}(g:iD C w G tm a)(d:Tal)(v:Tao)(c:dJ)(s:SV)(k:∀x∈c,x.1.lt C.N=true)(f:s.lt C.N=true)(j:if aV C.ρ c then wP C w G s v else v=undef)(e:∀i,d=some i->i<a.tmps.size):
  iD C w G (match d with|some i=>fy tm i (some (c,s))|none=>tm) (a.put d v):=by
 cases d with
 |none=>exact g
 |some i=>
  intro t n h hs;by_cases b:t=i
  .subst b;simp only[dX,aa,ae]at hs;obtain⟨rfl,rfl⟩:=hs;exact⟨v,by simp[Act.put,e t rfl],k,f,j⟩
  simp only[fh _ _ b]at hs;obtain⟨u,m,l⟩:=g t n h hs;exact⟨u,by simp only[Act.put];rw[Array.getElem?_setIfInBounds_ne (Ne.symm b)];exact m,l⟩
def Cx.add(C:Cx)(p:Nat):Cx:={C with M:=fun i=>C.M i\/i=p}
section
variable{C:Cx}{w w0:Tan}{G:Gh}{S0:gw}{σ:St}{p:Nat}
def dO.pg(C:Cx)(w:Tan)(G:Gh)(p:Nat):dO C w G (C.add p) w G:=
 ⟨fun _ h=>⟨rfl,h⟩,fun _ h=>.inl h,fun _ _ h=>h,fun _ _ _=>rfl,fun _ _=>rfl,fun _ _=>rfl⟩
def iY.rep{base:Nat}{g:Tag}{e:E}{T:Tbb}{t:Ty}(h:iY C w base G g e T t)(m:0<t.cells.length)(n:g.ex=false:=by rfl):bV w G.S (G.τ g) (den C.ρ e):=by
 obtain⟨r,l,q,j,z,u⟩:=h.own;rw[q];obtain⟨x,y⟩:=j;rcases y with⟨hv,hn⟩|⟨b,cap,cur,hv,hb,hg,Mf,YM,GZ,tW⟩
 .have:l=[]:=an hn;subst this;rw[hv];exact .nil none 0
 have a:=h.has;rw[q]at a;obtain⟨A,c,_,s⟩:=bO.1 a;injection c with c;subst c;by_cases k:l=[]
 .subst k;rw[hv];exact .nil _ cap
 rw[hv];refine .list b 0 cap t.cells.length r l m k Mf x (fun i f=>?_) (fun i v f=>?_) (fun i d o=>?_) u
 .rw[aq];exact(z b (by rw[hv];rfl) i).2 ⟨n,f⟩
 .rw[aq,cell_of_row w b i cur T (0,0) hg];rw[<-tW,aC]at f;split at f
  .simpa using f
  cases f
 exact(cZ (s d (bT o))).1
def iY.later{D:Cx}{w':Tan}{z:Gh}{base:Nat}{g:Tag}{e:E}{T:Tbb}{t:Ty}(a:dO C w G D w' z)(h:iY C w base G g e T t)(r:∀b,(G.τ g).ownBlock=some b->w'.heap[b]?=w.heap[b]?)(L:∀b,(G.τ g).ownBlock=some b->∀o,z.S b o->G.S b o):iY D w' base z g e T t:=by
 obtain⟨B,u⟩:=a.den e h.lt;have q:=a.τ g h.m;refine⟨a.M _ h.m,u,B▸h.has,?_⟩;obtain⟨F,l,J,f,k,H⟩:=h.own;refine⟨F,l,B.trans J,?_,?_,fun i d j v c P O N=>(H i d j v c P O N).keep a.S a.cell⟩
 .rw[q];refine⟨f.1,?_⟩;rcases f.2 with I|⟨b,y,x,A,s,K,n⟩
  .exact .inl I
  exact .inr ⟨b,y,x,A,s,by rw[r b (by rw[A];rfl)];exact K,n⟩
 intro b s o;rw[q]at s;rw[<-k b s o];exact⟨L b s o,a.S b o⟩
def iY.gu{base:Nat}{g:Tag}{e:E}{T:Tbb}{t:Ty}(h:iY C w base G g e T t):∀b,(G.τ g).ownBlock=some b->base<=b/\b<w.heap.size:=by obtain⟨c,l,_,a,_⟩:=h.own;exact a.lt
def eU.pg(h:eU w0 S0 C G σ w)(p:Nat):eU w0 S0 (C.add p) G σ w where
 below:=h.below
 jB:=h.jB
 keep:=h.keep
 qc i b hi:=⟨.inl (h.qc i b hi).1,(h.qc i b hi).2⟩
 kN:=h.kN
 dP:=h.dP
 gL:=h.gL
 mC id x hx:=.inl (h.mC id x hx)
 box id ro cs hx:=by obtain⟨f,d,c,a⟩:=h.box id ro cs hx;exact⟨f,d,c.later (dO.pg C w G p) rfl,a⟩
 inj:=h.inj
 own g e T t hx:=(h.own g e T t hx).later (dO.pg C w G p) (fun _ _=>rfl) (fun _ _ _ h=>h)
 fS:=h.fS
 jr:=h.jr
 eO:=h.eO
 fresh:=h.fresh
 wz:=h.wz
def eU.lS{d:Cx}{w':Tan}{c:Gh}(h:eU w0 S0 C G σ w)(a:dO C w G d w' c):∀b o,S0.jx b o->w'.cell? ⟨b,o,none⟩=w0.cell? ⟨b,o,none⟩:=
 fun b o hs=>(a.cell b o (h.jB b o hs)).trans (h.keep b o hs)
def eU.nb{e:Cx}{w':Tan}{d:Gh}(h:eU w0 S0 C G σ w)(a:dO C w G e w' d):∀i b,S0.qc i=some b->e.M i/\d.β i=b:=
 fun i b c=>⟨a.M i (h.qc i b c).1,(a.β i (h.qc i b c).1).trans (h.qc i b c).2⟩
def eU.mB{k:Cx}{w':Tan}{d:Gh}(h:eU w0 S0 C G σ w)(c:dO C w G k w' d)(e:d.τ=G.τ)(i:∀b o,G.S b o->w'.heap[b]?=w.heap[b]?)(a:∀b o,d.S b o->(∃f,G.S b f)->G.S b o):
  S0.fr->∀g,zi (jg w0 S0) w' d.S (d.τ g):=by intro j g;rw[e];exact(h.fresh j g).mono i c.S a
def eU.tn(h:eU w0 S0 C G σ w):w0.heap.size<=w.heap.size:=h.below.size
def eU.kS(h:eU w0 S0 C G σ w){id:Nat}{x:Bool×List SC}(a:σ.hp id=some x):G.β id<w.heap.size:=by obtain⟨_,_,b,_⟩:=h.box id x.1 x.2 a;exact b.lt
def eU.alloc(h:eU w0 S0 C G σ w)(hp:¬C.M p){cs:List SC}{vs:Tad}(E:jK C w G cs vs)(u:cs.all SC.scalar=true)(T:Tbb):
  dO C w G (C.add p) (w.alloc (.cells vs.toArray T)) {G with β:=fy G.β p w.heap.size}/\
  eU w0 S0 (C.add p) {G with β:=fy G.β p w.heap.size} {σ with hp:=fy σ.hp p (some (false,cs))} (w.alloc (.cells vs.toArray T)):=by
 have a:dO C w G (C.add p) (w.alloc (.cells vs.toArray T)) {G with β:=fy G.β p w.heap.size}:=
  ⟨fun _ h=>⟨rfl,h⟩,fun _ h=>.inl h,fun _ _ h=>h,fun b o hs=>World.cell?_alloc_lt w _ _ (h.dP b o hs),
   fun i m=>fh _ _ (fun e=>hp (e▸m)),fun _ _=>rfl⟩
 refine⟨a,?_⟩;have F:=h.tn
 refine⟨h.below.alloc _,h.jB,h.lS a,h.nb a,h.kN,fun b o hs=>by simpa using Nat.lt_succ_of_lt (h.dP b o hs),h.gL,?_,?_,?_,?_,h.fS,?_,?_,h.mB a rfl (fun b o hs=>Below.heap_alloc w _ _ (h.dP b o hs)) (fun _ _ h _=>h),fun D b o hs=>by obtain⟨v,T,n⟩:=h.wz D b o hs;exact⟨v,T,(Below.heap_alloc w _ _ (h.dP b o hs)).trans n⟩⟩
 .intro id x d;by_cases c:id=p
  .exact .inr c
  simp only[fh _ _ c]at d;exact .inl (h.mC id x d)
 .intro id B z d;by_cases c:id=p
  .subst c;simp only[dX,aa,ae]at d;obtain⟨rfl,rfl⟩:=d;refine⟨by simp only[dX];exact .inl F,u,jD.mk (vs:=vs) (T:=T) ?_ (E.later a),?_⟩
   .simp only[dX];exact heap_alloc_new w _
   simp only[dX,ai,if_false];intro o q;exact absurd (h.dP _ _ q) (by omega)
  simp only[fh _ _ c]at d;obtain⟨K,J,I,H⟩:=h.box id B z d;simp only[fh _ _ c];exact⟨K,J,I.later a (Below.heap_alloc w _ _ (h.kS d)),H⟩
 .intro i j x y m r s;by_cases k:i=p
  .by_cases f:j=p
   .rw[k,f]
   subst k;simp only[dX,fh _ _ f]at s r;have:=h.kS r;omega
  by_cases f:j=p
  .subst f;simp only[dX,fh _ _ k]at s m;have:=h.kS m;omega
  simp only[fh _ _ k,fh _ _ f]at s m r;exact h.inj i j x y m r s
 .intro g e L t d;have q:=h.own g e L t d;exact q.later a (fun b l=>Below.heap_alloc w _ _ (q.gu b l).2) (fun _ _ _ h=>h)
 .exact h.jr
 intro g id x y b d A l;by_cases c:id=p
 .subst c;simp only[dX];have:=((h.own g x.1 x.2.1 x.2.2 d).gu b l).2;omega
 simp only[fh _ _ c]at A⊢;exact h.eO g id x y b d A l
def eU.WG(h:eU w0 S0 C G σ w){id:Nat}{s cs:List SC}(f:σ.hp id=some (false,s))(E:mapOf s=none){vs:Tad}(P:jK C w G cs vs)(D:cs.all SC.scalar=true):
  dO C w G C (w.setRow (G.β id) vs.toArray) G/\eU w0 S0 C G {σ with hp:=fy σ.hp id (some (false,cs))} (w.setRow (G.β id) vs.toArray):=by
 obtain⟨z,_,v,l⟩:=h.box id false s f;obtain⟨M,T,S,_⟩:=v.cells E;simp only[ai,if_false]at l;have a:∀k,k≠G.β id->(w.setRow (G.β id) vs.toArray).heap[k]?=w.heap[k]? :=fun k F=>setRow_other w _ k _ F
 have c:dO C w G C (w.setRow (G.β id) vs.toArray) G:=
  ⟨fun _ h=>⟨rfl,h⟩,fun _ h=>h,fun _ _ h=>h,fun b o hs=>bj (a b (fun e=>l o (e▸hs))),fun _ _=>rfl,fun _ _=>rfl⟩
 refine⟨c,?_⟩
 refine⟨?_,h.jB,h.lS c,h.nb c,h.kN,fun b o hs=>by simpa using h.dP b o hs,h.gL,?_,?_,?_,?_,h.fS,h.jr,?_,h.mB c rfl (fun b o hs=>a b (fun e=>l o (e▸hs))) (fun _ _ h _=>h),fun O b o hs=>by obtain⟨H,T,u⟩:=h.wz O b o hs;exact⟨H,T,(a b (fun e=>l o (e▸hs))).trans u⟩⟩
 .refine⟨h.below.os,h.below.tape,h.below.output,by simpa using h.below.size,fun k F K=>(a k ?_).trans (h.below.block k F K)⟩;rintro rfl;rcases h.Wi z with z|z
  .omega
  exact K z
 .intro i x d;by_cases r:i=id
  .subst r;exact h.mC _ _ f
  simp only[fh _ _ r]at d;exact h.mC i x d
 .intro i N I d;by_cases r:i=id
  .subst r;simp only[dX,aa,ae]at d;obtain⟨rfl,rfl⟩:=d;refine⟨z,D,jD.mk (vs:=vs) (T:=T) (setRow_heap w _ _ _ T _ S) (P.later c),?_⟩;simp only[ai,if_false];exact l
  simp only[fh _ _ r]at d;obtain⟨Y,X,W,V⟩:=h.box i N I d;exact⟨Y,X,W.later c (a _ (fun e=>r (h.inj _ _ _ _ d f e))),V⟩
 .intro i j x y r R U
  have q:∀i x,(fy σ.hp id (some (false,cs))) i=some x->∃x',σ.hp i=some x':=by
   intro i x d;by_cases m:i=id
   .exact⟨_,m▸f⟩
   exact⟨x,by rw[fh _ _ m]at d;exact d⟩
  obtain⟨x',B⟩:=q i x r;obtain⟨L,A⟩:=q j y R;exact h.inj i j x' L B A U
 .intro g e Z t d;have Q:=h.own g e Z t d;exact Q.later c (fun b n=>a b (h.eO g id _ _ b d f n)) (fun _ _ _ h=>h)
 intro g i x y b d J n;by_cases m:i=id
 .subst m;exact h.eO g i x _ b d f n
 simp only[fh _ _ m]at J;exact h.eO g i x y b d J n
def eU.freeze(h:eU w0 S0 C G σ w){id:Nat}{ro:Bool}{cs:List SC}(d:σ.hp id=some (ro,cs))(D:mapOf cs=none):
  ∃u,dO C w G C w u/\eU w0 S0 C u {σ with hp:=fy σ.hp id (some (true,cs))} w/\(∀o,o<cs.length->u.S (G.β id) o)/\u.β=G.β/\u.τ=G.τ:=by
 obtain⟨J,B,r,l⟩:=h.box id ro cs d;obtain⟨L,T,P,N⟩:=r.cells D;have E:=h.kS d;refine⟨{G with S:=fun b o=>G.S b o\/(b=G.β id/\o<cs.length)},?_,?_,fun o f=>.inr ⟨rfl,f⟩,rfl,rfl⟩
 all_goals have c:dO C w G C w {G with S:=fun b o=>G.S b o\/(b=G.β id/\o<cs.length)}:=
  ⟨fun _ h=>⟨rfl,h⟩,fun _ h=>h,fun _ _ h=>.inl h,fun _ _ _=>rfl,fun _ _=>rfl,fun _ _=>rfl⟩
 .exact c
 refine⟨h.below,fun b o hs=>.inl (h.jB b o hs),h.keep,h.qc,h.kN,?_,?_,?_,?_,?_,?_,h.fS,h.jr,?_,h.mB c rfl (fun _ _ _=>rfl) ?_,fun M b o hs=>by
  rcases hs with hs|⟨rfl,_⟩
  .exact h.wz M b o hs
  exact⟨_,_,P⟩⟩
 rotate_right
 .rintro b o (hs|⟨rfl,f⟩) ⟨o',ho'⟩
  .exact hs
  cases ro with
  |true=>simp only[if_true]at l;exact l o f
  |false=>simp only[ai,if_false]at l;exact absurd ho' (l o')
 .rintro b o (hs|⟨rfl,_⟩)
  .exact h.dP b o hs
  exact E
 .rintro b o (hs|⟨rfl,_⟩)
  .exact h.gL b o hs
  exact .inr (h.Wi J)
 .intro i x a;by_cases q:i=id
  .subst q;exact h.mC _ _ d
  simp only[fh _ _ q]at a;exact h.mC i x a
 .intro i s H a;by_cases q:i=id
  .subst q;simp only[dX,aa,ae]at a;obtain⟨rfl,rfl⟩:=a;exact⟨J,B,r.later c rfl,by simp only[if_true];exact fun o f=>.inr ⟨trivial,f⟩⟩
  simp only[fh _ _ q]at a;obtain⟨U,R,Q,v⟩:=h.box i s H a;refine⟨U,R,Q.later c rfl,?_⟩;cases s with
  |true=>simp only[if_true]at v⊢;exact fun o f=>.inl (v o f)
  |false=>
   simp only[ai,if_false]at v⊢;rintro o (f|⟨F,_⟩)
   .exact v o f
   exact q (h.inj _ _ _ _ a d F)
 .intro i j x y q O F
  have n:∀i x,(fy σ.hp id (some (true,cs))) i=some x->∃x',σ.hp i=some x':=by
   intro i x a;by_cases k:i=id
   .exact⟨_,k▸d⟩
   exact⟨x,by rw[fh _ _ k]at a;exact a⟩
  obtain⟨x',A⟩:=n i x q;obtain⟨K,z⟩:=n j y O;exact h.inj i j x' K A z F
 .intro g e V t a;have f:=h.own g e V t a;refine f.later c (fun _ _=>rfl) (fun b m o hs=>?_);rcases hs with hs|⟨rfl,_⟩
  .exact hs
  exact absurd rfl (h.eO g id _ _ _ a d m)
 intro g i x y b a I m;by_cases k:i=id
 .subst k;exact h.eO g i x _ b a d m
 simp only[fh _ _ k]at I;exact h.eO g i x y b a I m
def eU.afU(h:eU w0 S0 C G σ w){g:Tag}{e e':E}{T:Tbb}{t:Ty}(hg:σ.live g=some (e,T,t))(a0:g.ex=true){live':Tag->Tap (E×Tbb×Ty)}(H:∀l x,live' l=some x->(l≠g/\σ.live l=some x)\/(l=g/\x=(e',T,t))){b n cap:Nat}{cur row:Tbe Tao}{l':Tah}(J:G.τ g=.slice (some ⟨b,0,none⟩) n cap)(L:w.heap[b]?=some (.cells cur T (0,0)))(W:row.size=cur.size)(a6:e'.lt C.N=true)(P:den C.ρ e'=.list l')(I:l'.length=n)(Z:Has (.list t) (den C.ρ e'))(a4:∀(i:Nat) d (j:Nat) v c,l'[i]?=some d->d.cells[j]?=some c->row[i*t.cells.length+j]?=some v->bV w G.S v c):
  dO C w G C (w.setRow b row) G/\eU w0 S0 C G {σ with live:=live'} (w.setRow b row):=by
 have Y:=h.own g e T t hg;obtain⟨xs,l0,b3,X,hS,hr⟩:=Y.own;have F:(G.τ g).ownBlock=some b:=by rw[J];rfl
 have K:∀o,¬G.S b o:=fun o hs=>by have:=(hS b F o).1 hs;rw[a0]at this;exact Bool.noConfusion this.1
 have a:∀k,k≠b->(w.setRow b row).heap[k]?=w.heap[k]? :=fun k hk=>setRow_other w _ k _ hk
 have f:dO C w G C (w.setRow b row) G:=
  ⟨fun _ h=>⟨rfl,h⟩,fun _ h=>h,fun _ _ h=>h,fun q o hs=>bj (a q (fun e=>K o (e▸hs))),fun _ _=>rfl,fun _ _=>rfl⟩
 have hb:jg w0 S0 b:=h.fS g _ b hg F
 have s:∀l x,live' l=some x->∃y,σ.live l=some y:=by
  intro l x A;rcases H l x A with⟨_,h2⟩|⟨rfl,_⟩
  .exact⟨_,h2⟩
  exact⟨_,hg⟩
 refine⟨f,?_⟩
 refine⟨?_,h.jB,h.lS f,h.nb f,h.kN,fun b o hs=>by simpa using h.dP b o hs,h.gL,h.mC,?_,h.inj,?_,?_,?_,?_,h.mB f rfl (fun q o hs=>a q (fun e=>K o (e▸hs))) (fun _ _ h _=>h),fun hz q o hs=>by obtain⟨M,T',Q⟩:=h.wz hz q o hs;exact⟨M,T',(a q (fun e=>K o (e▸hs))).trans Q⟩⟩
 .refine⟨h.below.os,h.below.tape,h.below.output,by simpa using h.below.size,fun k hk hm=>(a k ?_).trans (h.below.block k hk hm)⟩;rintro rfl;rcases hb with hb|hb
  .omega
  exact hm hb
 .intro i ro a8 A;obtain⟨h1,h2,R,h5⟩:=h.box i ro a8 A;exact⟨h1,h2,R.later f (a _ (Ne.symm (h.eO g i _ _ b hg A F))),h5⟩
 .intro l e1 T1 U A;rcases H l _ A with⟨uf,hl⟩|⟨rfl,hl⟩
  .have ho:=h.own l e1 T1 U hl;exact ho.later f (fun q r=>a q (fun e=>uf (h.jr l g _ _ q hl hg r (e▸F)))) (fun _ _ _ h=>h)
  simp only[ae]at hl;obtain⟨rfl,rfl,rfl⟩:=hl;obtain⟨a9,hh⟩:=X;rcases hh with⟨hv,_⟩|⟨q,He,M,hv,r,u,Mf,YM,GZ,tW⟩
  .rw[J]at hv;cases hv
  rw[J]at hv;injection hv with B b0 a2;injection B with B;injection B with B;subst B;subst a2;rw[L]at u;injection u with u;injection u with u;subst u;have a5:n<=cap:=by omega
  have b2:n*U.cells.length<=row.toList.length:=by simp only[fE];rw[W,GZ];exact aw _ a5
  have a3:(row.toList.take (n*U.cells.length)).length=n*U.cells.length:=by rw[aO];omega
  refine⟨Y.m,a6,Z,row.toList.take (n*U.cells.length),l',P,⟨by rw[a3,I],.inr ⟨b,cap,row,by rw[J,I],r,?_,by omega,YM,by rw[W];exact GZ,by rw[I]⟩⟩,?_,?_⟩
  .exact setRow_heap w _ _ _ _ _ L
  .intro b1 z o;have:b1=b:=by rw[F]at z;injection z with z;exact z.symm
   subst this;rw[a0];exact⟨fun hs=>(K o hs).elim,fun hs=>Bool.noConfusion hs.1⟩
  intro i d j v c h1 h2 R;refine(a4 i d j v c h1 h2 ?_).keep f.S f.cell;rw[aC]at R;split at R
  .simpa using R
  cases R
 .intro l x q A r;obtain⟨y,V⟩:=s l x A;exact h.fS l y q V r
 .intro g1 g2 x y q A V z a7;obtain⟨x',O⟩:=s g1 x A;obtain⟨y',a1⟩:=s g2 y V;exact h.jr g1 g2 x' y' q O a1 z a7
 intro l id x y q A V r;obtain⟨x',O⟩:=s l x A;exact h.eO l id x' y q O V r
end
def fL(b o j:Nat):(⟨b,o,none⟩:Addr).add j=⟨b,o+j,none⟩:=by unfold Addr.add;split<;>simp_all
section
variable{P:Tba}(w:Tan)
def jO(base:Nat)(t ty e:Tbb)(i:TypeInfo)(z:Tao)(size:Nat)(D:P.underlying t=some (.slice e))(F:P.info? e=some i)(O:i.zero=some z)(s:i.size=size)(L:z.cells.size=size)(v:Tao)(n:Nat)(xs:Tad)(b:w.ownsRow base e size v n xs)(A:Tap Addr)(m c:Nat)(news:Tad)(U:A=none->m=0)(x:news.length=m*size)(d:∀a,A=some a->∀(j:Nat) u,news[j]?=some u->w.cell? (a.add j)=some u)(V:∀u∈news,u.oneCell'=true)(I:n+m<=maxLen)(o:(n+m)*i.bytes<=140737488355328)(B:base<=w.heap.size):
  ∃J w',(Builtin.append_ #[t,t] ty #[v,.slice A m c]).run P w=.ok J w'/\w'.ownsRow base e size J (n+m) (xs++news)/\
   ((J.ownBlock=v.ownBlock/\w.grownBy w' v.ownBlock)\/(J.ownBlock=some w.heap.size/\w.grownBy w' none)):=by
 subst s;have K:n+m<=9223372036854775807:=by simp only[maxLen]at I;omega
 have l:(xs++news).length=(n+m)*i.size:=by rw[ah,b.1,x,cq]
 by_cases Q:m=0
 .subst Q;have S:news=[]:=an (by simpa using x);subst S;refine⟨v,w,?_,by simpa using b,.inl ⟨rfl,⟨rfl,rfl,rfl,aM _,fun _ _ _=>rfl⟩⟩⟩;rcases b.2 with⟨rfl,rfl⟩|⟨g,cap,cur,rfl,_,_,Mf,_⟩
  .cases A<;>simp[Builtin.append_,run_underlying D,sizeOf,typeInfo,F,Builtin.lenOf,Builtin.firstCells,loadCells,loadCellsFrom]
  cases A<;>simp[Builtin.append_,run_underlying D,sizeOf,typeInfo,F,Builtin.lenOf,Builtin.firstCells,Mf,storeCells,loadCells,loadCellsFrom]
 obtain⟨a,rfl⟩:∃a,A=some a:=by
  cases A with
  |none=>exact absurd (U rfl) Q
  |some a=>exact⟨a,rfl⟩
 have d:=d a rfl
 have r:∀(f:Nat),f<n+m->
   (w.drew.alloc (.cells (xs.toArray++news.toArray++Builtin.zeroCells z.cells (grownCap w (n+m) f e-(n+m))) e)).ownsRow base e i.size
    (.slice (some ⟨w.heap.size,0,none⟩) (n+m) (grownCap w (n+m) f e)) (n+m) (xs++news)/\
   w.grownBy (w.drew.alloc (.cells (xs.toArray++news.toArray++Builtin.zeroCells z.cells (grownCap w (n+m) f e-(n+m))) e)) none:=by
  intro f W;have N:=grownCap_ge w (n+m) f e;have y:grownCap w (n+m) f e<=maxLen:=grownCap_le_maxLen w (n+m) f e I;refine⟨⟨l,.inr ⟨w.heap.size,_,_,rfl,B,heap_alloc_new w.drew _,N,y,?_,?_⟩⟩,⟨rfl,rfl,rfl,by simp,fun k M _=>heap_alloc_old w.drew _ k M⟩⟩
  .simp only[Array.size_append,cb,size_zeroCells,L,b.1,x,<-cq];congr 1;omega
  simp only[Array.toList_append,cX];rw[<-cX,<-l];exact List.take_left
 rcases b.2 with⟨rfl,rfl⟩|⟨g,cap,cur,rfl,hbg,hg,Mf,y,GZ,tW⟩
 .have R:xs=[]:=an (by simpa using b.1);subst R;have E:=run_append_nil (P:=P) w t ty e i z D F O a m c news x d (by omega) (by omega) (by have T:=o;simp only[aq]at T;omega);have q:=r 0 (by omega);simp only[aq,eL,Array.empty_append]at q⊢;exact⟨_,_,E,q.1,.inr ⟨rfl,q.2⟩⟩
 by_cases h:n+m<=cap
 .have H:n*i.size+news.length<=cur.size:=by rw[x,GZ,<-cq];exact aw _ h
  have E:=run_append_room (P:=P) w t ty e i D F g n cap cur hg a m c news x d V h H;refine⟨_,_,E,⟨l,.inr ⟨g,cap,_,rfl,hbg,setRow_heap w g cur _ e _ hg,h,y,?_,?_⟩⟩,.inl ⟨rfl,⟨rfl,rfl,rfl,by simp,fun k _ M=>setRow_other w g k _ (fun e=>M (by simp[Value.ownBlock,e]))⟩⟩⟩
  .simp only[cb,ah,aO,bh,fE];omega
  rw[tW,<-l];exact List.take_left
 have holds:∀(j:Nat) u,xs[j]?=some u->w.cell? ((⟨g,0,none⟩:Addr).add j)=some u:=b.cells (g:=g) rfl;have E:=run_append_grow (P:=P) w t ty e i z D F O ⟨g,0,none⟩ n cap xs b.1 holds a m c news x d (by omega) (by omega) (growslice_fits (by omega) o);have q:=r cap (by omega);exact⟨_,_,E,q.1,.inr ⟨rfl,q.2⟩⟩
end
section
variable{C:Cx}{w w' w0:Tan}{G:Gh}{S0:gw}{σ:St}{p:Nat}
def iY.mono{base a:Nat}{g:Tag}{e:E}{T:Tbb}{t:Ty}(h:iY C w base G g e T t)(s:a<=base):iY C w a G g e T t:=by
 obtain⟨j,l,q,c,d⟩:=h.own;refine⟨h.m,h.lt,h.has,j,l,q,⟨c.1,?_⟩,d⟩;rcases c.2 with n|⟨b,i,f,k,r,o⟩
 .exact .inl n
 exact .inr ⟨b,i,f,k,by omega,o⟩
def eU.called(h:eU w0 S0 C G σ w)(Q:¬C.M p){S':bG}{τ':Tak}(s:Below w.heap.size w w')(H:∀b o,G.S b o->S' b o)(v:∀b o,S' b o->b<w'.heap.size)(m:∀b o,S' b o->G.S b o\/w.heap.size<=b)(live':Tag->Tap (E×Tbb×Ty))(J:Gh)(V:J={S:=S',β:=G.β,τ:=fun g=>if g.1=p then τ' g.2 else G.τ g})(c:∀g x,live' g=some x->(g.1≠p/\σ.live g=some x)\/(g.1=p/\iY (C.add p) w' w.heap.size J g x.1 x.2.1 x.2.2))(F:∀j k x y b,live' (p,j)=some x->live' (p,k)=some y->(τ' j).ownBlock=some b->(τ' k).ownBlock=some b->j=k)(L:S0.fr->∀j,zi (jg w0 S0) w' S' (τ' j))(K:¬S0.wz):
  dO C w G (C.add p) w' J/\eU w0 S0 (C.add p) J {σ with live:=live'} w':=by
 subst V;have n:∀k,k<w.heap.size->w'.heap[k]?=w.heap[k]? :=s.block
 have l:dO C w G (C.add p) w' {S:=S',β:=G.β,τ:=fun g=>if g.1=p then τ' g.2 else G.τ g}:=
  ⟨fun _ h=>⟨rfl,h⟩,fun _ h=>.inl h,H,fun b o hs=>bj (n b (h.dP b o hs)),fun _ _=>rfl,fun g R=>if_neg (fun e=>Q (by rw[<-e];exact R))⟩
 refine⟨l,?_⟩;have X:=h.tn;refine⟨h.below.trans (.of s),fun b o hs=>H b o (h.jB b o hs),h.lS l,h.nb l,h.kN,v,?_,fun id x q=>.inl (h.mC id x q),?_,h.inj,?_,?_,?_,?_,fun O g=>?_,fun h=>absurd h K⟩
 rotate_right
 .show zi (jg w0 S0) w' S' (if g.1=p then τ' g.2 else G.τ g);split
  .exact L O g.2
  exact(h.fresh O g).mono (fun b o hs=>n b (h.dP b o hs)) H (fun b o hs ⟨o',ho'⟩=>by
   rcases m b o hs with r|r
   .exact r
   have:=h.dP _ _ ho';omega)
 .intro b o hs;rcases m b o hs with i|i
  .exact h.gL b o i
  exact .inr (.inl (by omega))
 .intro id N W q;obtain⟨i,f,A,B⟩:=h.box id N W q;have v:=h.kS q;refine⟨i,f,A.later l (n _ v),?_⟩;cases N with
  |true=>simp only[if_true]at B⊢;exact fun o u=>H _ _ (B o u)
  |false=>
   simp only[ai,if_false]at B⊢;intro o u;rcases m _ _ u with r|r
   .exact B o r
   omega
 .intro g e T t q;rcases c g _ q with⟨i,f⟩|⟨i,f⟩
  .have u:=h.own g e T t f;refine u.later l (fun b z=>n b (u.gu b z).2) (fun b z o hs=>?_);rcases m b o hs with r|r
   .exact r
   have:=(u.gu b z).2;omega
  exact f.mono (aB _)
 .intro g x b q a;rcases c g _ q with⟨i,f⟩|⟨i,f⟩
  .simp only[if_neg i]at a;exact h.fS g x b f a
  exact .inl (by have:=(f.gu b a).1;omega)
 .intro g I x y b q D a d;rcases c g _ q with⟨i,f⟩|⟨i,f⟩<;>rcases c I _ D with⟨A,h4⟩|⟨A,h4⟩
  .simp only[if_neg i]at a;simp only[if_neg A]at d;exact h.jr g I x y b f h4 a d
  .simp only[if_neg i]at a;have B:=((h.own g x.1 x.2.1 x.2.2 f).gu b a).2;have r:=(h4.gu b d).1;omega
  .simp only[if_neg A]at d;have B:=((h.own I y.1 y.2.1 y.2.2 h4).gu b d).2;have r:=(f.gu b a).1;omega
  obtain⟨g1,j⟩:=g;obtain⟨g2,k⟩:=I;simp only at i A;subst i;subst A;simp only[if_true]at a d;rw[F j k x y b q D a d]
 intro g id x y b q D a;rcases c g _ q with⟨i,f⟩|⟨i,f⟩
 .simp only[if_neg i]at a;exact h.eO g id x y b f D a
 have r:=(f.gu b a).1;have Z:=h.kS D;intro U;have Y:b=G.β id:=U;omega
def eU.appended(h:eU w0 S0 C G σ w)(hp:¬C.M p)(q:Nat){v v':Tao}{T:Tbb}{t:Ty}{n m:Nat}{xs news:Tad}{l l2:Tah}{e2:E}(e6:0<t.cells.length)(b0:l.length=n)(f3:l2.length=m)(e5:∀(i:Nat) d (j:Nat) u c,l[i]?=some d->d.cells[j]?=some c->xs[i*t.cells.length+j]?=some u->bV w G.S u c)(f2:∀(i:Nat) d (j:Nat) u c,l2[i]?=some d->d.cells[j]?=some c->news[i*t.cells.length+j]?=some u->bV w G.S u c)(e4:∀d∈l,d.cells.length=t.cells.length)(hx:xs.length=n*t.cells.length)(Q:w'.ownsRow 0 T t.cells.length v' (n+m) (xs++news))(I:(v'.ownBlock=v.ownBlock/\w.grownBy w' v.ownBlock)\/(v'.ownBlock=some w.heap.size/\w.grownBy w' none))(live':Tag->Tap (E×Tbb×Ty))(K:v=.slice none 0 0\/∃g x,σ.live g=some x/\G.τ g=v/\live' g=none/\∀b,v.ownBlock=some b->(∀o,G.S b o↔Tag.ex (p,q)=false/\o<xs.length)/\∀o u,xs[o]?=some u->w.cell? ⟨b,o,none⟩=some u)(he:e2.lt C.N=true)(d7:den C.ρ e2=.list (l++l2))(d5:Has (.list t) (den C.ρ e2))(Z:∀g x,live' g=some x->(g≠(p,q)/\σ.live g=some x)\/(g=(p,q)/\x=(e2,T,t)))(d6:S0.fr->Tag.ex (p,q)=false/\(v=.slice none 0 0->∀u∈xs,mi (zj (jg w0 S0) w G.S) u)/\∀u∈news,mi (zj (jg w0 S0) w G.S) u)(f1:¬S0.wz):
  ∃G',dO C w G (C.add p) w' G'/\eU w0 S0 (C.add p) G' {σ with live:=live'} w'/\G'.τ (p,q)=v':=by
 have g0:=h.tn;have c3:(xs++news).length=(n+m)*t.cells.length:=Q.1
 have a7:∀b o,G.S b o->w'.cell? ⟨b,o,none⟩=w.cell? ⟨b,o,none⟩:=by
  intro b o hs;have d8:=h.dP b o hs;rcases I with⟨s,f⟩|⟨s,f⟩
  .by_cases a8:some b=v.ownBlock
   .rcases K with O|⟨g,x,hg,F,_,H⟩
    .rw[O]at a8;cases a8
    obtain⟨hf,hc⟩:=H b a8.symm;have X:=((hf o).1 hs).2;have c7:xs[o]?=some xs[o]:=aR X;have J:=Q.cells (g:=b) (s.trans a8.symm) o xs[o] (by rw[ak X];exact c7);rw[fL,aq]at J;rw[J,hc o _ c7]
   exact bj (f.block b d8 a8)
  exact bj (f.block b d8 (by simp))
 have b7:∀b,b<w.heap.size->v.ownBlock≠some b->w'.heap[b]?=w.heap[b]? :=by
  intro b a R;rcases I with⟨_,f⟩|⟨_,f⟩
  .exact f.block b a (fun e=>R e.symm)
  exact f.block b a (by simp)
 have d0:∀b,v.ownBlock=some b->jg w0 S0 b/\b<w.heap.size:=by
  intro b a;rcases K with O|⟨g,x,hg,F,_,_⟩
  .rw[O]at a;cases a
  rw[<-F]at a;exact⟨h.fS g x b hg a,((h.own g x.1 x.2.1 x.2.2 hg).gu b a).2⟩
 have a4:∀b,v'.ownBlock=some b->jg w0 S0 b:=by
  intro b a;rcases I with⟨s,_⟩|⟨s,_⟩
  .exact(d0 b (s▸a)).1
  rw[s]at a;injection a with a;exact .inl (by omega)
 have W:∀b,v'.ownBlock=some b->(v.ownBlock=some b\/b=w.heap.size):=by
  intro b a;rcases I with⟨s,_⟩|⟨s,_⟩
  .exact .inl (s▸a)
  rw[s]at a;injection a with a;exact .inr a.symm
 have e7:w.heap.size<=w'.heap.size:=by rcases I with⟨_,f⟩|⟨_,f⟩<;>exact f.size
 let G':Gh:={S:=fun b o=>G.S b o\/(Tag.ex (p,q)=false/\v'.ownBlock=some b/\o<(xs++news).length),β:=G.β,τ:=fun g=>if g.1=p then v' else G.τ g};have e3:∀g:Tag,C.M g.1->(if g.1=p then v' else G.τ g)=G.τ g:=fun g hg=>if_neg (fun e=>hp (by rw[<-e];exact hg));have L:dO C w G (C.add p) w' G':=⟨fun _ h=>⟨rfl,h⟩,fun _ h=>.inl h,fun _ _ h=>.inl h,a7,fun _ _=>rfl,e3⟩;refine⟨G',L,?_,if_pos rfl⟩;refine⟨?_,fun b o hs=>.inl (h.jB b o hs),h.lS L,h.nb L,h.kN,?_,?_,fun id x hx=>.inl (h.mC id x hx),?_,h.inj,?_,?_,?_,?_,fun hf g=>?_,fun h=>absurd h f1⟩
 rotate_right
 .obtain⟨hq,b5,c1⟩:=d6 hf
  .have c5:∀(o:Nat) u,xs[o]?=some u->mi (zj (jg w0 S0) w G.S) u:=by
    intro o u hu;have f0:o<xs.length:=(aD.1 hu).1;rcases K with O|⟨g1,x1,f5,F,_,H⟩
    .exact b5 O u (bT hu)
    have d3:=h.own g1 x1.1 x1.2.1 x1.2.2 f5;obtain⟨e1,l0,_,a5,f9,_⟩:=d3.own;rcases a5.2 with⟨hn,_⟩|⟨b1,ajU,ajS,hv1,hbb,_⟩
    .exact b5 (F▸hn) u (bT hu)
    have d4:v.ownBlock=some b1:=by rw[<-F,hv1];rfl
    obtain⟨f6,f8⟩:=H b1 d4;have d9:G.S b1 o:=(f6 o).2 ⟨hq,f0⟩;have J:=(f9 b1 (by rw[hv1];rfl) o).1 d9;have h4:=h.fresh hf g1 _ _ _ hv1;rw[hv1]at h4;rcases h4 with h4|⟨b2,o2,h5,A⟩
    .have h7:e1.length=l0.length*_:=a5.1;rw[h4,Nat.zero_mul]at h7;omega
    simp only[aa,Addr.mk.injEq]at h5;obtain⟨rfl,_⟩:=h5;exact(zj.set _ _ _ b1 A).2.2.2 o u d9 (f8 o u hu)
   have hX:Oh (jg w0 S0) w' G'.S (fun b=>zj (jg w0 S0) w G.S b\/(v'.ownBlock=some b/\0<(xs++news).length)):=by
    intro b a;by_cases r:v'.ownBlock=some b
    .have d2:0<(xs++news).length\/zj (jg w0 S0) w G.S b:=a.elim .inr (fun h=>.inl h.2)
     have c0:∃o,G'.S b o:=by
      rcases d2 with s|s
      .exact⟨0,.inr ⟨hq,r,s⟩⟩
      obtain⟨o,X⟩:=(zj.set _ _ _ b s).2.1;exact⟨o,.inl X⟩
     have f7:∃c4 T,w'.heap[b]?=some (.cells c4 T (0,0)):=by
      rcases Q.2 with⟨O,_⟩|⟨b2,cap,c4,O,_,YK,_⟩
      .rw[O]at r;cases r
      rw[O]at r;simp only[Value.ownBlock,aa]at r;subst r;exact⟨_,_,YK⟩
     refine⟨a4 b r,c0,f7,fun o u hs hu=>?_⟩
     have b4:o<(xs++news).length->mi (fun b=>zj (jg w0 S0) w G.S b\/(v'.ownBlock=some b/\0<(xs++news).length)) u:=by
      intro X;have J:=Q.cells (g:=b) r o (xs++news)[o] (aR X);rw[fL,aq,hu]at J;injection J with J;have h4:(xs++news)[o]?=some u:=by rw[J];exact aR X
      by_cases e8:o<xs.length
      .rw[ak e8]at h4;exact(c5 o u h4).mono fun b a=>.inl a
      rw[ay (by omega)]at h4;exact(c1 u (bT h4)).mono fun b a=>.inl a
     rcases hs with hs|⟨_,_,hs⟩
     .rcases W b r with A|A
      .rcases K with O|⟨g',x',a2,F,U,H⟩
       .rw[O]at A;cases A
       have:=((H b A).1 o).1 hs;exact b4 (by rw[ah];omega)
      have:=h.dP b o hs;omega
     exact b4 hs
    rcases a with a|⟨a,_⟩
    .obtain⟨s,⟨o1,f⟩,⟨e0,T0,h4⟩,J⟩:=zj.set _ _ _ b a
     have b9:w'.heap[b]?=w.heap[b]? :=by
      rcases I with⟨h5,A⟩|⟨_,A⟩
      .exact A.block b (h.dP b o1 f) (fun e=>r (h5.trans e.symm))
      exact A.block b (h.dP b o1 f) (by simp)
     refine⟨s,⟨o1,.inl f⟩,⟨e0,T0,b9.trans h4⟩,fun o u hs hu=>?_⟩;rcases hs with hs|⟨_,hs,_⟩
     .exact(J o u hs (by rw[<-a7 b o hs];exact hu)).mono fun b a=>.inl a
     exact absurd hs r
    exact absurd a r
   show zi (jg w0 S0) w' G'.S (if g.1=p then v' else G.τ g);split
   .intro a0 n0 b8 d1;rcases Q.2 with⟨O,_⟩|⟨b,cap,c4,O,_⟩
    .rw[O];exact .inl rfl
    rw[O];by_cases h0:n+m=0
    .exact .inl h0
    refine .inr ⟨b,0,rfl,_,hX,.inr ⟨by rw[O];rfl,?_⟩⟩;rw[c3];exact Nat.mul_pos (by omega) e6
   exact fun a0 n0 b8 d1=>(h.fresh hf g a0 n0 b8 d1).mono fun b a=>⟨_,hX,.inl a⟩
 .rcases I with⟨_,f⟩|⟨_,f⟩
  .refine⟨f.os.trans h.below.os,f.tape.trans h.below.tape,f.output.trans h.below.output,aY h.below.size f.size,fun k hk hm=>(f.block k (by omega) (fun e=>?_)).trans (h.below.block k hk hm)⟩;rcases (d0 k e.symm).1 with J|J
   .omega
   exact hm J
  exact h.below.trans ⟨f.os,f.tape,f.output,f.size,fun k hk _=>f.block k hk (by simp)⟩
 .rintro b o (hs|⟨_,a,_⟩)
  .have:=h.dP b o hs;omega
  exact(Q.lt b a).2
 .rintro b o (hs|⟨_,a,_⟩)
  .exact h.gL b o hs
  exact .inr (a4 b a)
 .intro id ro cs z;obtain⟨s,f,J,h5⟩:=h.box id ro cs z;have c2:=h.kS z
  have R:∀b,v.ownBlock=some b->b≠G.β id:=by
   intro b a;rcases K with O|⟨g,x,hg,F,_,_⟩
   .rw[O]at a;cases a
   rw[<-F]at a;exact h.eO g id x _ b hg z a
  refine⟨s,f,J.later L (b7 _ c2 (fun e=>R _ e rfl)),?_⟩;cases ro with
  |true=>simp only[if_true]at h5⊢;exact fun o X=>.inl (h5 o X)
  |false=>
   simp only[ai,if_false]at h5⊢;rintro o (X|⟨_,a,_⟩)
   .exact h5 o X
   rcases W _ a with A|A
   .exact R _ A rfl
   have h7:G.β id=w.heap.size:=A;omega
 .intro g e T' t' z;rcases Z g _ z with⟨s,f⟩|⟨s,f⟩
  .have X:=h.own g e T' t' f
   have b6:∀b,(G.τ g).ownBlock=some b->v.ownBlock≠some b:=by
    intro b a r;rcases K with O|⟨g',x,a2,F,U,_⟩
    .rw[O]at r;cases r
    rw[<-F]at r;have:=h.jr g g' _ x b f a2 a r;have c9:live' g=some (e,T',t'):=z;rw[this,U]at c9;cases c9
   refine X.later L (fun b a=>b7 b (X.gu b a).2 (b6 b a)) (fun b a o hs=>?_);rcases hs with hs|⟨_,hs,_⟩
   .exact hs
   rcases W b hs with A|A
   .exact absurd A (b6 b a)
   have:=(X.gu b a).2;omega
  subst s;simp only[ae]at f;obtain⟨rfl,rfl,rfl⟩:=f;refine⟨.inr rfl,he,d5,xs++news,l++l2,d7,?_,?_,?_⟩
  .show w'.ownsRow 0 T' t'.cells.length (if p=p then v' else _) _ _;rw[if_pos rfl,ah,b0,f3];exact Q
  .intro b a o;have b3:v'.ownBlock=some b:=by simpa [G']using a
   constructor
   .rintro(hs|⟨hq,_,hs⟩)
    .rcases W b b3 with A|A
     .rcases K with O|⟨g',x,a2,F,U,H⟩
      .rw[O]at A;cases A
      have:=((H b A).1 o).1 hs;rw[ah];exact⟨this.1,by omega⟩
     have:=h.dP b o hs;omega
    exact⟨hq,hs⟩
   intro X;exact .inr ⟨X.1,b3,X.2⟩
  intro i d j u c s f J;by_cases hi:i<l.length
  .rw[ak hi]at s;have hj:j<d.cells.length:=(aD.1 f).1;have hw:=e4 d (bT s)
   have c2:i*t'.cells.length+j<xs.length:=by rw[hx,<-b0];have:(i+1)*t'.cells.length<=l.length*t'.cells.length:=aw _ hi;rw[cq]at this;omega
   rw[ak c2]at J;exact(e5 i d j u c s f J).keep L.S L.cell
  rw[ay (by omega)]at s
  have f4:xs.length<=i*t'.cells.length+j:=by rw[hx,<-b0];exact aY (aw _ (by omega)) (cG _ _)
  rw[ay f4]at J;refine(f2 (i-l.length) d j u c s f ?_).keep L.S L.cell;rw[<-J,hx,<-b0,Nat.sub_mul];congr 1;have:l.length*t'.cells.length<=i*t'.cells.length:=aw _ (by omega);omega
 .intro g x b z B;rcases Z g _ z with⟨s,f⟩|⟨s,f⟩
  .have J:g.1≠p:=fun a6=>hp (a6▸(h.own g x.1 x.2.1 x.2.2 f).m);simp only[G',if_neg J]at B;exact h.fS g x b f B
  subst s;simp only[G',if_true]at B;exact a4 b B
 .intro g g' x y b z V B Y
  have a1:∀g x,g.1≠p\/g≠(p,q)->live' g=some x->σ.live g=some x:=by
   intro g x R hl;rcases Z g _ hl with⟨_,f⟩|⟨s,_⟩
   .exact f
   subst s;rcases R with R|R<;>exact absurd rfl R
  have a3:∀g x,g≠(p,q)->σ.live g=some x->live' g=some x->g.1≠p:=by intro g x _ hs _ a6;exact hp (a6▸(h.own g x.1 x.2.1 x.2.2 hs).m)
  have a9:∀g x,g≠(p,q)->live' g=some x->(G.τ g).ownBlock=some b->v'.ownBlock=some b->False:=by
   intro g x R hl a b3;have hs:=a1 g x (.inr R) hl;have X:=h.own g x.1 x.2.1 x.2.2 hs;rcases W b b3 with A|A
   .rcases K with O|⟨g',x',a2,F,U,_⟩
    .rw[O]at A;cases A
    rw[<-F]at A;have:=h.jr g g' _ x' b hs a2 a A;rw[this,U]at hl;cases hl
   have:=(X.gu b a).2;omega
  by_cases s:g=(p,q)<;>by_cases f:g'=(p,q)
  .rw[s,f]
  .subst s;have J:=a3 g' y f (a1 g' y (.inr f) V) V;simp only[G',if_true,if_neg J]at B Y;exact(a9 g' y f V Y B).elim
  .subst f;have J:=a3 g x s (a1 g x (.inr s) z) z;simp only[G',if_true,if_neg J]at B Y;exact(a9 g x s z B Y).elim
  have J:=a3 g x s (a1 g x (.inr s) z) z;have h4:=a3 g' y f (a1 g' y (.inr f) V) V;simp only[G',if_neg J,if_neg h4]at B Y;exact h.jr g g' x y b (a1 g x (.inr s) z) (a1 g' y (.inr f) V) B Y
 intro g id x y b z V B;rcases Z g _ z with⟨s,f⟩|⟨s,f⟩
 .have J:g.1≠p:=fun a6=>hp (a6▸(h.own g x.1 x.2.1 x.2.2 f).m);simp only[G',if_neg J]at B;exact h.eO g id x y b f V B
 subst s;simp only[G',if_true]at B;rcases W b B with A|A
 .rcases K with O|⟨g',x',a2,F,_,_⟩
  .rw[O]at A;cases A
  rw[<-F]at A;exact h.eO g' id x' _ b a2 V A
 have h7:=h.kS V;intro he;have h8:b=G.β id:=he;omega
end
abbrev bC:=Ty×Tap (Nat×Tbb)
structure Ob where
 shape:List Bool
 cC:List (List bC)
 outs:List (List bC)
 fresh:Bool
def Ob.wU(ob:Ob):Bool:=ob.shape.isEmpty&&ob.cC.isEmpty&&(ob.outs.length==2)
def Ob.mv(ob:Ob):Bool:=ob.fresh&&(ob.outs.length==ob.cC.length)
def Ob.new(ob:Ob):Bool:=ob.fresh&& !(ob.outs.length==ob.cC.length)
def Ob.DS{ob:Ob}(h:ob.mv=true):ob.new=false:=by unfold Ob.mv at h;unfold Ob.new;simp only[aP]at h;rw[h.1,h.2];rfl
structure dI where
 params:Tam
 res:List (Bool×List bC)
 ob:Tap Ob
structure Ay where
 ps:Tam
 t:Ty
 T:Tbb
 kt:Ty
 TM:Tbb
 nn:Tap (dI×Ty):=none
structure mJ where
 l:List (Nat×dI)
 ex:Tai
 fr:Nat
 mp:List (Tbb×Ty):=[]
 et:List (Nat×Ay):=[]
inductive Item where
 |I9 (pc:dJ) (b:Bool)
 |jY (pc:dJ) (e:E)
 |call (p f:Nat) (args:E) (pc:dJ)
 |room (pc:dJ) (e:E) (bytes:Nat)
def flat(P:Tba):Nat->Tbb->Tap (Tam)
 |0,_=>none
 |n+1,t=>
  match P.underlying t with
  |some (.int k)=>some [.int k]
  |some .bool=>some [.bool]
  |some .string=>some [.str]
  |some (.slice e)=>
   match P.underlying e,flat P n e with
   |some (.struct _),some l=>some [.list (.agg (.Y l))]
   |_,some [x]=>some [.list x]
   |_,_=>none
  |some (.pointer e)=>(flat P n e).map fun l=>[.ptr (.Y l)]
  |some (.struct fs)=>fs.toList.foldr (fun f acc=>match flat P n f.type,acc with|some a,some b=>some (a++b)|_,_=>none) (some [])
  |_=>none
def Fm:Nat:=8
def Fo:Nat:=12
def YQ(P:Tba)(t:Tbb):Tap Ty:=
 match P.underlying t,flat P Fo t with
 |some (.struct _),some l=>some (.agg (.Y l))
 |some _,some [x]=>some x
 |_,_=>none
def qp:Ty->Tao->Tap SC
 |.int k,.int k' n=>if k'=k/\kL k n then some (.gz (.aU k n) (.int k)) else none
 |.bool,.bool b=>some (.gz (.eQ b) .bool)
 |.str,.string s=>some (.gz (.BR s) .str)
 |.list t,.slice none 0 0=>some (.od t)
 |.ptr fs,.pointer none=>some (.gz .gv (.ptr fs))
 |_,_=>none
def BQ(P:Tba)(σ:St)(b:Tbb):Tbc->Tap (dJ×SV)
 |.tmp t=>σ.tm t
 |.const (.int k n)=>(qp (.int k) (.int k n)).map fun c=>([],.one c)
 |.const .nilFunc=>some ([],.one .G9)
 |.const v=>match YQ P b with
  |some t=>(qp t v).map fun c=>([],.one c)
  |none=>none
 |.func f=>some ([],.one (.gz (.un (.fnc f) .nil) (.fn f .nil)))
 |.global _=>none
def Ed(c pc:dJ):Bool:=c.all pc.contains
def fT(P:Tba)(σ:St)(pc:dJ)(x:Tbc)(b:Tbb):Tap SV:=
 match BQ P σ b x with
 |some (c,s)=>if Ed c pc then some s else none
 |none=>none
def asData:SC->Tap (E×Ty)
 |.gz e t=>some (e,t)
 |.od t=>some (.nil,.list t)
 |.own _ e t=>some (e,.list t)
 |.clip e t=>some (e,.list t)
 |_=>none
def gM:List SC->Tap (List E×Tam)
 |[]=>some ([],[])
 |c::r=>match asData c,gM r with
  |some (e,t),some (es,ts)=>some (e::es,t::ts)
  |_,_=>none
def iS{cs:List SC}{x:List E×Tam}(h:gM cs=some x):mapOf cs=none:=by
 unfold mapOf;split
 .simp[gM,asData]at h
 rfl
def oR:SV->Tap (E×Ty)
 |.one c=>asData c
 |.agg l=>match gM l with
  |some (es,ts)=>some (.un .agg (.Y es),.agg (.Y ts))
  |none=>none
 |.fa _=>none
def fk(P:Tba)(σ:St)(pc:dJ)(x:Tbc)(b:Tbb):Tap (E×Ty):=(fT P σ pc x b).bind oR
def lf(e:E):Nat->Tam->List SC
 |_,[]=>[]
 |j,t::r=>.gz (.un (.cell j) e) t::lf e (j+1) r
def mc:SV->Tap (List SC)
 |.one (.gz e (.agg fs))=>some (lf e 0 fs.V)
 |.one c=>some [c]
 |.agg l=>some l
 |.fa _=>none
def iW(P:Tba)(t:Tbb):Bool:=match P.underlying t with|some (.struct _)=>true|some (.array ..)=>true|_=>false
def ik(P:Tba)(t:Tbb):Tal:=(P.info? t).map (·.size)
def Am(t:Ty)(c a b:E):E:=
 match t,a,b with
 |.bool,a,.eQ false=>.bin .and c a
 |.bool,.eQ true,b=>.bin .or c b
 |_,a,b=>.ite c a b
section
variable{P:Tba}{C:Cx}{w:Tan}{G:Gh}{σ:St}{a:Act}
def Db{t:Ty}{v:Tao}{c:SC}(h:qp t v=some c):qO C w G c v/\c.scalar=true:=by
 unfold qp at h;split at h
 .split at h
  .rename_i b;injection h with h;subst h;obtain⟨rfl,d⟩:=b;exact⟨⟨rfl,.int _ _,dm.2 ⟨_,rfl,d⟩⟩,rfl⟩
  cases h
 .injection h with h;subst h;exact⟨⟨rfl,.bool _,dg.2 ⟨_,rfl⟩⟩,rfl⟩
 .injection h with h;subst h;exact⟨⟨rfl,.str _,mP.2 ⟨_,rfl⟩⟩,rfl⟩
 .injection h with h;subst h;exact⟨rfl,rfl⟩
 .injection h with h;subst h;exact⟨⟨rfl,.gv,kX.2 (.inl rfl)⟩,rfl⟩
 cases h
def Cd{ρ:Nat->D}{c pc:dJ}(h:Ed c pc=true)(b:aV ρ pc=true):aV ρ c=true:=by unfold aV Ed at*;rw[bU]at*;intro x d;exact b x (by simpa using h x d)
def QO(l:iD C w G σ.tm a){e:Tbb}{x:Tbc}{c:dJ}{s:SV}(h:BQ P σ e x=some (c,s))(n:aV C.ρ c=true):wP C w G s (a.eval x):=by
 cases x with
 |tmp t=>
  obtain⟨v,k,_,_,j⟩:=l t c s h;rw[if_pos n]at j;simpa [Act.eval,k]using j
 |const v=>
  have b:∀(t:Ty),(qp t v).map (fun c=>(([]:dJ),SV.one c))=some (c,s)->wP C w G s v:=by intro t h;simp only[cQ,ae]at h;obtain⟨o,k,_,rfl⟩:=h;exact(Db k).1
  cases v<;>simp only[BQ]at h<;>first
   |exact b _ h
   |(injection h with h;injection h with k j;subst j;exact .inr rfl)
   |(split at h
     .exact b _ h
     cases h)
 |func f=>
  simp only[BQ,aa,ae]at h;obtain⟨_,rfl⟩:=h;refine⟨rfl,?_,lI.2 ⟨[],rfl,dk.2 rfl⟩⟩;exact bV.fn f [] [] rfl (by intro i v d m;simp at m)
 |global g=>cases h
def cS(e:iD C w G σ.tm a){pc:dJ}(d:aV C.ρ pc=true){b:Tbb}{x:Tbc}{s:SV}(h:fT P σ pc x b=some s):wP C w G s (a.eval x):=by
 unfold fT at h;split at h
 .rename_i c i f;split at h
  .rename_i g;injection h with h;subst h;exact QO e f (Cd g d)
  cases h
 cases h
def LH{t:Ty}{v:Tao}{c:SC}{n:Nat}(h:qp t v=some c):c.lt n=true:=by
 unfold qp at h;split at h
 .split at h
  .injection h with h;subst h;rfl
  cases h
 all_goals first|(injection h with h;subst h;rfl)|cases h
def RG(k:iD C w G σ.tm a){pc:dJ}{e:Tbb}{x:Tbc}{s:SV}(h:fT P σ pc x e=some s):s.lt C.N=true:=by
 unfold fT at h;split at h
 .rename_i c i b;split at h
  .injection h with h;subst h;cases x with
   |tmp t=>exact(k t c i b).choose_spec.2.2.1
   |const v=>
    have d:∀(t:Ty),(qp t v).map (fun c=>(([]:dJ),SV.one c))=some (c,i)->i.lt C.N=true:=by intro t h;simp only[cQ,ae]at h;obtain⟨m,j,_,rfl⟩:=h;exact LH j
    cases v<;>simp only[BQ]at b<;>first
     |exact d _ b
     |(injection b with b;injection b with j l;subst l;rfl)
     |(split at b
       .exact d _ b
       cases b)
   |func f=>
    simp only[BQ,aa,ae]at b;obtain⟨_,rfl⟩:=b;rfl
   |global g=>cases b
  cases h
 cases h
def Df{c:SC}{e:E}{t:Ty}{n:Nat}(h:asData c=some (e,t))(b:c.lt n=true):e.lt n=true:=by
 cases c<;>simp only[asData]at h
 all_goals first|cases h;done|(obtain⟨rfl,rfl⟩:=iE h;first|rfl|exact b)
def By{n:Nat}:∀{l:List SC} {es:List E} {ts:Tam},gM l=some (es,ts)->l.all (SC.lt n)=true->(E.Y es).lt n=true
 |[],es,ts,h,_=>by simp only[gM,aa,ae]at h;obtain⟨rfl,rfl⟩:=h;rfl
 |c::l,es,ts,h,hl=>by
  simp only[gM]at h;simp only[List.all_cons,aP]at hl;split at h
  .rename_i e t g b f d;obtain⟨rfl,rfl⟩:=iE h;simp[E.Y,E.lt,Df f hl.1,By d hl.2]
  cases h
def JX(f:iD C w G σ.tm a){pc:dJ}{b:Tbb}{x:Tbc}{e:E}{t:Ty}(h:fk P σ pc x b=some (e,t)):e.lt C.N=true:=by
 unfold fk at h;cases hs:fT P σ pc x b with
 |none=>simp[hs]at h
 |some s=>
  simp only[hs,cg]at h;have d:=RG f hs;cases s with
  |one c=>exact Df h d
  |agg l=>
   simp only[oR]at h;split at h
   .rename_i j i g;obtain⟨rfl,rfl⟩:=iE h;exact By g d
   cases h
  |fa l=>cases h
def kE{c:SC}{e:E}{t:Ty}{v:Tao}(h:asData c=some (e,t))(b:qO C w G c v):e.lt C.N=true/\bV w G.S v (den C.ρ e)/\Has t (den C.ρ e):=by
 cases c<;>simp only[asData]at h
 .obtain⟨rfl,rfl⟩:=iE h;exact b
 .obtain⟨rfl,rfl⟩:=iE h;simp only[qO]at b;subst b;exact⟨rfl,.nil none 0,bO.2 ⟨[],rfl,gy _,by simp⟩⟩
 .obtain⟨rfl,rfl⟩:=iE h;exact⟨b.2.1,b.2.2.1,b.2.2.2.1⟩
 .obtain⟨rfl,rfl⟩:=iE h;exact⟨b.1,b.2.1,b.2.2.1⟩
 all_goals cases h
def lV:∀{l:List SC} {es:List E} {ts:Tam} {vs:Tad},gM l=some (es,ts)->jK C w G l vs->
  (E.Y es).lt C.N=true/\es.length=vs.length/\ts.length=vs.length/\(∀(i:Nat) v e,vs[i]?=some v->es[i]?=some e->bV w G.S v (den C.ρ e))/\dr (.Y ts) (es.map (den C.ρ))
 |[],es,ts,vs,h,hr=>by simp only[gM,aa,ae]at h;obtain⟨rfl,rfl⟩:=h;have d:vs=[]:=an hr.1;subst d;exact⟨rfl,rfl,rfl,by intro i v e b;simp at b,dk.2 rfl⟩
 |c::l,es,ts,vs,h,hr=>by
  simp only[gM]at h;split at h
  .rename_i e t y j x s;obtain⟨rfl,rfl⟩:=iE h;cases vs with
   |nil=>have:=hr.1;simp at this
   |cons v vs=>
    have f:jK C w G l vs:=⟨by simpa using hr.1,fun i c v b d=>hr.2 (i+1) c v (by simpa using b) (by simpa using d)⟩;obtain⟨r,q,p,k4,o⟩:=lV s f;obtain⟨n,m,k⟩:=kE x (hr.2 0 c v rfl rfl);refine⟨by simp[E.Y,E.lt,n,r],by simp[q],by simp[p],?_,aA.2 ⟨_,_,rfl,k,o⟩⟩;intro i u z b g;cases i with
    |zero=>simp at b g;subst b;subst g;exact m
    |succ i=>exact k4 i u z (by simpa using b) (by simpa using g)
  cases h
def IY{s:SV}{e:E}{t:Ty}{v:Tao}(h:oR s=some (e,t))(b:wP C w G s v):e.lt C.N=true/\bV w G.S v (den C.ρ e)/\Has t (den C.ρ e):=by
 cases s with
 |one c=>exact kE h b
 |agg l=>
  simp only[oR]at h;split at h
  .rename_i u q p;obtain⟨rfl,rfl⟩:=iE h;obtain⟨g,rfl,hs⟩:=b;obtain⟨m,k,r,k4,j⟩:=lV p hs;refine⟨by simpa [E.lt]using m,?_,?_⟩
   .simp only[den,fR,U.den,D.V];refine .agg g _ (by simp[k]) fun i v d n f=>?_;simp only[ab,cQ]at f;obtain⟨e,o,rfl⟩:=f;exact k4 i v e n o
   simp only[den,fR,U.den,D.V];exact eA.2 ⟨_,rfl,j⟩
  cases h
 |fa l=>cases h
def dR(d:iD C w G σ.tm a){pc:dJ}(c:aV C.ρ pc=true){b:Tbb}{x:Tbc}{e:E}{t:Ty}(h:fk P σ pc x b=some (e,t)):
  e.lt C.N=true/\bV w G.S (a.eval x) (den C.ρ e)/\Has t (den C.ρ e):=by
 unfold fk at h;cases hs:fT P σ pc x b with
 |none=>simp[hs]at h
 |some s=>simp only[hs,cg]at h;exact IY h (cS d c hs)
def qL(e:E):∀(ts:Tam) (j i:Nat),(lf e j ts)[i]?=(ts[i]?).map fun t=>SC.gz (.un (.cell (j+i)) e) t
 |[],j,i=>by simp[lf]
 |t::ts,j,0=>by simp[lf]
 |t::ts,j,i+1=>by simp only[lf,df,qL e ts (j+1) i];congr 2;funext t;congr 3;omega
def qK(e:E):∀(ts:Tam) (j:Nat),(lf e j ts).length=ts.length
 |[],_=>rfl
 |_::ts,j=>by simp[lf,qK e ts]
def gf{l:Tah}{i:Nat}{d:D}(h:l[i]?=some d):l.getD i .top=d:=by simp[List.getD,h]
def qC{s:SV}{l:List SC}{v:Tao}(h:mc s=some l)(g:wP C w G s v)(d:l.all SC.scalar=true):∃vs:Tad,v.cells=vs.toArray/\jK C w G l vs:=by
 cases s with
 |one c=>
  by_cases j:∃e q,c=.gz e (.agg q)
  .obtain⟨e,q,rfl⟩:=j;simp only[mc,aa]at h;subst h;obtain⟨H,F,B⟩:=g;obtain⟨l,A,o,J,rfl,f,j⟩:=F.Of B;refine⟨J,rfl,by rw[qK,f,gh o],fun i c v b r=>?_⟩;rw[qL]at b;simp only[cQ]at b;obtain⟨t,y,rfl⟩:=b;obtain⟨x,m,k⟩:=dh o i t y;have p:den C.ρ (.un (.cell (0+i)) e)=x:=by simp only[den,U.den,A,D.V,aq];exact gf m
   exact⟨by simpa [E.lt]using H,by rw[p];exact j i v x r m,by rw[p];exact k⟩
  have I:l=[c]:=by
   cases c with
   |gz e t=>cases t<;>simp only[mc,aa]at h<;>first|exact h.symm|exact absurd ⟨_,_,rfl⟩ j
   |_=>simp only[mc,aa]at h;exact h.symm
  subst I;simp only[List.all_cons,bW,Bool.and_true]at d;have z:=qO.iH g d;refine⟨[v],by cases v<;>simp[Value.cells,Value.oneCell']at z⊢,rfl,fun i K u b n=>?_⟩;cases i with
  |zero=>simp at b n;subst b;subst n;exact g
  |succ i=>simp at b
 |agg l'=>
  simp only[mc,aa]at h;subst h;obtain⟨vs,rfl,hs⟩:=g;exact⟨vs,rfl,hs⟩
 |fa l'=>cases h
def IA(ρ:Nat->D)(t:Ty)(c x y:E)(f:(den ρ c).Z=true->Has t (den ρ x))(e:(den ρ c).Z=false->Has t (den ρ y)):
  den ρ (Am t c x y)=if(den ρ c).Z then den ρ x else den ρ y:=by
 unfold Am;split
 .simp only[den,B.den];cases hcb:(den ρ c).Z with
  |false=>simp
  |true=>obtain⟨b,d⟩:=dg.1 (f hcb);simp[d,D.Z]
 .simp only[den,B.den];cases hcb:(den ρ c).Z with
  |false=>obtain⟨b,d⟩:=dg.1 (e hcb);simp[d,D.Z]
  |true=>simp
 rfl
def Lf{N:Nat}{t:Ty}{c x y:E}(e:c.lt N=true)(d:x.lt N=true)(b:y.lt N=true):(Am t c x y).lt N=true:=by unfold Am;split<;>simp_all [E.lt]
end
abbrev Pl:=SV×List Item
def eR(C:Cx)(Φ:Tab)(Pre:Taa):Item->Prop
 |.I9 pc b=>aV C.ρ pc=b
 |.jY pc e=>e.lt C.N=true/\(aV C.ρ pc=true->(den C.ρ e).Z=true)
 |.call p f args pc=>args.lt C.N=true/\p<C.N/\C.ρ p=Φ f (den C.ρ args).V/\(aV C.ρ pc=true->Pre f (den C.ρ args).V)
 |.room pc e bytes=>e.lt C.N=true/\(aV C.ρ pc=true->(den C.ρ e).V.length<=maxLen/\(den C.ρ e).V.length*bytes<=140737488355328)
def jC(P:Tba)(C:Cx)(w:Tan)(G:Gh)(a:Act)(o:Tbd)(s:SV):Prop:=
 ∃v,(execOp a.eval o).run P w=.ok (.value v) w/\wP C w G s v
def Ac(P:Tba)(σ:St)(pc:dJ)(o:Tbd):Tap Pl:=
 match o.op with
 |.move x| .assign x=>(fT P σ pc x o.type).map fun s=>(s,[])
 |_=>none
def DF(P:Tba)(σ:St)(pc:dJ)(o:Tbd):Tap Pl:=
 match o.op with
 |.pick c x y=>
  match fk P σ pc c o.type with
  |some (ec,.bool)=>
   match fk P σ ((ec,true)::pc) x o.type,fk P σ ((ec,false)::pc) y o.type with
   |some (ex,tx),some (ey,ty)=>if tx=ty then some (.one (.gz (Am tx ec ex ey) tx),[]) else none
   |_,_=>none
  |_=>none
 |_=>none
def Wu:BinOp->IntKind->Tap (B×Bool×Bool)
 |.add,k=>some (.add k,false,false)
 |.sub,k=>some (.sub k,false,false)
 |.mul,k=>some (.mul k,false,false)
 |.rem,k=>some (.rem k,false,true)
 |.quo,k=>some (.quo k,false,true)
 |.xor,k=>some (.xor k,false,false)
 |.lss,_=>some (.lt,true,false)
 |.leq,_=>some (.le,true,false)
 |.gtr,_=>some (.gt,true,false)
 |.geq,_=>some (.ge,true,false)
 |.eql,_=>some (.eq,true,false)
 |.neq,_=>some (.ne,true,false)
 |_,_=>none
def SB(P:Tba):Nat->Tbb->List (E×Ty)->List (E×Ty)->Tap E
 |0,_,_,_=>none
 |n+1,t,xs,ys=>
  match P.underlying t with
  |some (.int _)=>match xs,ys with
   | [(x,.int k)],[(y,.int k')]=>if k=k' then some (.bin .eq x y) else none
   |_,_=>none
  |some .bool=>match xs,ys with
   | [(x,.bool)],[(y,.bool)]=>some (.bin .beq x y)
   |_,_=>none
  |some (.struct fs)=>
   if P.stoodInHeld t then none else
   fs.toList.foldr (fun f acc=>match acc,ik P f.type with
    |some r,some sz=>
     if f.name≠ "_" /\f.offset+sz<=xs.length/\f.offset+sz<=ys.length then
      match SB P n f.type ((xs.drop f.offset).take sz) ((ys.drop f.offset).take sz) with
      |some e=>some (.bin .and e r)
      |none=>none
     else none
    |_,_=>none) (some (.eQ true))
  |_=>none
def jq(e:E):Nat->Tam->List (E×Ty)
 |_,[]=>[]
 |j,t::r=>(.un (.cell j) e,t)::jq e (j+1) r
def vT(P:Tba)(σ:St)(pc:dJ)(o:Tbd):Tap Pl:=
 match o.op with
 |.binOp op xt x y _=>
  match fT P σ pc x xt,fk P σ pc y xt,P.underlying xt with
  |some (.one (.qa _ _)),some (.gv,.ptr _),some (.pointer _)=>
   match op with
   |.eql=>some (.one (.gz (.eQ false) .bool),[])
   |.neq=>some (.one (.gz (.eQ true) .bool),[])
   |_=>none
  |_,_,_=>none
 |_=>none
def Jn(P:Tba)(σ:St)(pc:dJ)(o:Tbd):Tap Pl:=
 match o.op with
 |.binOp op xt x y _=>
  match fk P σ pc x xt,fk P σ pc y xt with
  |some (ex,.int k),some (ey,.int k')=>
   if k=k' then
    match Wu op k with
    |some (b,isB,nz)=>some (.one (.gz (.bin b ex ey) (if isB then .bool else .int k)),if nz then [.jY pc (.bin .ne ey (.aU k 0))] else [])
    |none=>none
   else none
  |some (ex,.bool),some (ey,.bool)=>
   match op,P.underlying xt with
   |.eql,some .bool=>some (.one (.gz (.bin .beq ex ey) .bool),[])
   |.neq,some .bool=>some (.one (.gz (.un .not (.bin .beq ex ey)) .bool),[])
   |_,_=>none
  |some (ex,.agg fs),some (ey,.agg gs)=>
   match iW P xt,P.eqGuardType P.depth xt,SB P Fm xt (jq ex 0 fs.V) (jq ey 0 gs.V),op with
   |true,false,some e,.eql=>some (.one (.gz e .bool),[])
   |true,false,some e,.neq=>some (.one (.gz (.un .not e) .bool),[])
   |_,_,_,_=>none
  |some (ex,.ptr _),some (.gv,.ptr _)=>
   match op,P.underlying xt with
   |.eql,some (.pointer _)=>some (.one (.gz (.un .zU ex) .bool),[])
   |.neq,some (.pointer _)=>some (.one (.gz (.un .not (.un .zU ex)) .bool),[])
   |_,_=>none
  |_,_=>none
 |_=>none
def DI(P:Tba)(σ:St)(pc:dJ)(o:Tbd):Tap Pl:=
 match vT P σ pc o with
 |some r=>some r
 |none=>Jn P σ pc o
def Mm(P:Tba)(σ:St)(pc:dJ)(o:Tbd):Tap Pl:=
 match o.op with
 |.unOp .not t x=>match fk P σ pc x t with
  |some (e,.bool)=>some (.one (.gz (.un .not e) .bool),[])
  |_=>none
 |.unOp .neg t x=>match fk P σ pc x t with
  |some (e,.int k)=>some (.one (.gz (.un (.neg k) e) (.int k)),[])
  |_=>none
 |.convert s d x=>match fk P σ pc x s,P.underlying s,P.underlying d with
  |some (e,.int _),some (.int _),some (.int k)=>some (.one (.gz (.un (.SH k) e) (.int k)),[])
  |_,_,_=>none
 |_=>none
def tC(P:Tba)(σ:St)(pc:dJ)(o:Tbd):Tap Pl:=
 match o.op with
 |.extract x j=>match fT P σ pc x o.type with
  |some (.fa l)=>match l[j]? with
   |some (true,cs)=>some (.agg cs,[])
   |some (false,[c])=>some (.one c,[])
   |_=>none
  |_=>none
 |_=>none
def kj(P:Tba)(t:Tbb)(f:Nat):Tap (Field×Nat):=
 match P.underlying t with
 |some (.struct fs)=>match fs[f]? with
  |some fl=>(ik P fl.type).map fun n=>(fl,n)
  |none=>none
 |_=>none
def oX(P:Tba)(σ:St)(pc:dJ)(o:Tbd):Tap Pl:=
 match o.op with
 |.fieldAddr t x f=>
  match kj P t f,fT P σ pc x t with
  |some (fl,_+1),some (.one (.qa id off))=>some (.one (.qa id (off+fl.offset)),[])
  |some (fl,_+1),some (.one (.zP l i u off))=>some (.one (.zP l i u (off+fl.offset)),[])
  |some (fl,_+1),some (.one (.zJ e fs off))=>some (.one (.zJ e fs (off+fl.offset)),[])
  |some (fl,_+1),some (.one (.gz e (.box fs)))=>some (.one (.zJ e fs fl.offset),[])
  |some (fl,_+1),some (.one (.wQ g i u off))=>some (.one (.wQ g i u (off+fl.offset)),[])
  |_,_=>none
 |_=>none
def Ba:SV->Tap (List SC)
 |.agg l=>some l
 |.one (.gz e (.agg fs))=>some (lf e 0 fs.V)
 |_=>none
def zp(P:Tba)(σ:St)(pc:dJ)(o:Tbd):Tap Pl:=
 match o.op with
 |.field t x f=>
  match kj P t f,(fT P σ pc x t).bind Ba with
  |some (fl,n),some cs=>
   if(P.underlying fl.type).isSome=true/\fl.offset+n<=cs.length then
    if iW P fl.type then some (.agg ((cs.drop fl.offset).take n),[])
    else if 0<n then match cs[fl.offset]? with
     |some c=>some (.one c,[])
     |none=>none
    else none
   else none
  |_,_=>none
 |_=>none
def lR(P:Tba)(σ:St)(pc:dJ)(o:Tbd):Tap Pl:=
 match o.op with
 |.indexAddr t x (.const (.int _ n))=>
  match P.underlying t,fT P σ pc x t with
  |some (.array len el),some (.one (.qa id off))=>
   match ik P el with
   |some sz=>if 0<=n/\n<len then some (.one (.qa id (off+n.toNat*sz)),[]) else none
   |none=>none
  |_,_=>none
 |_=>none
def nd(P:Tba)(σ:St)(pc:dJ)(o:Tbd):Tap Pl:=
 match o.op with
 |.indexAddr t x i=>
  match P.underlying t,fk P σ pc x t,fk P σ pc i t with
  |some (.slice el),some (e,.list u),some (ie,.int k)=>
   if ik P el=some u.cells.length/\0<u.cells.length then
    some (.one (.zP e ie u 0),[.jY pc (.bin .and (.bin .le (.aU k 0) ie) (.bin .lt ie (.un .len e)))])
   else none
  |_,_,_=>none
 |_=>none
def HY(e:E):Tap Int:=if e.lt 0 then(match den (fun _=>.top) e with
 |.int _ n=>some n
 |_=>none) else none
def kI(P:Tba)(σ:St)(pc:dJ)(o:Tbd):Tap Pl:=
 match o.op with
 |.indexAddr t x i=>
  match P.underlying t,fT P σ pc x t,fk P σ pc i t with
  |some (.array len el),some (.one (.qa id off)),some (ie,.int _)=>
   match ik P el,HY ie with
   |some sz,some n=>if 0<=n/\n<len then some (.one (.qa id (off+n.toNat*sz)),[]) else none
   |_,_=>none
  |_,_,_=>none
 |_=>none
def oW(P:Tba)(σ:St)(pc:dJ)(o:Tbd):Tap Pl:=
 match lR P σ pc o with
 |some x=>some x
 |none=>match kI P σ pc o with
  |some x=>some x
  |none=>nd P σ pc o
def Jm(P:Tba)(σ:St)(pc:dJ)(o:Tbd):Tap Pl:=
 match o.op with
 |.nilCheck x=>
  match fT P σ pc x o.type with
  |some (.one (.qa id off))=>some (.one (.qa id off),[])
  |some (.one (.zJ e fs off))=>some (.one (.zJ e fs off),[])
  |some (.one (.zP l i u off))=>some (.one (.zP l i u off),[])
  |some (.one (.wQ g i u off))=>some (.one (.wQ g i u off),[])
  |some (.one (.gz e (.box fs)))=>some (.one (.gz e (.box fs)),[])
  |some (.one (.gz e (.ptr fs)))=>some (.one (.gz e (.box fs)),[.jY pc (.un .not (.un .zU e))])
  |_=>none
 |_=>none
def rW(P:Tba)(T:Tbb)(e:E)(u:Ty)(off:Nat):Tap Pl:=
 match u,ik P T with
 |.agg fs,some n=>
  if iW P T then
   if off=0/\n=fs.V.length then some (.one (.gz e (.agg fs)),[])
   else if off+n<=fs.V.length then some (.one (.gz (.un (.part off n) e) (.agg (.Y ((fs.V.drop off).take n)))),[]) else none
  else match fs.V[off]? with
   |some t=>if t.scalar then some (.one (.gz (.un (.cell off) e) t),[]) else none
   |none=>none
 |u,_=>if iW P T=false/\off=0/\u.scalar=true then some (.one (.gz e u),[]) else none
def DH(P:Tba)(σ:St)(pc:dJ)(o:Tbd):Tap (Pl×Tai):=
 match o.op with
 |.load t x=>
  if(P.underlying t).isNone then none else
  match fT P σ pc x t with
  |some (.one (.qa id off))=>
   match σ.hp id with
   |some (_,cs)=>
    if(mapOf cs).isSome then none else
    if iW P t then
     match ik P t with
     |some n=>if off+n<=cs.length then some ((.agg ((cs.drop off).take n),[]),[id]) else none
     |none=>none
    else match cs[off]? with
     |some c=>some ((.one c,[]),[id])
     |none=>none
   |none=>none
  |some (.one (.zP l i u off))=>(rW P t (.bin .idx l i) u off).map fun s=>(s,[])
  |some (.one (.zJ e fs off))=>(rW P t (.un .agg e) (.agg fs) off).map fun s=>(s,[])
  |some (.one (.gz e (.box fs)))=>(rW P t (.un .agg e) (.agg fs) 0).map fun s=>(s,[])
  |_=>none
 |_=>none
def Cj(P:Tba)(σ:St)(pc:dJ)(o:Tbd):Tap Pl:=
 match o.op with
 |.call {callee:=.builtin .len,args,argTypes}=>
  match args.toList,argTypes[0]? with
  | [x],some t=>match P.underlying t,fk P σ pc x t with
   |some (.slice _),some (e,.list _)=>some (.one (.gz (.un .len e) (.int i64)),[])
   |_,_=>none
  |_,_=>none
 |.call {callee:=.builtin .min,args,.. }=>
  match args.toList with
  | [x,y]=>match fk P σ pc x o.type,fk P σ pc y o.type with
   |some (ex,.int k),some (ey,.int k')=>if k=k' then some (.one (.gz (.bin (.min k) ex ey) (.int k)),[]) else none
   |_,_=>none
  |_=>none
 |.call {callee:=.builtin .max,args,.. }=>
  match args.toList with
  | [x,y]=>match fk P σ pc x o.type,fk P σ pc y o.type with
   |some (ex,.int k),some (ey,.int k')=>if k=k' then some (.one (.gz (.bin (.max k) ex ey) (.int k)),[]) else none
   |_,_=>none
  |_=>none
 |_=>none
def zn(P:Tba)(σ:St)(pc:dJ)(o:Tbd):Tap Pl:=
 match o.op with
 |.slice t x lo hi none=>
  match P.underlying t,fk P σ pc x t with
  |some (.slice el),some (e,.list u)=>
   let b:=match lo with
    |some i=>match fk P σ pc i t with|some (ie,.int k)=>some (ie,k)|_=>none
    |none=>some (.aU i64 0,i64)
   let c:=match hi with
    |some i=>match fk P σ pc i t with|some (ie,.int k)=>some (ie,k)|_=>none
    |none=>some (.un .len e,i64)
   match b,c with
   |some (l,k),some (h,_)=>
    if ik P el=some u.cells.length/\0<u.cells.length then
     some (.one (.gz (.bin .drop (.bin .take e h) l) (.list u)),[.jY pc (.bin .and (.bin .le (.aU k 0) l) (.bin .and (.bin .le l h) (.bin .le h (.un .len e))))])
    else none
   |_,_=>none
  |_,_=>none
 |_=>none
def vS(P:Tba)(σ:St)(pc:dJ)(o:Tbd):Tap Pl:=
 match o.op with
 |.slice t x none (some hi) (some mx)=>
  match P.underlying t,fk P σ pc x t,fk P σ pc hi t,fk P σ pc mx t with
  |some (.slice el),some (e,.list u),some (h,.int k),some (m,.int _)=>
   if ik P el=some u.cells.length/\0<u.cells.length/\h=m then
    some (.one (.clip (.bin .take e h) u),[.jY pc (.bin .and (.bin .le (.aU k 0) h) (.bin .le h (.un .len e)))])
   else none
  |_,_,_,_=>none
 |_=>none
section
variable{P:Tba}{C:Cx}{w:Tan}{G:Gh}{σ:St}{a:Act}{o:Tbd}{pc:dJ}{s:SV}{is:List Item}{Φ:Tab}{Pre:Taa}
def CS(c:iD C w G σ.tm a)(b:aV C.ρ pc=true)(h:Ac P σ pc o=some (s,is)):jC P C w G a o s:=by
 unfold Ac at h;split at h
 all_goals first
  |cases h;done
  |(rename_i x d
    simp only[cQ,ae]at h;obtain⟨f,e,rfl,_⟩:=h;exact⟨a.eval x,by unfold execOp;simp only[d];rfl,cS c b e⟩)
def Bu{ρ:Nat->D}{e:E}{b:Bool}{pc:dJ}:aV ρ ((e,b)::pc)=true↔(den ρ e).Z=b/\aV ρ pc=true:=by simp[aV]
def K7(f:iD C w G σ.tm a)(e:aV C.ρ pc=true)(h:DF P σ pc o=some (s,is)):jC P C w G a o s:=by
 unfold DF at h;split at h
 .rename_i c x y z;split at h
  .rename_i t A;split at h
   .rename_i ex u B H q p;split at h
    .rename_i i;subst i;obtain⟨rfl,_⟩:=iE h;obtain⟨F,E,D⟩:=dR f e A;obtain⟨b,r⟩:=dg.1 D;have v:a.eval c=.bool b:=(r▸E).gV;have d:(den C.ρ t).Z=b:=by rw[r];rfl
     have n:b=true->_:=fun j=>dR f (Bu.2 ⟨d.trans j,e⟩) q;have m:b=false->_:=fun k=>dR f (Bu.2 ⟨d.trans k,e⟩) p;refine⟨if b then a.eval x else a.eval y,?_,?_⟩
     .unfold execOp;simp only[z,v,asBool];rfl
     have g:=IA C.ρ u t ex B (fun l=>(n (d▸l)).2.2) (fun l=>(m (d▸l)).2.2);refine⟨Lf F (JX f q) (JX f p),?_⟩;rw[g,d];cases b with
     |true=>exact(n rfl).2
     |false=>exact(m rfl).2
    cases h
   cases h
  cases h
 cases h
def nP(k:IntKind)(n:Int):kL k (k.wrap n):=wrap_within k n
def PC{k:IntKind}{x y:Int}(b:kL k x):kL k (x.tmod y):=by
 obtain⟨j,i⟩:=b;have c:k.min<=0:=by cases k<;>decide
 have d:0<=k.max:=by cases k<;>decide
 have g:(x.tmod y).natAbs<=x.natAbs:=by rw[Int.natAbs_tmod];exact Nat.mod_le _ _
 rcases Int.le_total 0 x with h|h
 .have f:=Int.tmod_nonneg y h;exact⟨by omega,by omega⟩
 have e:x.tmod y=-((-x).tmod y):=by rw[Int.neg_tmod];omega
 have f:=Int.tmod_nonneg y (show 0<=-x by omega);exact⟨by omega,by omega⟩
end
section
variable{P:Tba}{C:Cx}{w:Tan}{G:Gh}{σ:St}{a:Act}{o:Tbd}{pc:dJ}{s:SV}{is:List Item}{Φ:Tab}{Pre:Taa}
def Gq{op:BinOp}{k:IntKind}{b:B}{f i:Bool}(h:Wu op k=some (b,f,i)){x y:Int}(j:kL k x)(g:i=true->y≠0)(t:Tbb)(p q:Tbc):
  ∃v,(do eqGuard op t p q (.int k x) (.int k y);binOp op t (.int k x) (.int k y):Sem Tao).run P w=.ok v w/\∀S,bV w S v (b.den (.int k x) (.int k y))/\Has (if f then .bool else .int k) (b.den (.int k x) (.int k y)):=by
 have d:∀n:Int,kL k n->Has (.int k) (.int k n):=fun n l=>dm.2 ⟨n,rfl,l⟩;have e:∀n:Bool,Has .bool (.bool n):=fun n=>dg.2 ⟨n,rfl⟩;cases op<;>simp only[Wu,aa,ae]at h<;>(try (cases h;done))<;>obtain⟨rfl,rfl,rfl⟩:=h
 case rem=>
  have c:=g rfl;refine⟨.int k (x.tmod y),by simp[eqGuard,binOp,Op.intDiv,c],fun S=>⟨.int _ _,d _ (PC j)⟩⟩
 case quo=>
  have c:=g rfl;refine⟨.int k (k.wrap (x.tdiv y)),by simp[eqGuard,binOp,Op.intDiv,c],fun S=>⟨.int _ _,d _ (nP _ _)⟩⟩
 all_goals first
  |exact⟨.int k (k.wrap (x+y)),by simp[eqGuard,binOp,Op.intArith],fun S=>⟨.int _ _,d _ (nP _ _)⟩⟩
  |exact⟨.int k (k.wrap (x-y)),by simp[eqGuard,binOp,Op.intArith],fun S=>⟨.int _ _,d _ (nP _ _)⟩⟩
  |exact⟨.int k (k.wrap (x*y)),by simp[eqGuard,binOp,Op.intArith],fun S=>⟨.int _ _,d _ (nP _ _)⟩⟩
  |exact⟨.int k (H2 k x y),by simp[eqGuard,binOp,Op.intBits,H2],fun S=>⟨.int _ _,d _ (nP _ _)⟩⟩
  |exact⟨.bool (decide (x<y)),by simp[eqGuard,binOp,Op.intCmp],fun S=>⟨.bool _,e _⟩⟩
  |exact⟨.bool (decide (x<=y)),by simp[eqGuard,binOp,Op.intCmp],fun S=>⟨.bool _,e _⟩⟩
  |exact⟨.bool (decide (x>y)),by simp[eqGuard,binOp,Op.intCmp],fun S=>⟨.bool _,e _⟩⟩
  |exact⟨.bool (decide (x≥y)),by simp[eqGuard,binOp,Op.intCmp],fun S=>⟨.bool _,e _⟩⟩
  |exact⟨.bool (x==y),by simp[eqGuard,binOp,Op.intCmp],fun S=>⟨.bool _,e _⟩⟩
  |exact⟨.bool (x !=y),by simp[eqGuard,binOp,Op.intCmp],fun S=>⟨.bool _,e _⟩⟩
def nX{t el:Tbb}(b:P.underlying t=some (.pointer el))(p:Tap Addr)(d:Nat):(Op.equalIn (d+1) t (.pointer p) (.pointer none)).run P w=.ok p.isNone w:=by cases p<;>simp[Op.equalIn,run_underlying b]
def pz{t el:Tbb}(b:P.underlying t=some (.pointer el))(p:Tap Addr)(x y:Tbc):
  (do eqGuard .eql t x y (.pointer p) (.pointer none);binOp .eql t (.pointer p) (.pointer none):Sem Tao).run P w=.ok (.bool p.isNone) w:=by have d:binOp .eql t (.pointer p) (.pointer none)=(do pure (.bool (<-Op.equalIn (9999+1) t (.pointer p) (.pointer none)))):=rfl;have c:eqGuard .eql t x y (.pointer p) (.pointer none)=pure ():=rfl;rw[d,c,bz,Sem.run_pure,bZ,bz,nX b];rfl
def py{t el:Tbb}(b:P.underlying t=some (.pointer el))(p:Tap Addr)(x y:Tbc):
  (do eqGuard .neq t x y (.pointer p) (.pointer none);binOp .neq t (.pointer p) (.pointer none):Sem Tao).run P w=.ok (.bool (!p.isNone)) w:=by have d:binOp .neq t (.pointer p) (.pointer none)=(do pure (.bool (!(<-Op.equalIn (9999+1) t (.pointer p) (.pointer none))))):=rfl;have c:eqGuard .neq t x y (.pointer p) (.pointer none)=pure ():=rfl;rw[d,c,bz,Sem.run_pure,bZ,bz,nX b];rfl
def valOf(P:Tba)(t:Tbb)(vs:Tad):Tao:=if iW P t then .agg vs.toArray else vs.getD 0 undef
def xr{t:Tbb}{d:TypeDesc}(b:P.underlying t=some d):(isAgg t).run P w=.ok (iW P t) w:=by unfold isAgg iW;rw[bz,run_underlying b w];simp only[bZ,b];cases d<;>rfl
def hJ{t:Tbb}{n:Nat}(h:ik P t=some n):(sizeOf t).run P w=.ok n w:=by
 unfold ik at h;cases hi:P.info? t with
 |none=>simp[hi]at h
 |some i=>simp[hi]at h;simp[sizeOf,typeInfo,hi,h]
def rL{t:Tbb}{d:TypeDesc}(c:P.underlying t=some d){n off:Nat}(hs:ik P t=some n)(vs:Tad)(i:off+n<=vs.length)(f:iW P t=false->0<n):
  (part t vs.toArray off).run P w=.ok (valOf P t ((vs.drop off).take n)) w:=by
 unfold part valOf;rw[bz,xr c];simp only[bZ];cases ha:iW P t with
 |true=>
  simp only[if_true,bz,hJ hs,bZ,Sem.run_pure];congr 2;apply dC;simp[List.extract_eq_take_drop]
 |false=>
  have e:=f ha;have b:off<vs.length:=by omega
  simp only[ai,if_false];have h:(vs.toArray)[off]?=some vs[off]:=by simp[b]
  have g:((vs.drop off).take n).getD 0 undef=vs[off]:=by simp[List.getD,aL,show 0<n from e,b]
  rw[h,g];rfl
def KG(ρ:Nat->D)(w:Tan)(S:bG)(vs:Tad)(xs:List (E×Ty)):Prop:=
 vs.length=xs.length/\∀(i:Nat) v x,vs[i]?=some v->xs[i]?=some x->bV w S v (den ρ x.1)/\Has x.2 (den ρ x.1)
def KG.cut{ρ:Nat->D}{S:bG}{vs:Tad}{xs:List (E×Ty)}(h:KG ρ w S vs xs)(off n:Nat):KG ρ w S ((vs.drop off).take n) ((xs.drop off).take n):=by
 refine⟨by simp[h.1],fun i v x b c=>?_⟩;simp only[aC,aL]at b c;split at b
 .rename_i d;rw[if_pos d]at c;exact h.2 _ v x b c
 cases b
def HX(ρ:Nat->D)(S:bG):∀(n:Nat) (t:Tbb) (xs ys:List (E×Ty)) (e:E),SB P n t xs ys=some e->∀(m z:Tad) (d:Nat),KG ρ w S m xs->KG ρ w S z ys->
  (Op.equalIn (d+n) t (valOf P t m) (valOf P t z)).run P w=.ok (den ρ e).Z w/\(∃b,den ρ e=.bool b)/\(iW P t=false->0<m.length)
 |0,_,_,_,_,h=>by cases h
 |n+1,t,xs,ys,e,h=>by
  intro m z d J I;unfold SB at h;split at h
  .rename_i k0 p;have K:iW P t=false:=by unfold iW;rw[p]
   split at h
   .rename_i x k y k';split at h
    .rename_i hk;subst hk;injection h with h;subst h;obtain⟨v,rfl⟩:∃v,m=[v]:=bP.1 J.1;obtain⟨u,rfl⟩:∃v,z=[v]:=bP.1 I.1;obtain⟨T,h2⟩:=J.2 0 v _ rfl rfl;obtain⟨R,Z⟩:=I.2 0 u _ rfl rfl;obtain⟨i,F,_⟩:=dm.1 h2;obtain⟨j,A,_⟩:=dm.1 Z;simp only at T R F A;have e1:=(F▸T).dj;have e2:=(A▸R).dj;refine⟨?_,⟨_,rfl⟩,fun _=>by simp⟩;simp only[valOf,K,ai,if_false,List.getD_cons_zero,e1,e2,den,B.den,F,A,D.J,D.Z];exact run_equalIn_int w (d+n) t k k0 i j p
    cases h
   cases h
  .rename_i p;have K:iW P t=false:=by unfold iW;rw[p]
   split at h
   .rename_i x y;injection h with h;subst h;obtain⟨v,rfl⟩:∃v,m=[v]:=bP.1 J.1;obtain⟨u,rfl⟩:∃v,z=[v]:=bP.1 I.1;obtain⟨T,h2⟩:=J.2 0 v _ rfl rfl;obtain⟨R,Z⟩:=I.2 0 u _ rfl rfl;obtain⟨i,F⟩:=dg.1 h2;obtain⟨j,A⟩:=dg.1 Z;simp only at T R F A;have e1:=(F▸T).gV;have e2:=(A▸R).gV;refine⟨?_,⟨_,rfl⟩,fun _=>by simp⟩;simp only[valOf,K,ai,if_false,List.getD_cons_zero,e1,e2,den,B.den,F,A,D.Z];exact run_equalIn_bool' w (d+n) t i j p
   cases h
  .rename_i fs p;have K:iW P t=true:=by unfold iW;rw[p]
   split at h
   .cases h
   rename_i W;have Q:P.fieldsOf t=fs:=by unfold Program.fieldsOf;rw[p]
   have O:P.stoodInHeld t=false:=by simpa using W
   have U:∀(l:List Field) (e:E),l.foldr (fun f acc=>match acc,ik P f.type with
     |some r,some sz=>
      if f.name≠ "_" /\f.offset+sz<=xs.length/\f.offset+sz<=ys.length then
       match SB P n f.type ((xs.drop f.offset).take sz) ((ys.drop f.offset).take sz) with
       |some e=>some (.bin .and e r)
       |none=>none
      else none
     |_,_=>none) (some (.eQ true))=some e->
     (Op.eqFields (d+n) m.toArray z.toArray l).run P w=.ok (den ρ e).Z w/\∃b,den ρ e=.bool b:=by
    intro l
    induction l with
    |nil=>
     intro e c;simp only[List.foldr_nil,aa]at c;subst c;exact⟨rfl,_,rfl⟩
    |cons f l ih=>
     intro e c;simp only[List.foldr_cons]at c;split at c
     .rename_i r sz hr N;split at c
      .rename_i Y;split at c
       .rename_i e0 g;injection c with c;subst c;obtain⟨X,b,hb⟩:=ih r hr;have cx:=J.cut f.offset sz;have cy:=I.cut f.offset sz;obtain⟨V,⟨b0,H⟩,k3⟩:=HX ρ S n f.type _ _ e0 g _ _ d cx cy
        obtain⟨dsc,M⟩:∃dsc,P.underlying f.type=some dsc:=by
         cases n with
         |zero=>cases g
         |succ n=>
          unfold SB at g;cases hq:P.underlying f.type with
          |none=>rw[hq]at g;cases g
          |some q=>exact⟨q,rfl⟩
        have L:iW P f.type=false->0<sz:=by intro h;have:=k3 h;simp only[aO,bh]at this;omega
        have p1:=rL (w:=w) M N m (by rw[J.1];exact Y.2.1) L;have p2:=rL (w:=w) M N z (by rw[I.1];exact Y.2.2) L;refine⟨?_,_,rfl⟩;simp only[Op.eqFields,if_pos Y.1,bz,p1,p2,bZ,V];rw[H];cases b0 with
        |false=>simp[D.Z,den,B.den,H]
        |true=>simpa [D.Z,den,B.den,H]using X
       cases c
      cases c
     cases c
   obtain⟨V,k2⟩:=U fs.toList e h;refine⟨?_,k2,fun hf=>by rw[K]at hf;cases hf⟩;simp only[valOf,K,if_true];have:=run_equalIn_struct (P:=P) w (d+n) t m.toArray z.toArray (by rw[Q];exact p) O;rw[Q]at this;rw[show d+(n+1)=d+n+1 from rfl,this];exact V
  cases h
def lU(e:E):∀(ts:Tam) (j i:Nat),(jq e j ts)[i]?=(ts[i]?).map fun t=>(E.un (.cell (j+i)) e,t)
 |[],j,i=>by simp[jq]
 |t::ts,j,0=>by simp[jq]
 |t::ts,j,i+1=>by simp only[jq,df,lU e ts (j+1) i];congr 2;funext t;congr 3;omega
def Bv(e:E):∀(ts:Tam) (j:Nat),(jq e j ts).length=ts.length
 |[],_=>rfl
 |_::ts,j=>by simp[jq,Bv e ts]
def Bl{ρ:Nat->D}{S:bG}{v:Tao}{e:E}{h:Ty}(m:bV w S v (den ρ e))(p:Has (.agg h) (den ρ e)):∃g:Tad,v=.agg g.toArray/\KG ρ w S g (jq e 0 h.V):=by
 obtain⟨l,n,d,u,rfl,c,r⟩:=m.Of p;refine⟨u,rfl,by rw[Bv,c,gh d],fun i v x j b=>?_⟩;rw[lU]at b;simp only[cQ]at b;obtain⟨t,k,rfl⟩:=b;obtain⟨x,b,f⟩:=dh d i t k;have q:den ρ (.un (.cell (0+i)) e)=x:=by simp only[den,U.den,n,D.V,aq];exact gf b
 rw[q];exact⟨r i v x j b,f⟩
def Po(J:iD C w G σ.tm a)(c:aV C.ρ pc=true)(h:Jn P σ pc o=some (s,is))(a5:∀it∈is,eR C Φ Pre it):jC P C w G a o s:=by
 unfold Jn at h;split at h
 .rename_i op g x y yt ho;have W:(execOp a.eval o)=(do let v<-(do eqGuard op g x y (a.eval x) (a.eval y);binOp op g (a.eval x) (a.eval y):Sem Tao);pure (.value v)):=by unfold execOp;simp only[ho]
  have d:∀{v:Tao},(do eqGuard op g x y (a.eval x) (a.eval y);binOp op g (a.eval x) (a.eval y):Sem Tao).run P w=.ok v w->(execOp a.eval o).run P w=.ok (.value v) w:=by intro v Z;rw[W,bz,Z];rfl
  split at h
  .rename_i ex k ey k' R O;obtain⟨m,I,L⟩:=dR J c R;obtain⟨H,F,Y⟩:=dR J c O;split at h
   .rename_i hk;subst hk;split at h
    .rename_i b a8 nz A;obtain⟨rfl,rfl⟩:=iE h;obtain⟨i,q,a6⟩:=dm.1 L;obtain⟨j,V,_⟩:=dm.1 Y;have e1:=(q▸I).dj;have X:=(V▸F).dj
     have a4:nz=true->j≠0:=by rintro rfl;have h7:eR C Φ Pre (.jY pc (.bin .ne ey (.aU k 0))):=a5 _ (by simp);have:=h7.2 c;simpa [den,B.den,V,D.J,D.Z]using this
     obtain⟨v,Z,hr⟩:=Gq (P:=P) (w:=w) A a6 a4 g x y;rw[<-e1,<-X]at Z;refine⟨v,d Z,by simp[E.lt,m,H],?_⟩;simp only[den,q,V];exact hr G.S
    cases h
   cases h
  .rename_i ex ey R O;obtain⟨m,I,L⟩:=dR J c R;obtain⟨H,F,Y⟩:=dR J c O;obtain⟨i,q⟩:=dg.1 L;obtain⟨j,V⟩:=dg.1 Y;have e1:=(q▸I).gV;have X:=(V▸F).gV;split at h
   .rename_i T;obtain⟨rfl,rfl⟩:=iE h;refine⟨.bool (i==j),d ?_,by simp[E.lt,m,H],?_,dg.2 ⟨_,rfl⟩⟩
    .rw[e1,X];have:=run_equalIn_bool' (P:=P) w 9999 g i j T;simp[eqGuard,binOp,Op.equal,Op.maxDepth,this]
    simp only[den,B.den,q,V,D.Z];exact .bool _
   .rename_i T;obtain⟨rfl,rfl⟩:=iE h;refine⟨.bool (!(i==j)),d ?_,by simp[E.lt,m,H],?_,dg.2 ⟨_,rfl⟩⟩
    .rw[e1,X];have:=run_equalIn_bool' (P:=P) w 9999 g i j T;simp[eqGuard,binOp,Op.equal,Op.maxDepth,this]
    simp only[den,B.den,U.den,q,V,D.Z];exact .bool _
   cases h
  .rename_i ex fs ey gs R O;obtain⟨m,I,L⟩:=dR J c R;obtain⟨H,F,Y⟩:=dR J c O;obtain⟨vx,a3,rx⟩:=Bl I L;obtain⟨vy,a2,ry⟩:=Bl F Y
   have u:∀{N:Nat} {e:E} (K:e.lt N=true) (j:Nat) (ts:Tam),∀z∈jq e j ts,z.1.lt N=true:=by intro N e K j ts z hz;obtain⟨i,q⟩:=au hz;rw[lU]at q;simp only[cQ]at q;obtain⟨t,_,rfl⟩:=q;simpa [E.lt]using K
   have a0:∀(N n:Nat) (t:Tbb) (xs ys:List (E×Ty)) (e:E),SB P n t xs ys=some e->(∀z∈xs,z.1.lt N=true)->(∀z∈ys,z.1.lt N=true)->e.lt N=true:=by
    intro N n
    induction n with
    |zero=>intro t xs ys e h;cases h
    |succ n ih=>
     intro t xs ys e h Q M;unfold SB at h;split at h
     .split at h
      .split at h
       .injection h with h;subst h;have:=Q _ (aG.2 rfl);have:=M _ (aG.2 rfl);simp_all [E.lt]
       cases h
      cases h
     .split at h
      .injection h with h;subst h;have:=Q _ (aG.2 rfl);have:=M _ (aG.2 rfl);simp_all [E.lt]
      cases h
     .split at h
      .cases h
      rename_i fs _ _;revert h;generalize fs.toList=l;intro h
      induction l generalizing e with
      |nil=>simp only[List.foldr_nil,aa]at h;subst h;rfl
      |cons f l ihl=>
       simp only[List.foldr_cons]at h;split at h
       .rename_i r sz hr a9;split at h
        .split at h
         .rename_i e0 a7;injection h with h;subst h;have h1:=ih f.type _ _ e0 a7 (fun z hz=>Q z (dx (cV hz))) (fun z hz=>M z (dx (cV hz)));simp[E.lt,h1,ihl r hr]
         cases h
        cases h
       cases h
     cases h
   split at h
   .rename_i e ha hg K;obtain⟨rfl,rfl⟩:=iE h;obtain⟨k1,⟨b,A⟩,_⟩:=HX (P:=P) (w:=w) C.ρ G.S Fm g _ _ e K vx vy 9992 rx ry;simp only[valOf,ha,if_true,Fm]at k1;refine⟨.bool b,d ?_,a0 _ _ _ _ _ _ K (u m 0 _) (u H 0 _),by rw[A];exact .bool b,dg.2 ⟨b,A⟩⟩;rw[a3,a2];rw[bz,run_eqGuard_agg w .eql g x y _ _ hg];simp only[bZ];rw[run_eql_struct,k1,A];rfl
   .rename_i e ha hg K;obtain⟨rfl,rfl⟩:=iE h;obtain⟨k1,⟨b,A⟩,_⟩:=HX (P:=P) (w:=w) C.ρ G.S Fm g _ _ e K vx vy 9992 rx ry;simp only[valOf,ha,if_true,Fm]at k1;refine⟨.bool (!b),d ?_,by simpa [E.lt]using a0 _ _ _ _ _ _ K (u m 0 _) (u H 0 _),by simp only[den,U.den,A,D.Z];exact .bool _,dg.2 ⟨!b,by simp only[den,U.den,A,D.Z]⟩⟩;rw[a3,a2];rw[bz,run_eqGuard_agg w .neq g x y _ _ hg];simp only[bZ];rw[run_neq_struct,k1,A];rfl
   cases h
  .rename_i ex fs gs R O;obtain⟨m,I,L⟩:=dR J c R;obtain⟨H,F,Y⟩:=dR J c O;have X:a.eval y=.pointer none:=by simp only[den]at F;exact F.rT
   have e1:∃p,a.eval x=.pointer p/\p.isNone=(den C.ρ ex).iL:=by
    rcases kX.1 L with hn|⟨l,hl,_⟩
    .exact⟨none,(hn▸I).rT,by rw[hn];rfl⟩
    obtain⟨b,cs,Z,_⟩:=(hl▸I).qu;exact⟨_,Z,by rw[hl];rfl⟩
   obtain⟨p,hp,a1⟩:=e1;split at h
   .rename_i el T;obtain⟨rfl,rfl⟩:=iE h;refine⟨.bool p.isNone,d ?_,by simpa [E.lt]using m,by simp only[den,U.den,<-a1];exact .bool _,dg.2 ⟨_,rfl⟩⟩;rw[hp,X];exact pz T p x y
   .rename_i el T;obtain⟨rfl,rfl⟩:=iE h;refine⟨.bool (!p.isNone),d ?_,by simpa [E.lt]using m,by simp only[den,U.den,D.Z,<-a1];exact .bool _,dg.2 ⟨_,rfl⟩⟩;rw[hp,X];exact py T p x y
   cases h
  cases h
 cases h
def Gv(i:iD C w G σ.tm a)(c:aV C.ρ pc=true)(h:vT P σ pc o=some (s,is)):jC P C w G a o s:=by
 unfold vT at h;split at h
 .rename_i op e x y r q
  have d:∀{v:Tao},(do eqGuard op e x y (a.eval x) (a.eval y);binOp op e (a.eval x) (a.eval y):Sem Tao).run P w=.ok v w->(execOp a.eval o).run P w=.ok (.value v) w:=by
   intro v p;have b:(execOp a.eval o)=(do let v<-(do eqGuard op e x y (a.eval x) (a.eval y);binOp op e (a.eval x) (a.eval y):Sem Tao);pure (.value v)):=by unfold execOp;simp only[q]
   rw[b,bz,p];rfl
  split at h
  .rename_i id l t u n m g;have k:=(cS i c n).2;obtain⟨_,f,_⟩:=dR i c m;have j:a.eval y=.pointer none:=by simp only[den]at f;exact f.rT
   split at h
   .obtain⟨rfl,rfl⟩:=iE h;refine⟨.bool false,d ?_,rfl,.bool _,dg.2 ⟨_,rfl⟩⟩;rw[k,j];exact pz g _ x y
   .obtain⟨rfl,rfl⟩:=iE h;refine⟨.bool true,d ?_,rfl,.bool _,dg.2 ⟨_,rfl⟩⟩;rw[k,j];exact py g _ x y
   cases h
  cases h
 cases h
def La(d:iD C w G σ.tm a)(b:aV C.ρ pc=true)(h:DI P σ pc o=some (s,is))(c:∀e∈is,eR C Φ Pre e):jC P C w G a o s:=by
 unfold DI at h;split at h
 .rename_i r f;injection h with h;subst h;exact Gv d b f
 exact Po d b h c
end
section
variable{P:Tba}{C:Cx}{w w0:Tan}{S0:gw}{G:Gh}{σ:St}{a:Act}{o:Tbd}{pc:dJ}{s:SV}{is:List Item}{Φ:Tab}{Pre:Taa}
def JR(p:iD C w G σ.tm a)(f:aV C.ρ pc=true)(h:Mm P σ pc o=some (s,is)):jC P C w G a o s:=by
 unfold Mm at h;split at h
 .rename_i t x l;split at h
  .rename_i e m;obtain⟨rfl,rfl⟩:=iE h;obtain⟨j,i,g⟩:=dR p f m;obtain⟨b,c⟩:=dg.1 g;have n:=(c▸i).gV;refine⟨.bool (!b),by unfold execOp;simp only[l,n];rfl,by simpa [E.lt]using j,?_,dg.2 ⟨_,rfl⟩⟩;simp only[den,U.den,c,D.Z];exact .bool _
  cases h
 .rename_i t x l;split at h
  .rename_i e k m;obtain⟨rfl,rfl⟩:=iE h;obtain⟨j,i,g⟩:=dR p f m;obtain⟨b,c,_⟩:=dm.1 g;have n:=(c▸i).dj;refine⟨.int k (k.wrap (0-b)),by unfold execOp;simp only[l,n];rfl,by simpa [E.lt]using j,?_,dm.2 ⟨_,rfl,nP _ _⟩⟩;simp only[den,U.den,c,D.J];exact .int _ _
  cases h
 .rename_i r d x l;split at h
  .rename_i e v u k m hs q;obtain⟨rfl,rfl⟩:=iE h;obtain⟨j,i,g⟩:=dR p f m;obtain⟨b,c,_⟩:=dm.1 g;have n:=(c▸i).dj;refine⟨.int k (k.wrap b),?_,by simpa [E.lt]using j,?_,dm.2 ⟨_,rfl,nP _ _⟩⟩
   .unfold execOp;simp only[l,n,convert];simp[run_underlying hs,run_underlying q,Conv.intToInt]
   simp only[den,U.den,c,D.J];exact .int _ _
  cases h
 cases h
def EA(p:iD C w G σ.tm a)(i:aV C.ρ pc=true)(h:tC P σ pc o=some (s,is)):jC P C w G a o s:=by
 unfold tC at h;split at h
 .rename_i x j m;split at h
  .rename_i l q;obtain⟨d,k,e,n⟩:=cS p i q;split at h
   .rename_i r g;obtain⟨rfl,rfl⟩:=iE h;have b:j<d.length:=by rw[e];exact(aD.1 g).1
    have f:d[j]?=some d[j]:=aR b;refine⟨d[j],?_,?_⟩
    .unfold execOp;simp only[m,k,Instr.extract];simp[b]
    have:=n j _ _ g f;simpa [lC,wP]using this
   .rename_i c g;obtain⟨rfl,rfl⟩:=iE h;have b:j<d.length:=by rw[e];exact(aD.1 g).1
    have f:d[j]?=some d[j]:=aR b;refine⟨d[j],?_,?_⟩
    .unfold execOp;simp only[m,k,Instr.extract];simp[b]
    have:=n j _ _ g f;simpa [lC,wP]using this
   cases h
  cases h
 cases h
def uR{t:Tbb}{f:Nat}{fl:Field}{n:Nat}(h:kj P t f=some (fl,n)):∃b,P.underlying t=some (.struct b)/\b[f]?=some fl/\ik P fl.type=some n:=by
 unfold kj at h;split at h
 .rename_i b c;split at h
  .rename_i g d;simp only[cQ,ae]at h;obtain⟨i,e,rfl,rfl⟩:=h;exact⟨b,c,d,e⟩
  cases h
 cases h
def kG{t:Tbb}{f:Nat}{fl:Field}{n:Nat}(h:kj P t f=some (fl,n+1))(b o:Nat):
  (Instr.fieldAt t (.pointer (some ⟨b,o,none⟩)) f).run P w=.ok (.pointer (some ⟨b,o+fl.offset,none⟩)) w:=by obtain⟨g,c,d,hs⟩:=uR h;have e:=hJ (P:=P) (w:=w) hs;simp[Instr.fieldAt,run_underlying c,d,Instr.sureAddr,fieldPlace,e,fL]
def BH(B:iD C w G σ.tm a)(d:aV C.ρ pc=true)(h:oX P σ pc o=some (s,is)):jC P C w G a o s:=by
 unfold oX at h;split at h
 .rename_i t x f S
  have k:∀{v u:Tao},a.eval x=v->(Instr.fieldAt t v f).run P w=.ok u w->(execOp a.eval o).run P w=.ok (.value u) w:=by intro v u q J;unfold execOp;simp only[S,q];rw[bz,J];rfl
  split at h
  .rename_i fl n id z r p;obtain⟨rfl,rfl⟩:=iE h;obtain⟨y,A⟩:=cS B d p;exact⟨_,k A (kG r _ _),y,rfl⟩
  .rename_i fl n l i u z r p;obtain⟨rfl,rfl⟩:=iE h;obtain⟨y,A,b,R,I,q,L,E⟩:=cS B d p;exact⟨_,k q (kG r _ _),y,A,b,R,I,by rw[fu],L,E⟩
  .rename_i fl n e X z r p;obtain⟨rfl,rfl⟩:=iE h;obtain⟨y,b,l,I,T,F,q,E⟩:=cS B d p;exact⟨_,k q (kG r _ _),y,b,l,I,T,F,rfl,E⟩
  .rename_i fl n e X r p;obtain⟨rfl,rfl⟩:=iE h;obtain⟨y,A,M⟩:=cS B d p;obtain⟨l,F,L⟩:=ia.1 M;obtain⟨b,H,q,D,U,E,J⟩:=(F▸A).qu;refine⟨_,k q (kG r _ _),y,b,l,fun j=>H.getD j undef,F,L,by rw[aq],fun j c O=>?_⟩;have K:j<H.length:=by rw[D];exact(aD.1 O).1
   have Q:H[j]?=some (H.getD j undef):=by simp[List.getD,K]
   exact⟨U j (by omega),E j _ Q,J j _ c Q O⟩
  .rename_i fl n g i u z r p;obtain⟨rfl,rfl⟩:=iE h;obtain⟨y,A,b,N,m,M,W,V,q⟩:=cS B d p;exact⟨_,k q (kG r _ _),y,A,b,N,m,M,W,V,by rw[fu]⟩
  cases h
 cases h
def jK.cut{l:List SC}{vs:Tad}(h:jK C w G l vs)(off n:Nat):jK C w G ((l.drop off).take n) ((vs.drop off).take n):=by
 refine⟨by simp[h.1],fun i c v d b=>?_⟩;simp only[aC,aL]at b d;split at b
 .rename_i e;rw[if_pos e]at d;exact h.2 _ c v d b
 cases b
def GU{s:SV}{l:List SC}{v:Tao}(h:Ba s=some l)(j:wP C w G s v):∃vs:Tad,v=.agg vs.toArray/\jK C w G l vs:=by
 unfold Ba at h;split at h
 .injection h with h;subst h;exact j
 .rename_i e B;injection h with h;subst h;obtain⟨z,y,u⟩:=j;obtain⟨l,q,k,A,rfl,b,r⟩:=y.Of u;refine⟨A,rfl,by rw[qK,b,gh k],fun i c v d n=>?_⟩;rw[qL]at d;simp only[cQ]at d;obtain⟨t,p,rfl⟩:=d;obtain⟨x,g,f⟩:=dh k i t p;have m:den C.ρ (.un (.cell (0+i)) e)=x:=by simp only[den,U.den,q,D.V,aq];exact gf g
  exact⟨by simpa [E.lt]using z,by rw[m];exact r i v x n g,by rw[m];exact f⟩
 cases h
def Is(D:iD C w G σ.tm a)(r:aV C.ρ pc=true)(h:zp P σ pc o=some (s,is)):jC P C w G a o s:=by
 unfold zp at h;split at h
 .rename_i t x f E;split at h
  .rename_i fl n L F m;cases hg:fT P σ pc x t with
   |none=>simp[hg]at m
   |some sv=>
    simp only[hg,cg]at m;split at h
    .rename_i i;obtain⟨e,v⟩:=i;obtain⟨J,z⟩:=cW.1 e;obtain⟨d,p,q⟩:=GU m (cS D r hg);obtain⟨K,B,y,hs⟩:=uR F
     have k:∀{u:Tao},(part fl.type d.toArray fl.offset).run P w=.ok u w->(execOp a.eval o).run P w=.ok (.value u) w:=by intro u g;unfold execOp;simp only[E,p,Instr.field,asAgg];simp[run_underlying B,y,g]
     have b:fl.offset+n<=d.length:=by rw[q.1];exact v
     split at h
     .rename_i l;obtain⟨rfl,rfl⟩:=iE h;have g:=rL (w:=w) z hs d b (fun h=>by rw[l]at h;cases h);simp only[valOf,l,if_true]at g;exact⟨_,k g,_,rfl,q.cut _ _⟩
     rename_i l;split at h
     .rename_i A;split at h
      .rename_i c H;obtain⟨rfl,rfl⟩:=iE h;have g:=rL (w:=w) z hs d b (fun _=>A);have j:fl.offset<d.length:=by omega
       have I:((d.drop fl.offset).take n).getD 0 undef=d[fl.offset]:=by simp[List.getD,aL,A,j]
       simp only[valOf,l,ai,if_false,I]at g;exact⟨_,k g,q.2 _ c _ H (aR j)⟩
      cases h
     cases h
    cases h
  cases h
 cases h
def Ez(L:iD C w G σ.tm a)(m:aV C.ρ pc=true)(h:nd P σ pc o=some (s,is))(I:∀Y∈is,eR C Φ Pre Y):jC P C w G a o s:=by
 unfold nd at h;split at h
 .rename_i t x i ho;split at h
  .rename_i el e u v k hu Z hi;split at h
   .rename_i g;obtain⟨g,M⟩:=g;obtain⟨rfl,rfl⟩:=iE h;obtain⟨W,V,T⟩:=dR L m Z;obtain⟨S,R,Q⟩:=dR L m hi;obtain⟨l,H,a0,r⟩:=bO.1 T;obtain⟨n,E,_⟩:=dm.1 Q;have A:eR C Φ Pre (.jY pc (.bin .and (.bin .le (.aU k 0) v) (.bin .lt v (.un .len e)))):=I _ (by simp);have O:=A.2 m;simp only[den,B.den,U.den,H,E,D.J,D.Z,D.V,aP,bg]at O;obtain⟨K,J⟩:=O;have F:n.toNat<l.length:=by omega
    have p:l[n.toNat]?=some l[n.toNat]:=aR F
    have f:den C.ρ (.bin .idx e v)=l[n.toNat]:=by simp only[den,B.den,H,E,D.J,D.V];exact gf p
    have d:=r _ (bT p);have y:=(cZ d).1;obtain⟨b,q,a1,X,hv,hc⟩:=(H▸V).FW p;have z:a.eval i=.int k n:=(E▸R).dj;refine⟨.pointer (some ⟨b,q+n.toNat*u.cells.length,none⟩),?_,W,S,b,q+n.toNat*u.cells.length,X,by simp,by rw[f];exact d,?_⟩
    .have h1:=hJ (P:=P) (w:=w) g;unfold execOp;simp only[ho,hv,z,Instr.indexAt,asIntOf];simp[run_underlying hu,K,J,h1,fL]
    intro j c N;rw[f]at N;rw[<-y];exact hc j c N
   cases h
  cases h
 cases h
def Cb(m:iD C w G σ.tm a)(d:aV C.ρ pc=true)(h:lR P σ pc o=some (s,is)):jC P C w G a o s:=by
 unfold lR at h;split at h
 .rename_i t x k n p;split at h
  .rename_i len y id b l i;split at h
   .rename_i g c;split at h
    .rename_i q;obtain⟨f,e⟩:=q;obtain⟨rfl,rfl⟩:=iE h;obtain⟨v,u⟩:=cS m d i;refine⟨.pointer (some ⟨G.β id,b+n.toNat*g,none⟩),?_,v,rfl⟩;have r:=hJ (P:=P) (w:=w) c;have j:a.eval (.const (.int k n))=.int k n:=rfl;unfold execOp;simp only[p,u,j,Instr.indexAt,asIntOf];simp[run_underlying l,f,e,r,fL,Instr.sureAddr]
    cases h
   cases h
  cases h
 cases h
def LI{e:E}{n:Int}{k:IntKind}{ρ:Nat->D}(h:HY e=some n)(g:Has (.int k) (den ρ e)):den ρ e=.int k n:=by
 unfold HY at h;split at h
 .rename_i f;have b:den ρ e=den (fun _=>.top) e:=(dN (n:=0) (fun i q=>by omega) f);split at h
  .rename_i p m c;injection h with h;subst h;obtain⟨l,d,_⟩:=dm.1 g;rw[b,c]at d;injection d with j r;rw[b,c,j]
  cases h
 cases h
def BF(l:iD C w G σ.tm a)(b:aV C.ρ pc=true)(h:kI P σ pc o=some (s,is)):jC P C w G a o s:=by
 unfold kI at h;split at h
 .rename_i t x i v;split at h
  .rename_i len H id c F k u q z;split at h
   .rename_i m n d y;split at h
    .rename_i g;obtain⟨f,e⟩:=g;obtain⟨rfl,rfl⟩:=iE h;obtain⟨E,D⟩:=cS l b q;obtain⟨_,j,p⟩:=dR l b z;have A:=LI y p;rw[A]at j;have r:=j.dj;refine⟨.pointer (some ⟨G.β id,c+n.toNat*m,none⟩),?_,E,rfl⟩;have B:=hJ (P:=P) (w:=w) d;unfold execOp;simp only[v,D,r,Instr.indexAt,asIntOf];simp[run_underlying u,f,e,B,fL,Instr.sureAddr]
    cases h
   cases h
  cases h
 cases h
def BG(d:iD C w G σ.tm a)(b:aV C.ρ pc=true)(h:oW P σ pc o=some (s,is))(e:∀f∈is,eR C Φ Pre f):jC P C w G a o s:=by
 unfold oW at h;split at h
 .rename_i y c;injection h with h;subst h;exact Cb d b c
 split at h
 .rename_i y c;injection h with h;subst h;exact BF d b c
 exact Ez d b h e
def Pn(r:iD C w G σ.tm a)(c:aV C.ρ pc=true)(h:Jm P σ pc o=some (s,is))(B:∀K∈is,eR C Φ Pre K):jC P C w G a o s:=by
 unfold Jm at h;split at h
 .rename_i x L
  have f:∀{H:Addr},a.eval x=.pointer (some H)->(execOp a.eval o).run P w=.ok (.value (.pointer (some H))) w:=by intro H d;unfold execOp;simp only[L,d];rfl
  split at h
  .rename_i id q k;obtain⟨rfl,rfl⟩:=iE h;have j:=cS r c k;exact⟨_,f j.2,j.1,rfl⟩
  .rename_i e I q k;obtain⟨rfl,rfl⟩:=iE h;have j:=cS r c k;obtain⟨p,b,l,z,N,t,d,E⟩:=j;exact⟨_,f d,p,b,l,z,N,t,rfl,E⟩
  .rename_i l i u q k;obtain⟨rfl,rfl⟩:=iE h;have j:=cS r c k;obtain⟨p,n,b,J,z,d,y,E⟩:=j;exact⟨_,f d,p,n,b,J,z,rfl,y,E⟩
  .rename_i g i u q k;obtain⟨rfl,rfl⟩:=iE h;have j:=cS r c k;obtain⟨p,n,b,F,m,v,R,Q,d⟩:=j;exact⟨_,f d,p,n,b,F,m,v,R,Q,rfl⟩
  .rename_i e I k;obtain⟨rfl,rfl⟩:=iE h;have j:=cS r c k;obtain⟨p,n,v⟩:=j;obtain⟨l,t,y⟩:=ia.1 v;obtain⟨b,S,d,_⟩:=(t▸n).qu;exact⟨_,f d,p,by rw[<-d];exact n,v⟩
  .rename_i e I k;obtain⟨rfl,rfl⟩:=iE h;have j:=cS r c k;obtain⟨p,n,v⟩:=j;have A:eR C Φ Pre (.jY pc (.un .not (.un .zU e))):=B _ (by simp);have O:=A.2 c;rcases kX.1 v with M|⟨l,t,y⟩
   .simp[den,U.den,M,D.iL,D.Z]at O
   obtain⟨b,S,d,_⟩:=(t▸n).qu;exact⟨_,f d,p,by rw[<-d];exact n,ia.2 ⟨l,t,y⟩⟩
  cases h
 cases h
def jJ{t:Tbb}{n:Nat}(hs:ik P t=some n)(c:iW P t=true){b off:Nat}{vs:Tad}(h:vs.length=n)(i:∀(j:Nat) v,vs[j]?=some v->w.cell? ⟨b,off+j,none⟩=some v):(Instr.loadAt t (.pointer (some ⟨b,off,none⟩))).run P w=.ok (.agg vs.toArray) w:=by
 have e:∃d,P.underlying t=some d:=by
  unfold iW at c;cases hq:P.underlying t with
  |none=>rw[hq]at c;cases c
  |some d=>exact⟨d,rfl⟩
 obtain⟨d,e⟩:=e;have f:=xr (P:=P) (w:=w) e;have k:=run_loadCells_list (P:=P) w ⟨b,off,none⟩ vs (fun j v g=>by rw[fL];exact i j v g);rw[c]at f;simp[Instr.loadAt,Instr.sureAddr,loadVar,f,hJ hs,<-h,k]
def mT{t:Tbb}(g:iW P t=false)(b:(P.underlying t).isSome=true){e:Addr}{v:Tao}(f:w.cell? e=some v):(Instr.loadAt t (.pointer (some e))).run P w=.ok v w:=by obtain⟨d,b⟩:=cW.1 b;have c:=xr (P:=P) (w:=w) b;rw[g]at c;simp[Instr.loadAt,Instr.sureAddr,loadVar,c,f]
def sq{T:Tbb}{e:E}{u:Ty}{off:Nat}(h:rW P T e u off=some (s,is))(hu:(P.underlying T).isSome=true){b o':Nat}{uu:Tak}(R:e.lt C.N=true)(q:Has u (den C.ρ e))(I:∀(j:Nat) c,(den C.ρ e).cells[j]?=some c->w.cell? ⟨b,o'+j,none⟩=some (uu j)/\bV w G.S (uu j) c):
  ∃v,(Instr.loadAt T (.pointer (some ⟨b,o'+off,none⟩))).run P w=.ok v w/\wP C w G s v:=by
 have g:∀{t:Ty} {V:E} {c:D},iW P T=false->V.lt C.N=true->den C.ρ V=c->(den C.ρ e).cells[off]?=some c->Has t c->s=.one (.gz V t)->∃v,(Instr.loadAt T (.pointer (some ⟨b,o'+off,none⟩))).run P w=.ok v w/\wP C w G s v:=by intro t V c r Y m f a1 hs;subst hs;obtain⟨h2,h3⟩:=I off c f;exact⟨_,mT r hu h2,Y,by rw[m];exact h3,by rw[m];exact a1⟩
 unfold rW at h;split at h
 .rename_i fs n hs;obtain⟨l,Q,H⟩:=eA.1 q;have L:=gh H;rw[Q]at I g;simp only[D.cells]at I g;split at h
  .rename_i r;split at h
   .rename_i p;obtain⟨rfl,hn⟩:=p;obtain⟨rfl,rfl⟩:=iE h;have z:((List.range n).map uu).length=n:=by simp
    refine⟨_,jJ hs r (vs:=(List.range n).map uu) z (fun j v A=>?_),R,?_,q⟩
    .have f:j<n:=by have:=(aD.1 A).1;simpa using this
     simp only[ab,cN f,aS,aa]at A;subst A;have B:l[j]?=some l[j]:=aR (by omega);exact(I j _ B).1
    rw[Q];refine .agg _ l (by simp[L,hn]) fun i v d F m=>?_;have f:i<n:=by have:=(aD.1 F).1;simpa using this
    simp only[ab,cN f,aS,aa]at F;subst F;exact(I i d m).2
   split at h
   .rename_i a2;obtain⟨rfl,rfl⟩:=iE h;have z:((List.range n).map fun j=>uu (off+j)).length=n:=by simp
    have m:den C.ρ (.un (.part off n) e)=.agg ((l.drop off).take n):=by simp only[den,U.den,Q,D.V]
    refine⟨_,jJ hs r (vs:=(List.range n).map fun j=>uu (off+j)) z (fun j v A=>?_),by simpa [E.lt]using R,?_,?_⟩
    .have f:j<n:=by have:=(aD.1 A).1;simpa using this
     simp only[ab,cN f,aS,aa]at A;subst A;have B:l[off+j]?=some l[off+j]:=aR (by omega);rw[fu];exact(I _ _ B).1
    .rw[m];refine .agg _ _ (by simp;omega) fun i v d F m=>?_;have f:i<n:=by have:=(aD.1 F).1;simpa using this
     simp only[ab,cN f,aS,aa]at F;subst F;simp only[aC,aL,if_pos f]at m;exact(I _ d m).2
    rw[m];refine eA.2 ⟨_,rfl,jd (by simp;omega) fun j u x f k=>?_⟩;simp only[aC,aL]at f k;split at f
    .rename_i Z;rw[if_pos Z]at k;obtain⟨y,O,a0⟩:=dh H _ u f;rw[k]at O;injection O with O;subst O;exact a0
    cases f
   cases h
  rename_i r;split at h
  .rename_i t X;split at h
   .obtain⟨rfl,rfl⟩:=iE h;obtain⟨x,k,M⟩:=dh H off t X;have m:den C.ρ (.un (.cell off) e)=x:=by simp only[den,U.den,Q,D.V];exact gf k
    exact g (by simpa using r) (by simpa [E.lt]using R) m k M rfl
   cases h
  cases h
 rename_i u _ _ _;split at h
 .rename_i p;obtain⟨r,rfl,K⟩:=p;obtain⟨rfl,rfl⟩:=iE h;obtain⟨k1,k2⟩:=cZ q;have W:u.cells=[u]:=by cases u<;>first|rfl|cases K
  rw[W]at k1 k2;obtain⟨x,k,M⟩:=k2 0 u rfl
  have J:x=den C.ρ e:=by
   generalize den C.ρ e=d at*;cases u<;>(first|cases K|skip)<;>simp only[dm,dg,mP,bO,ia,kX,lI]at q
   case ptr=>rcases q with rfl|⟨n,rfl,_⟩<;>(simp[D.cells]at k;exact k.symm)
   all_goals first
    |(obtain⟨n,rfl,_⟩:=q;simp[D.cells]at k;exact k.symm)
    |(obtain⟨n,rfl⟩:=q;simp[D.cells]at k;exact k.symm)
  exact g r R J.symm k (by rw[J];exact q) rfl
 cases h
def K9{rd:Tai}(hm:eU w0 S0 C G σ w)(V:iD C w G σ.tm a)(y:aV C.ρ pc=true)(h:DH P σ pc o=some ((s,is),rd)):jC P C w G a o s:=by
 unfold DH at h;split at h
 .rename_i t x ho
  have q:∀{v u:Tao},a.eval x=v->(Instr.loadAt t v).run P w=.ok u w->(execOp a.eval o).run P w=.ok (.value u) w:=by intro v u r z;unfold execOp;simp only[ho,r];rw[bz,z];rfl
  split at h
  .cases h
  rename_i d;have d:(P.underlying t).isSome=true:=by cases hq:P.underlying t<;>simp[hq]at d⊢
  split at h
  .rename_i id f B;have r:=(cS V y B).2;split at h
   .rename_i ro H a0;obtain⟨_,_,Q,_⟩:=hm.box id ro H a0;split at h
    .cases h
    rename_i X;obtain⟨I,T,hg,z⟩:=Q.cells (by simpa using X);have p:∀j,w.cell? ⟨G.β id,j,none⟩=I[j]? :=by intro j;rw[cell_of_row w _ j _ T _ hg];simp
    split at h
    .rename_i ha;split at h
     .rename_i n hs;split at h
      .rename_i a1;injection h with h;simp only[ae]at h;obtain⟨⟨rfl,rfl⟩,rfl⟩:=h;have g:((I.drop f).take n).length=n:=by have:=z.1;simp;omega
       refine⟨_,q r (jJ hs ha g (fun j v k=>?_)),_,rfl,z.cut f n⟩;rw[p];simp only[aC,aL]at k;split at k
       .exact k
       cases k
      cases h
     cases h
    rename_i ha;split at h
    .rename_i c A;injection h with h;simp only[ae]at h;obtain⟨⟨rfl,rfl⟩,rfl⟩:=h;have Y:f<I.length:=by rw[z.1];exact(aD.1 A).1
     have L:I[f]?=some I[f]:=aR Y;exact⟨_,q r (mT (by simpa using ha) d ((p f).trans L)),z.2 f c _ A L⟩
    cases h
   cases h
  .rename_i l i u f B;simp only[cQ,ae]at h;obtain⟨⟨s',K⟩,S,⟨rfl,rfl⟩,rfl⟩:=h;obtain⟨R,h3,b,o',uu,r,O,A⟩:=cS V y B;obtain⟨v,F,J⟩:=sq (P:=P) (C:=C) (w:=w) (G:=G) S d (by simp[E.lt,R,h3]) O (fun j c k=>(A j c k).2);exact⟨v,q r F,J⟩
  .rename_i e fs f B;simp only[cQ,ae]at h;obtain⟨⟨s',K⟩,S,⟨rfl,rfl⟩,rfl⟩:=h;obtain⟨R,b,l,uu,W,O,r,A⟩:=cS V y B;have m:den C.ρ (.un .agg e)=.agg l:=by simp only[den,U.den,W,D.V]
   obtain⟨v,F,J⟩:=sq (P:=P) (C:=C) (w:=w) (G:=G) (b:=b) (o':=0) (uu:=uu) S d (by simpa [E.lt]using R) (by rw[m];exact eA.2 ⟨l,rfl,O⟩)
    (by rw[m];simp only[D.cells];intro j c k;rw[aq];exact(A j c k).2)
   rw[aq]at F;exact⟨v,q r F,J⟩
  .rename_i e fs B;simp only[cQ,ae]at h;obtain⟨⟨s',K⟩,S,⟨rfl,rfl⟩,rfl⟩:=h;obtain⟨R,M,N⟩:=cS V y B;obtain⟨l,W,O⟩:=ia.1 N;obtain⟨b,H,r,g,hS,A,z⟩:=(W▸M).qu;have m:den C.ρ (.un .agg e)=.agg l:=by simp only[den,U.den,W,D.V]
   obtain⟨v,F,J⟩:=sq (P:=P) (C:=C) (w:=w) (G:=G) (b:=b) (o':=0) (uu:=fun j=>H.getD j undef) S d (by simpa [E.lt]using R) (by rw[m];exact eA.2 ⟨l,rfl,O⟩)
    (by
     rw[m];simp only[D.cells];intro j c k;rw[aq];have Z:j<H.length:=by rw[g];exact(aD.1 k).1
     have e1:H[j]?=some (H.getD j undef):=by simp[List.getD,Z]
     exact⟨A j _ e1,z j _ c e1 k⟩)
   exact⟨v,q r F,J⟩
  cases h
 cases h
end
def lW:Tam->Tad->Tap (List SC)
 |[],[]=>some []
 |t::ts,v::vs=>match qp t v,lW ts vs with
  |some c,some cs=>some (c::cs)
  |_,_=>none
 |_,_=>none
def uD(b:Nat->Tap (Nat×Nat)):List SC->List (Nat×List SC)->Tap (List SC)
 |cells,[]=>some cells
 |cells,(i,cs)::rest=>
  match b i with
  |some (off,size)=>if cs.length=size/\off+cs.length<=cells.length then uD b (cells.take off++cs++cells.drop (off+cs.length)) rest else none
  |none=>none
def ma(P:Tba)(σ:St)(pc:dJ)(b:Nat->Tbb):List (Nat×Tbc)->Tap (List (Nat×List SC))
 |[]=>some []
 |(i,x)::rest=>
  match (fT P σ pc x (b i)).bind mc,ma P σ pc b rest with
  |some cs,some r=>if cs.all SC.scalar then some ((i,cs)::r) else none
  |_,_=>none
def zq(P:Tba)(σ:St)(pc:dJ)(o:Tbd):Tap Pl:=
 match o.op with
 |.build t parts=>
  match P.underlying t,P.info? t,flat P Fo t with
  |some (.struct fs),some it,some ts=>
   match it.zero,fs.toList.mapM (fun f=>(P.info? f.type).map fun i=>(f.offset,i.size)),ma P σ pc (fun i=>((fs[i]?).map (·.type)).getD 0) parts.toList with
   |some z,some Xn,some ps=>
    match lW ts z.cells.toList with
    |some zs=>(uD (Xn.toArray[·]?) zs ps).map fun b=>(.agg b,[])
    |none=>none
   |_,_,_=>none
  |_,_,_=>none
 |_=>none
def qn(b:Bool)(size:Nat)(es:List E):Nat->List E
 |0=>[]
 |n+1=>(if b then .un .agg (.Y (es.take size)) else es.headD .nil)::qn b size (es.drop size) n
def qQ(P:Tba)(σ:St)(pc:dJ)(o:Tbd):Tap (E×Tbb×Ty×Nat):=
 match o.op with
 |.buildSlice t len parts=>
  match P.underlying t with
  |some (.slice el)=>
   match P.info? el,YQ P el,flat P Fo el,ma P σ pc (fun _=>el) parts.toList with
   |some ie,some u,some ts,some ps=>
    match ie.zero.bind fun z=>lW ts z.cells.toList with
    |some zs=>
     if zs.length=ie.size/\u.cells.length=ie.size/\0<ie.size/\len*ie.size<=16777216/\len*u.bytes<=140737488355328 then
      match uD (fun i=>some (i*ie.size,ie.size)) ((List.range (len*ie.size)).map fun j=>zs.getD (j % zs.length) (.od .nil)) ps with
      |some cs=>
       match gM cs with
       |some (es,us)=>
        if us=(List.replicate len u.cells).flatten/\(iW P el=true\/u.scalar=true) then
         match iW P el,u with
         |true,.agg fs=>some (.Y (qn true ie.size es len),el,.agg (.Y fs.V),len)
         |false,u=>if ie.size=1 then some (.Y (qn false 1 es len),el,u,len) else none
         |_,_=>none
        else none
       |none=>none
      |none=>none
     else none
    |none=>none
   |_,_,_,_=>none
  |_=>none
 |_=>none
def Vv(k:IntKind):Tap Tao->Bool
 |some (.int k' z)=>decide (k'=k/\z=0)
 |_=>false
def QD{k:IntKind}{z:Tap Tao}(h:Vv k z=true):z=some (.int k 0):=by
 unfold Vv at h;split at h
 .obtain⟨rfl,rfl⟩:=of_decide_eq_true h;rfl
 cases h
def Ti(P:Tba)(o:Tbd):Tap (E×Tbb×Ty×Nat):=
 match o.op with
 |.makeSlice t (.const (.int _ n)) (.const (.int _ m))=>
  match P.underlying t with
  |some (.slice el)=>
   match P.info? el,YQ P el with
   |some ie,some (.int k)=>
    if n=m/\0<n/\n<=1000/\ie.size=1/\Vv k ie.zero=true/\ie.bytes<=8 then some (.Y (List.replicate n.toNat (.aU k 0)),el,.int k,n.toNat) else none
   |_,_=>none
  |_=>none
 |_=>none
def xb(P:Tba)(σ:St)(o:Tbd):Tap (E×Tbb×Ty×Nat):=
 match qQ P σ [] o with
 |some (e,T,t,n)=>some (e,T,t,n)
 |none=>Ti P o
section
variable{P:Tba}{C:Cx}{w w0:Tan}{S0:gw}{G:Gh}{σ:St}{a:Act}{o:Tbd}{pc:dJ}{s:SV}{is:List Item}{Φ:Tab}{Pre:Taa}
def AN(z:iD C w G σ.tm a)(f:aV C.ρ pc=true)(h:Cj P σ pc o=some (s,is)):jC P C w G a o s:=by
 unfold Cj at h;split at h
 .rename_i d n A;split at h
  .rename_i x t c Q;split at h
   .rename_i Z e u W v;obtain⟨rfl,rfl⟩:=iE h;obtain⟨r,q,p⟩:=dR z f v;obtain⟨l,L,⟨K,_⟩,_⟩:=bO.1 p;obtain⟨ad,Y,V⟩:=(L▸q).pQ;have b:d=#[x]:=by apply dC;simpa using c
    refine⟨.int i64 l.length,?_,by simpa [E.lt]using r,?_,?_⟩
    .unfold execOp;simp only[A,resolve,invoke,builtin,b];simp[Builtin.len_,Q,V,run_underlying W,goInt]
    .simp only[den,U.den,L,D.V];exact .int _ _
    simp only[den,U.den,L,D.V];refine dm.2 ⟨_,rfl,?_,?_⟩
    .show i64.min<=_;simp[IntKind.min,IntKind.signed,IntKind.bits];try omega
    show _<=i64.max;simp[IntKind.max,IntKind.signed,IntKind.bits];simp only[maxLen]at K;omega
   cases h
  cases h
 .rename_i d _ A;split at h
  .rename_i x y c;split at h
   .rename_i ex k X T v J;split at h
    .rename_i M;subst M;obtain⟨rfl,rfl⟩:=iE h;obtain⟨r,q,p⟩:=dR z f v;obtain⟨I,H,F⟩:=dR z f J;obtain⟨i,m,O⟩:=dm.1 p;obtain⟨j,g,N⟩:=dm.1 F;have S:=(m▸q).dj;have R:=(g▸H).dj;have b:d=#[x,y]:=by apply dC;simpa using c
     refine⟨.int k (if j<i then j else i),?_,by simp[E.lt,r,I],?_,?_⟩
     .unfold execOp;simp only[A,resolve,invoke,builtin,b];simp[Builtin.min_,Builtin.min2,S,R]
     .simp only[den,B.den,m,g,D.J];exact .int _ _
     simp only[den,B.den,m,g,D.J];refine dm.2 ⟨_,rfl,?_⟩;split<;>assumption
    cases h
   cases h
  cases h
 .rename_i d _ A;split at h
  .rename_i x y c;split at h
   .rename_i ex k X T v J;split at h
    .rename_i M;subst M;obtain⟨rfl,rfl⟩:=iE h;obtain⟨r,q,p⟩:=dR z f v;obtain⟨I,H,F⟩:=dR z f J;obtain⟨i,m,O⟩:=dm.1 p;obtain⟨j,g,N⟩:=dm.1 F;have S:=(m▸q).dj;have R:=(g▸H).dj;have b:d=#[x,y]:=by apply dC;simpa using c
     refine⟨.int k (if j>i then j else i),?_,by simp[E.lt,r,I],?_,?_⟩
     .unfold execOp;simp only[A,resolve,invoke,builtin,b];simp[Builtin.max_,Builtin.max2,S,R]
     .simp only[den,B.den,m,g,D.J];exact .int _ _
     simp only[den,B.den,m,g,D.J];refine dm.2 ⟨_,rfl,?_⟩;split<;>assumption
    cases h
   cases h
  cases h
 cases h
def qx:∀{ts:Tam} {vs:Tad} {cs:List SC},lW ts vs=some cs->jK C w G cs vs
 |[],[],cs,h=>by simp only[lW,aa]at h;subst h;exact⟨rfl,by intro i c v b;simp at b⟩
 |t::ts,v::vs,cs,h=>by
  simp only[lW]at h;split at h
  .rename_i c k j g;injection h with h;subst h;have e:=qx g;refine⟨by simp[e.1],fun i l f b d=>?_⟩;cases i with
   |zero=>simp at b d;subst b;subst d;exact(Db j).1
   |succ i=>exact e.2 i l f (by simpa using b) (by simpa using d)
  cases h
 |[],_::_,_,h=>by cases h
 |_::_,[],_,h=>by cases h
def foldl_set(off:Nat):∀(us:Tad) (k:Nat) (vs:Tad),off+k+us.length<=vs.length->
  (us.zipIdx k).foldl (fun(cs:Tbe Tao) (x:Tao×Nat)=>cs.setIfInBounds (off+x.2) x.1) vs.toArray=(vs.take (off+k)++us++vs.drop (off+k+us.length)).toArray
 |[],k,vs,_=>by simp
 |u::us,k,vs,h=>by have b:=foldl_set off us (k+1) (vs.set (off+k) u) (by simp at h⊢;omega);simp only[List.zipIdx_cons,List.foldl_cons,List.setIfInBounds_toArray,b];congr 1;have:=list_seg_step vs (off+k) u us (by simp at h;omega);rw[show off+(k+1)=off+k+1 by omega];simpa [fu]using this
def jK.Oy{l cs:List SC}{vs us:Tad}(h:jK C w G l vs)(k:jK C w G cs us){off:Nat}(m:off+cs.length<=l.length):
  jK C w G (l.take off++cs++l.drop (off+cs.length)) (vs.take off++us++vs.drop (off+us.length)):=by
 have g:=h.1;have e:=k.1;refine⟨by simp[g,e],fun i c v d b=>?_⟩;rw[dy,dy]at d b;simp only[ah,aO,g,e,Nat.min_eq_left (show off<=l.length by omega)]at d b;by_cases j:i<off+cs.length
 .rw[if_pos j]at d b;by_cases f:i<off
  .rw[if_pos f]at d b;simp only[aC,if_pos f]at d b;exact h.2 i c v d b
  rw[if_neg f]at d b;exact k.2 _ c v d b
 rw[if_neg j]at d b;simp only[aL]at d b;exact h.2 _ c v d b
def xF(e:Nat->Tap (Nat×Nat)):∀(c:List (Nat×List SC)) (d:Tac) (cells b:List SC) (vs:Tad),uD e cells c=some b->jK C w G cells vs->
  c.length=d.length->(∀(i:Nat) x y,c[i]?=some x->d[i]?=some y->x.1=y.1/\∃f:Tad,y.2.cells=f.toArray/\jK C w G x.2 f)->
  ∃l:Tad,Instr.fill e vs.toArray d=some l.toArray/\jK C w G b l
 |[],[],cells,b,vs,h,hr,_,_=>by simp only[uD,aa]at h;subst h;exact⟨vs,rfl,hr⟩
 |[],_::_,_,_,_,_,_,hl,_=>by simp at hl
 |_::_,[],_,_,_,_,_,hl,_=>by simp at hl
 |(i,A)::c,(j,v)::d,cells,b,vs,h,hr,hl,hp=>by
  obtain⟨q,f,B,n⟩:=hp 0 _ _ rfl rfl;simp only at q B n;subst q;simp only[uD]at h;split at h
  .rename_i g size r;split at h
   .rename_i H;obtain⟨u,t⟩:=H;obtain⟨l,K,J⟩:=xF e c d _ b _ h (hr.Oy n t) (by simpa using hl) (fun k x y F E=>hp (k+1) x y (by simpa using F) (by simpa using E));refine⟨l,?_,J⟩;have m:f.length=A.length:=n.1;simp only[Instr.fill,r,B];have D:=foldl_set g f 0 vs (by rw[hr.1,m];omega);simp only[dL]at D
    have p:¬((f.toArray.size≠size||decide (g+f.toArray.size>vs.toArray.size))=true):=by simp[m,u,hr.1];omega
    rw[if_neg p]
    have I:f.toArray.zipIdx.foldl (fun A (x:Tao×Nat)=>A.setIfInBounds (g+x.2) x.1) vs.toArray=(vs.take g++f++vs.drop (g+f.length)).toArray:=by rw[<-D,show f.toArray.zipIdx=(f.zipIdx).toArray by simp];exact List.foldl_toArray' _ _ _ (by simp)
    exact(congrArg (fun z=>Instr.fill e z d) I).trans K
   cases h
  cases h
def uK(m:iD C w G σ.tm a)(c:aV C.ρ pc=true)(b:Nat->Tbb):∀(l:List (Nat×Tbc)) (ps:List (Nat×List SC)),ma P σ pc b l=some ps->
  ps.length=(l.map fun(x:Nat×Tbc)=>(x.1,a.eval x.2)).length/\∀(i:Nat) x y,ps[i]?=some x->(l.map fun(x:Nat×Tbc)=>(x.1,a.eval x.2))[i]?=some y->x.1=y.1/\∃k:Tad,y.2.cells=k.toArray/\jK C w G x.2 k
 |[],ps,h=>by simp only[ma,aa]at h;subst h;exact⟨rfl,by intro i x y q;simp at q⟩
 |(i,x)::l,ps,h=>by
  simp only[ma]at h;split at h
  .rename_i u r g t;split at h
   .rename_i f;injection h with h;subst h;obtain⟨p,n⟩:=uK m c b l r t;refine⟨by simp[p],fun j y z e d=>?_⟩;cases j with
    |zero=>
     simp at e d;subst e;subst d;refine⟨rfl,?_⟩;cases hg:fT P σ pc x (b i) with
     |none=>simp[hg]at g
     |some sv=>
      simp only[hg,cg]at g;exact qC g (cS m c hg) f
    |succ j=>exact n j y z (by simpa using e) (by simpa using d)
   cases h
  cases h
def It(r:iD C w G σ.tm a)(k:aV C.ρ pc=true)(h:zq P σ pc o=some (s,is)):jC P C w G a o s:=by
 unfold zq at h;split at h
 .rename_i t b u;split at h
  .rename_i J I F q v y;split at h
   .rename_i z c H p j g;split at h
    .rename_i E e;simp only[cQ,ae]at h;obtain⟨K,l,rfl,_⟩:=h;obtain⟨n,m⟩:=uK r k _ _ _ g;have f:=qx (C:=C) (w:=w) (G:=G) e;obtain⟨d,D,B⟩:=xF _ _ _ _ _ _ l f n m;refine⟨.agg d.toArray,?_,d,rfl,B⟩
     have A:P.built t (b.map fun(i,x)=>(i,a.eval x)).toList=some d.toArray:=by unfold Program.built;simp only[v,q,p,j];rw[fI];simpa using D
     unfold execOp;simp only[u,bz,run_build w t _ _ A,bZ];rfl
    cases h
   cases h
  cases h
 cases h
def Iq(ht:iD C w G σ.tm a)(K:aV C.ρ pc=true)(h:zn P σ pc o=some (s,is))(b7:∀it∈is,eR C Φ Pre it):jC P C w G a o s:=by
 unfold zn at h;split at h
 .rename_i t x L g ho;split at h
  .rename_i el e u hu hx;simp only at h;split at h
   .rename_i l k hh k' A F;split at h
    .rename_i W;obtain⟨W,b8⟩:=W;obtain⟨rfl,rfl⟩:=iE h;obtain⟨x1,x2,x3⟩:=dR ht K hx;obtain⟨q,hl,b5,T⟩:=bO.1 x3;have a9:eR C Φ Pre (.jY pc (.bin .and (.bin .le (.aU k 0) l) (.bin .and (.bin .le l hh) (.bin .le hh (.un .len e))))):=b7 _ (by simp);have hb:=a9.2 K
     have kl:∃n:Int,den C.ρ l=.int k n/\l.lt C.N=true/\(∀i,L=some i->a.eval i=.int k n)/\(L=none->n=0):=by
      cases L with
      |none=>simp only[aa,ae]at A;obtain⟨rfl,rfl⟩:=A;exact⟨0,rfl,rfl,by simp,fun _=>rfl⟩
      |some i=>
       simp only at A;split at A
       .rename_i ie ki Y;simp only[aa,ae]at A;obtain⟨rfl,rfl⟩:=A;obtain⟨y1,y2,y3⟩:=dR ht K Y;obtain⟨n,Q,_⟩:=dm.1 y3;exact⟨n,Q,y1,fun j H=>by injection H with H;subst H;exact(Q▸y2).dj,by simp⟩
       cases A
     have kh:∃n:Int,(∃k,den C.ρ hh=.int k n)/\hh.lt C.N=true/\(∀i,g=some i->∃k,a.eval i=.int k n)/\(g=none->n=q.length):=by
      cases g with
      |none=>simp only[aa,ae]at F;obtain⟨rfl,rfl⟩:=F;exact⟨q.length,⟨i64,by simp only[den,U.den,hl,D.V]⟩,by simpa [E.lt]using x1,by simp,fun _=>rfl⟩
      |some i=>
       simp only at F;split at F
       .rename_i ie ki Y;simp only[aa,ae]at F;obtain⟨rfl,rfl⟩:=F;obtain⟨y1,y2,y3⟩:=dR ht K Y;obtain⟨n,Q,_⟩:=dm.1 y3;exact⟨n,⟨_,Q⟩,y1,fun j H=>by injection H with H;subst H;exact⟨_,(Q▸y2).dj⟩,by simp⟩
       cases F
     obtain⟨n,Q,a5,a1,a3⟩:=kl;obtain⟨m,⟨km,hm⟩,a6,b0,b4⟩:=kh;simp only[den,B.den,U.den,hl,Q,hm,D.J,D.Z,D.V,aP,bg]at hb;obtain⟨b1,b2,b3⟩:=hb;have R:den C.ρ (.bin .drop (.bin .take e hh) l)=.list ((q.take m.toNat).drop n.toNat):=by simp only[den,B.den,hl,Q,hm,D.J,D.V]
     have I:((q.take m.toNat).drop n.toNat).length=m.toNat-n.toNat:=by simp;omega
     have a8:∀(z:Tap Addr) (cap:Nat),q.length<=cap->(Instr.sliceAt t (.slice z q.length cap) (L.map a.eval) (g.map a.eval) none).run P w=
       .ok (.slice (if cap=n.toNat then z else z.map (·.add (n.toNat*u.cells.length))) (m.toNat-n.toNat) (cap-n.toNat)) w:=by
      intro z cap f;have h1:=hJ (P:=P) (w:=w) W;have h2:∀kk p,(Instr.sliceBound (.int kk m) cap p).run P w=.ok m.toNat w:=fun kk p=>run_sliceBound w kk m cap p (by omega) (by omega);have h3:∀p,(Instr.sliceBound (.int k n) m.toNat p).run P w=.ok n.toNat w:=fun p=>run_sliceBound w k n m.toNat p (by omega) (by omega)
      have e1:(do
        let m'<-match (none:Tap Tao) with
         |some v=>Instr.sliceBound v cap (if true then .slice3Acap else .slice3Alen)
         |none=>pure cap
        let h<-match g.map a.eval,(none:Tap Tao) with
         |some v,some _=>Instr.sliceBound v m' .slice3B
         |some v,none=>Instr.sliceBound v m' (if true then .sliceAcap else .sliceAlen)
         |none,none=>pure q.length
         |none,some _=>stuck "Slice: max without high"
        let l<-match L.map a.eval with
         |some v=>Instr.sliceBound v h (if(none:Tap Tao).isSome then .slice3C else .sliceB)
         |none=>pure 0
        pure (l,h,m'):Sem (Nat×Nat×Nat)).run P w=.ok (n.toNat,m.toNat,cap) w:=by
       cases g with
       |none=>
        have:=b4 rfl;have X:m.toNat=q.length:=by omega
        cases L with
        |none=>have:=a3 rfl;simp[this,X]
        |some i=>rw[X]at h3;simp[a1 i rfl,h3,X]
       |some j=>
        obtain⟨kk,H⟩:=b0 j rfl;cases L with
        |none=>have:=a3 rfl;simp[this,H,h2]
        |some i=>simp[a1 i rfl,h3,H,h2]
      have e2:(Instr.sliceBounds true q.length cap (L.map a.eval) (g.map a.eval) none).run P w=.ok (n.toNat,m.toNat,cap) w:=e1;simp[Instr.sliceAt,Instr.slice,run_underlying hu,e2,h1]
     have a4:∀{z:Tap Addr} {cap:Nat},a.eval x=.slice z q.length cap->q.length<=cap->(∀v,v=Value.slice (if cap=n.toNat then z else z.map (·.add (n.toNat*u.cells.length))) (m.toNat-n.toNat) (cap-n.toNat)->bV w G.S v (.list ((q.take m.toNat).drop n.toNat)))->jC P C w G a o (.one (.gz (.bin .drop (.bin .take e hh) l) (.list u))):=by
      intro z cap M f a0;refine⟨_,?_,by simp[E.lt,x1,a5,a6],by rw[R];exact a0 _ rfl,?_⟩
      .unfold execOp;simp only[ho,M,Option.map_none,bz,a8 z cap f,bZ];rfl
      rw[R];exact bO.2 ⟨_,rfl,b5.mono (by omega),fun y hy=>T y (cV (dx hy))⟩
     have J:=hl▸x2;by_cases hz:m.toNat-n.toNat=0
     .have a2:(q.take m.toNat).drop n.toNat=[]:=an (by omega)
      have b6:∃z cap,a.eval x=.slice z q.length cap/\q.length<=cap:=by
       generalize a.eval x=v at J;cases J with
       |nil z cap=>exact⟨z,cap,rfl,aB _⟩
       |list b off cap sz xs _ _ _ f=>exact⟨_,cap,rfl,f⟩
      obtain⟨z,cap,M,f⟩:=b6;refine a4 M f fun v V=>?_;rw[a2,V,hz];exact .nil _ _
     generalize a7:a.eval x=v at J;cases J with
     |nil z cap=>simp at b3;omega
     |list b off cap sz xs _ Wm uf f Sw hS hc hw hr=>
      refine a4 a7 f fun v' V=>?_
      have O:sz=u.cells.length:=by
       cases Mg:q with
       |nil=>exact absurd Mg uf
       |cons d r=>
        have:=hw 0 d (by rw[Mg];rfl);rw[<-this];exact(cZ (T d (by rw[Mg];simp))).1
      have Z:cap≠n.toNat:=by omega
      rw[V,if_neg Z,<-I];simp only[aS,fL];have b9:n.toNat*sz<=xs.length:=by rw[Sw];exact aw _ (by omega)
      refine .list b _ _ sz ((xs.drop (n.toNat*sz)).take ((m.toNat-n.toNat)*sz)) _ Wm (fun e=>hz (by rw[<-I,e];rfl)) (by omega) ?_ ?_ ?_ ?_ ?_
      .rw[I,aO,bh,Sw,<-Nat.sub_mul];exact Nat.min_eq_left (aw _ (by omega))
      .intro i g;have:i<xs.length-n.toNat*sz:=by simp at g;omega
       rw[<-O,fu];exact hS _ (by omega)
      .intro i v g;simp only[aC,aL]at g;split at g
       .rw[<-O,fu];exact hc _ v g
       cases g
      .intro i d g;exact hw _ d (by simp only[aL,aC]at g;split at g;exact g;cases g)
      intro i d j v c g H M;simp only[aL,aC]at g;split at g
      .refine hr (n.toNat+i) d j v c g H ?_;simp only[aC,aL]at M;split at M
       .rw[<-M,cq,fu]
       cases M
      cases g
    cases h
   cases h
  cases h
 cases h
def Gu(T:iD C w G σ.tm a)(A:aV C.ρ pc=true)(h:vS P σ pc o=some (s,is))(a1:∀it∈is,eR C Φ Pre it):jC P C w G a o s:=by
 unfold vS at h;split at h
 .rename_i t x l mx ho;split at h
  .rename_i el e u O k mm k' hu hx a3 X;split at h
   .rename_i I;obtain⟨I,a4,rfl⟩:=I;obtain⟨rfl,rfl⟩:=iE h;obtain⟨x1,x2,x3⟩:=dR T A hx;obtain⟨r,hl,Z,L⟩:=bO.1 x3;obtain⟨y1,y2,y3⟩:=dR T A a3;obtain⟨_,z2,_⟩:=dR T A X;obtain⟨m,N,_⟩:=dm.1 y3;have W:eR C Φ Pre (.jY pc (.bin .and (.bin .le (.aU k 0) O) (.bin .le O (.un .len e)))):=a1 _ (by simp);have hb:=W.2 A;simp only[den,B.den,U.den,hl,N,D.J,D.Z,D.V,aP,bg]at hb;obtain⟨b1,b2⟩:=hb;have a2:a.eval l=.int k m:=(N▸y2).dj;have Y:a.eval mx=.int k m:=(N▸z2).dj;have q:den C.ρ (.bin .take e O)=.list (r.take m.toNat):=by simp only[den,B.den,hl,N,D.J,D.V]
    have p:(r.take m.toNat).length=m.toNat:=by simp;omega
    have V:∀(n:Tap Addr) (cap:Nat),r.length<=cap->(Instr.sliceAt t (.slice n r.length cap) none (some (.int k m)) (some (.int k m))).run P w=
      .ok (.slice (if m.toNat=0 then n else n.map (·.add (0*u.cells.length))) m.toNat m.toNat) w:=by
     intro n cap f;have h1:=hJ (P:=P) (w:=w) I;have h2:∀g,(Instr.sliceBound (.int k m) cap g).run P w=.ok m.toNat w:=fun g=>run_sliceBound w k m cap g (by omega) (by omega);have h3:∀g,(Instr.sliceBound (.int k m) m.toNat g).run P w=.ok m.toNat w:=fun g=>run_sliceBound w k m m.toNat g (by omega) (by omega)
     have e2:(Instr.sliceBounds true r.length cap none (some (.int k m)) (some (.int k m))).run P w=.ok (0,m.toNat,m.toNat) w:=by simp[Instr.sliceBounds,h2,h3]
     simp[Instr.sliceAt,Instr.slice,run_underlying hu,e2,h1]
    have M:∀{n:Tap Addr} {cap:Nat},a.eval x=.slice n r.length cap->r.length<=cap->(∀v,v=Value.slice (if m.toNat=0 then n else n.map (·.add (0*u.cells.length))) m.toNat m.toNat->bV w G.S v (.list (r.take m.toNat)))->jC P C w G a o (.one (.clip (.bin .take e O) u)):=by
     intro n cap F f K;refine⟨_,?_,by simp[E.lt,x1,y1],by rw[q];exact K _ rfl,?_,?_⟩
     .unfold execOp;simp only[ho,F,a2,Y,Option.map_none,aS,bz,V n cap f,bZ];rfl
     .rw[q];exact bO.2 ⟨_,rfl,Z.mono (by omega),fun y hy=>L y (cV hy)⟩
     rw[q];simp only[D.V,p];exact⟨_,rfl⟩
    have z:=hl▸x2;by_cases Q:m.toNat=0
    .have a0:∃n cap,a.eval x=.slice n r.length cap/\r.length<=cap:=by
      generalize a.eval x=v at z;cases z with
      |nil n cap=>exact⟨n,cap,rfl,aB _⟩
      |list b off cap sz xs _ _ _ f=>exact⟨_,cap,rfl,f⟩
     obtain⟨n,cap,F,f⟩:=a0;refine M F f fun v H=>?_;rw[H,Q];exact .nil _ _
    generalize R:a.eval x=v at z;cases z with
    |nil n cap=>simp at b2;omega
    |list b off cap sz xs _ Wm uf f Sw hS hc hw hr=>
     refine M R f fun v' H=>?_;rw[H,if_neg Q];simp only[aS,fL,Nat.zero_mul,dL]
     have J:=bV.list (w:=w) (S:=G.S) b off m.toNat sz (xs.take (m.toNat*sz)) (r.take m.toNat) Wm (fun e=>Q (by rw[<-p,e];rfl)) (by omega) (by rw[p,aO,Sw];exact Nat.min_eq_left (aw _ (by omega)))
      (fun i l=>hS _ (by simp at l;omega))
      (fun i v l=>by
       simp only[aC]at l;split at l
       .exact hc _ v l
       cases l)
      (fun i d l=>hw _ d (by simp only[aC]at l;split at l;exact l;cases l))
      (fun i d j v c l hj F=>by
       simp only[aC]at l F;split at l
       .split at F
        .exact hr i d j v c l hj F
        cases F
       cases l)
     rw[p]at J;exact J
   cases h
  cases h
 cases h
end
end Go.dG
